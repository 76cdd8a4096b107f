import Derived.Test.YtccbiehilmhodaaGreatDoorQl4
set_option linter.defProp false
set_option linter.unusedSectionVars false
set_option linter.unusedSimpArgs false
set_option linter.unusedVariables false
set_option maxHeartbeats 4000000
set_option maxRecDepth 100000
open Bool renaming true->aF,false->aM
open Option renaming some->Hg,none->ZQ
open List renaming length->Z8
open Decidable renaming decide->VM
open Go.Value renaming int->O,string->ae,pointer->ah,agg->ai,tuple->aj,bool->ak
open Go.IntKind renaming i64->U,wrap->au
open Go.Ending renaming returned->ao
open _root_.ByteArray renaming mk->aq
open _root_.Go.Proofs.Tryz renaming prog->ar
open Go.Instr renaming buildSlice->av
open Go renaming World->aw,Value->ay,Calls->aA
open Go.Kt renaming Only->az,SliceF->aB,Cells->aD,OnlyP->aE,Blk->aG
open Go renaming World->aw,Value->ay
namespace Go.Proofs.YtccbiehilmhodaaGreatDoor.Con
open Go Go.RowKit Go.Kt Go.Kt.V Go.Proofs.YtccbiehilmhodaaGreatDoor.Vc
def Tk.Good(t:Tk):Prop:=(t.k=2->∃c r,t.t=c::r/\fF c=aF)/\(t.k=4->∃c r,t.t=c::r/\fF c=aM)/\0<=t.n/\t.n<=9223372036854775807
def aiH{m}{q}(h:lZ m=.ok q):q.1≠5/\∀a,Tk.Good ⟨q.1,q.2.1,q.2.2.1,a⟩:=by
 cases m with
 | nil=>cases h
 | cons c r=>
  simp[lZ]at h;split at h
  .rename_i b;rw[nH]at h;split at h
   .cases h
   cases h;have w:fF c=aF:=by unfold fF;rw[b];rfl
   refine⟨by dsimp only;split<;>decide,λa=>⟨λ_=>?_,λd=>?_,Wo,Wo⟩⟩
   .rw[dC,K w];exact⟨c,_,I,w⟩
   dsimp only at d;split at d<;>exact absurd d Z
  rename_i hl;split at h
  .rw[sJ]at h;split at h
   .cases h
   split at h
   .cases h
   cases h;refine⟨Wo,λa=>⟨λh=>absurd h Wo,λh=>absurd h Wo,Sb,?_⟩⟩;rw[gL];split
   .dsimp only;decide
   split
   .dsimp only;decide
   split
   .dsimp only;omega
   dsimp only;decide
  rename_i hd;rw[oc]at h;split at h
  .cases h
  cases h;refine⟨Wo,λa=>⟨λh=>absurd h Wo,λ_=>?_,Wo,Wo⟩⟩;obtain⟨n,b⟩:∃n,jD (c::r)=n+1:=⟨jD (c::r)-1,J⟩
  rw[b,fx];refine⟨c,_,I,?_⟩;rw[fF];rw[fN];exact⟨Wi,by simpa using hd⟩
def afp{l}:∀n i,i<=(Z8 l)->(Z8 l)-i<=n->∀r,j8 l i=.ok r->∃fr a,r=fr++[⟨5,[],0,a⟩]/\(∀t,t∈fr->t.k≠5/\t.Good)/\Z8 r<=(Z8 l)-i+1
 | n,i,c,b,r,h=>by
  rw[jT c]at h;split at h
  .injection h with h;exact⟨[],_,h.symm,λt a=>(by cases a),by rw[<-h,bf];omega⟩
  split at h
  .cases h
  rename_i q d;have g:=uo d;have f:=Ay d;rw[bZ]at f;split at h
  .cases h
  rename_i k j;injection h with h;subst h
  match n,b with
  | 0,b=>omega
  | n+1,b=>
   obtain⟨fr,a,e,o,p⟩:=afp n _ J J _ j;have m:=aiH d;refine⟨_::fr,a,by rw[e];rfl,λt l=>?_,by rw[aY];omega⟩;rcases aZ.1 l with rfl | l
   .exact⟨m.1,m.2 _⟩
   exact o t l
def aas{fr}{a}(b:∀t,t∈fr->t.k≠5):pG (fr++[⟨5,[],0,a⟩]):=λi c=>by
 rw[aP,bf]at c;rw[tk];by_cases h:i<Z8 fr
 .rw[ca h,bH h,iW,aP,bf];exact⟨λe=>absurd e (b _ (List.getElem_mem h)),λe=>J⟩
 have e:i=Z8 fr:=J
 subst e;rw[cG J,oV,aP,bf];exact⟨λ_=>I,λ_=>I⟩
def Pe{l}:∀n i,i<=(Z8 l)->(Z8 l)-i<=n->∀x,j8 l i=.error x->x.1≠0
 | n,i,b,a,x,h=>by
  rw[jT b]at h;split at h
  .cases h
  split at h
  .rename_i e q;cases h;exact G0 q
  rename_i q c;have e:=uo c;have d:=Ay c;rw[bZ]at d;split at h
  .rename_i y f;cases h
   match n,a with
   | 0,a=>omega
   | n+1,a=>exact Pe n _ J J _ f
  cases h
def mP{l}(h:(cQ l).2.1=0):pG (cQ l).1/\(∀t,t∈(cQ l).1->t.Good)/\0<(cQ l).1.length/\(cQ l).1.length<=16385:=by
 unfold cQ at h⊢;split at h
 .cases h
 rename_i b;rw[W b];cases r:j8 l 0 with
 | error x=>
  rw[r]at h;exact absurd h (Pe (Z8 l) 0 J J _ r)
 | ok d=>
  have⟨fr,a,e,f,n⟩:=afp (Z8 l) 0 J J d r;dsimp only;subst e;refine⟨aas λt c=>(f t c).1,λt c=>?_,RC,J⟩;rcases dc.1 c with c | c
  .exact(f t c).2
  simp at c;subst c;exact⟨λh=>absurd h Wo,λh=>absurd h Wo,Wo,Wo⟩
section
section
variable {F:aK} {ts:X Tk} {w w' w2:aw} {b:Nat} {l:Sl} {s s':Sx}
def Pf:∀(f:Nat) (d:Int),0<=d->d<f->d<=9223372036854775807->adk F ts b l f d
 | 0,d,h,a,_=>J
 | f+1,d,h0,h1,p=>by
  intro k u w c hd;refine iE (akM ?_);intro a w0 Q o m;have t:=c.zt.al m Q o;refine(JO t.r k).mono ?_;rintro _ w1 ⟨rfl,h⟩;have g:=t.nx h;have E:=qD c.en k u;have e:=ahA (ts:=ts) (k:=k) (s:=u);rw[fl];have vg:(cy ts k u).1.ini=[]/\(cy ts k u).1.dft=[]/\(cy ts k u).1.en=[]/\(cy ts k u).1.lv=[]/\(cy ts k u).1.mv=[]:=⟨I,I,I,I,I⟩
  generalize cy ts k u=N at*
  obtain⟨M,Z⟩:=N;obtain⟨r,v,z,A,B⟩:=vg;obtain⟨V,i,j,L,P,X,Y,H⟩:=M;subst r v z A B;refine⟨_,_,_,_,Sl.nil,Sl.nil,Sl.nil,Sl.nil,_,I,t.sc h R,λhc k1 w2 F C l=>?_,λhc D dk G T S=>?_⟩
  .rw[K Ro];have f:=g.al l F C;obtain⟨q,w3,b,s,d⟩:=sV f.r [45,62];have t3:=f.q s;refine⟨q,w3,b,f.sq s R,d.mono ?_⟩;rintro _ w4 ⟨rfl,x⟩;have k:=t3.nx x;refine⟨I,t3.sc x R,(zu k.r).mono ?_⟩;rintro _ w5 ⟨rfl,y⟩;refine⟨_,I,k.sc y R,λw6 dN=>?_⟩;have n:=(k.nx y).f dN R;obtain⟨q,w7,b,w,d⟩:=sV n.r [59];have t7:=n.q w;refine⟨q,w7,b,n.sq w R,d.mono ?_⟩;rintro _ w8 ⟨rfl,h8⟩;refine⟨I,t7.sc h8 R,λw9 fm=>⟨_,I,⟨Sl.nil,Sl.nil,Sl.nil,Sl.nil,I,⟨TG _ _ _ _ _ _,TG _ _ _ _ _ _,TG _ _ _ _ _ _⟩,TG _ _ _ _ _ _⟩,((t7.nx h8).f fm R).dn⟩⟩
  rw[W M1];have am:=g.al S G T;obtain⟨q,dz,e1,dl,hm⟩:=sV am.r [123];have aT:=am.q dl;refine⟨q,dz,e1,am.sq dl R,hm.mono ?_⟩;rintro _ eF ⟨rfl,xi⟩;have k:=aT.nx xi;have aC:=dX (s:=Z) c.en [123];refine⟨I,aT.sc xi R,λhB _=>?_⟩;have aS:=aC.d.trans (E.d.trans hd);refine(adZ (f:=f) k.r (j9:=[]) (n:=⟨V,i,[],[],[],[],[],H⟩) I I I hB (k.r.gt (k.lt R)) (by rw[aS];exact⟨J,p⟩) (λhf=>?_)).mono ?_
  .have b:=e (aC.le hf).1;rw[hd]at b;have n:mZ d=d-1:=Qc
   rw[aS,n];exact⟨J,Pf f _ J J J⟩
  rintro _ s ⟨rfl,cs,vj,hx,n,d⟩;have yx:=hx;obtain⟨xe,xl,xm,xk,rfl,_⟩:=yx;have q:Fz [b] w s [D,a]:=k.z.go n λx hx=>ph
  have l0:=k.lt (k0:=a) R;refine⟨I,k.z.sm n R (λx hx=>?_),_,_,_,_,xe,xl,xm,xk,_,vj,λfR f BQ=>⟨_,I,?_,?_⟩⟩
  .simp at hx;rcases hx with rfl | rfl
   .exact .inl R
   exact .inr λy hy=>Uo
  .refine(ck aF _).low ((ck aF _).stay hx ((EK _ _).f f (.inl ?_))) k.z.o.size;have:=(k.z.k a R).2;exact this
  exact⟨(q.f f R).o,d.one f l0⟩
def afO(j:Sr F ts w b l s)(m:∀t,t∈ts->t.Good):aA ar 76 #[rp b] w λe w'=>e=ao (ai #[ae (T (mc ts s).1.n),O U (mc ts s).1.v,O U (mc ts s).1.a])/\Dn F ts w w' b l (mc ts s).2:=by
 refine ret (akt ?_);intro o v Q L h;have a:=j.zt.al h Q L;have⟨ad,g,i⟩:=a.r.now;rw[mc];generalize f:(if(tk ts s.i).k=1 then sP ts s else s)=p;refine⟨λw'=>Zt F ts w w' b l p [o],λy c=>(zr c.r (k:=1) Z).mono ?_,l,Mn a.r.blk 0 I,_,Mn a.r.blk 1 I,ad,g,_,i.dx 0 _ I,λhc r d=>?_,λhc u H=>?_⟩
 .rintro _ w2 ⟨rfl,G⟩;refine⟨_,_,_,_,I,c.sc G R,λk1 w3 ki ik db=>?_⟩;have A:=(c.nx G).al db ki ik;have⟨q,w4,b,E,s⟩:=sV A.r [61];have T:=A.q E;refine⟨q,w4,b,A.sq E R,s.mono ?_⟩;rintro _ w5 ⟨rfl,M⟩;have B:=T.nx M;refine⟨I,T.sc M R,?_⟩;have⟨q,w6,b,N,s⟩:=FB B.r [[45]] (n:=1) (parts:=#[_]) I I Z Z;have X:=B.q N;refine⟨q,w6,b,B.sq N R,s.mono ?_⟩;rintro _ w7 ⟨rfl,P⟩;have C:=X.nx P;generalize z:bR ts _ [[45]]=l at*
  have am:l<=1:=by rw[<-z];exact ahQ _
  refine⟨_,I,X.sc P R,(zr C.r (k:=3) Z).mono ?_⟩;rintro _ w8 ⟨rfl,S⟩;have D:=C.nx S;refine⟨_,_,_,_,I,C.sc S R,?_⟩;have⟨q,w9,b,F,s⟩:=sV D.r [59];have Y:=D.q F;refine⟨q,w9,b,D.sq F R,s.mono ?_⟩;rintro _ dk ⟨rfl,V⟩;refine⟨I,Y.sc V R,λdz dl=>⟨?_,((Y.nx V).f dl R).dn⟩⟩;have hn:∀w,0<=(cY ts w 3).1.n/\(cY ts w 3).1.n<=9223372036854775807:=λw=>by
   rw[cY];split
   .exact⟨kQ 0,(by decide:(0:Int)<=9223372036854775807)⟩
   rw[tk];rcases hx:ts[w.i]? with _|t
   .exact⟨kQ 0,(by decide:(0:Int)<=9223372036854775807)⟩
   exact(m t (bA hx)).2.2
  obtain _:=hn _;generalize (cY ts _ 3).1.n=x at*
  have e:au U ((au U (1-(au U (2*l))))*x)=if l=0 then x else au U (-x):=by
   rcases(by omega:l=0∨l=1)with rfl | rfl
   .show au U (1*x)=x;rw[Int.one_mul,eS J J]
   rw[W Z];show au U (-1*x)=_;rw[Int.neg_one_mul]
  rw[e]
 .refine(afK (a.q d).r).mono ?_;rintro _ e ⟨rfl,t⟩;refine⟨I,(a.q d).sc t R,?_⟩;rw[<-f,K R0];exact(a.q d).nx t
 rw[<-f,W R0];exact a.q H
end
def JQ w F:ChR aF 15 w F ch0 Sl.nil (rz 0 [] [] [] Sl.nil Sl.nil Sl.nil Sl.nil 0):=⟨TG _ _ _ _ _ _,Ve Z _ _⟩
def ChR.stay{d}{w w'}{B}{c}{vs}{cs}(h:ChR aF d w (Fr B) c vs cs)(s:Stay B w w'):ChR aF d w' (Fr B) c vs cs:=⟨h.vars.stay ec Z s,(ck aF d).stay h.root s⟩
def ChR.low{d}{w}{A B}{c}{vs}{cs}(h:ChR aF d w (Fr B) c vs cs)(a:A<=B):ChR aF d w (Fr A) c vs cs:=⟨h.vars.low ec a,(ck aF d).low h.root a⟩
def Vg{ts}(h:pG ts){s}{ss}(i:s.i<Z8 ts)(w:bR ts s ss≠0):mu ts (mc ts (bP s)).2<mu ts s:=
 pb h (cP w).1 i (cP w).2 (Ha h _).toOn0
def JR{w:aw}(l:S)(hE:Er w):aA ar 33 #[ae (T l)] w λe c=>
  ∃(Q:Sl) (s:aJ),e=ao (aj #[ai (Q.v::s).toArray,ai #[O U (fg l).2.1,O U (fg l).2.2]])/\ChR aF 15 c (Fr w.heap.size) (fg l).1 Q s/\az [] w c:=by
 refine iE (akg ?_);generalize h:fg l=Y;unfold fg at h;intro m o H fQ dL ki ik z;have z0:=z.size;refine(neN l (hE.only z)).mono ?_;rintro _ j ⟨r,rfl,P,A⟩;have z1:=A.size;have N:=z.cn A;have g:=mP (l:=l);have u:∀{L M:aw},az [] j L->az [o,m] L M->az [] w M:=λp E=>((N.cn p).trans E λx hx=>.inr Wq)
 refine⟨r,_,_,I,A.same C,λhc k2 L mE nT p n1 n2 n3=>⟨λk=>k=k2,I,λe=>n2 e,λe=>n3 e,λM E=>?_⟩,λhc k3 a b w4 yw tD pV xA mo Ae B=>?_⟩
 .have hc:(cQ l).2.1≠0:=R0
  rw[K hc]at h;subst h;exact⟨Sl.nil,_,I,JQ _ _,u p E⟩
 have hc:(cQ l).2.1=0:=R0
 obtain⟨NU,Ie,X5,fS⟩:=g hc;rw[W R0]at h;have el:=((P.sl.inHeap gz Z).mono gz (G:=λk=>H.heap.size<=k/\k<j.heap.size) λk hk=>⟨hk.1.1,hk.2⟩)
 generalize (cQ l).1=ts at*
 clear g P;have z4:=B.size;obtain⟨q,w5,e1,hq,dP⟩:=jb w4 [dB] (n:=1) (parts:=#[(0,ae (T dB))]) I I Z Z;have z5:=dP.size;refine⟨q,w5,e1,dP.same C,λvi oR pi pm bY=>?_⟩;have r5:Sr _ ts w5 a r me:=⟨vi,Aw gz Z el (B.cn dP) R,λk hk=>ZD,NU,X5,J⟩
 have QN:∀k,(λk=>H.heap.size<=k/\k<j.heap.size) k->k<j.heap.size:=λk hk=>hk.2;generalize (λk=>H.heap.size<=k/\k<j.heap.size)=F at*
 have dO:az [] w w5:=(N.cn B).cn dP;have sm:∀{am u':aw} {x:Sx},w5.heap.size<=am.heap.size->Dn F ts am u' a r x->cF [m,o,k3,b] am u':=λhz d=>d.o.same (by
  intro x hx;simp only[aZ,bB,cE]at hx⊢;omega)
 have sq:∀{am u':aw},w5.heap.size<=am.heap.size->az [] am u'->cF [m,o,k3,a,b] am u':=λhz bv=>bv.same λx hx=>⟨by
  simp only[aZ,bB,cE]at hx;omega,R⟩
 have oD:∀{am u':aw} {x:Sx},az [] w am->Dn F ts am u' a r x->az [] w u':=λbv d=>bv.trans d.o λx hx=>.inr IG;have o5:∀{am u':aw},az [] w am->az [b] am u'->az [] w u':=λbv d=>bv.trans d λx hx=>.inr IG;have cC:∀{am u':aw} {x:Sx},Sr F ts am a r x->az [b] am u'->Sr F ts u' a r x:=λrx bv=>rx.agG bv ⟨bY,λhF=>by have:=QN _ hF;omega⟩;have Tg:=vi.lt;refine(aix r5 (pT hq) λk hk e=>Wm).mono ?_;rintro _ w6 ⟨rfl,h6⟩;have z6:=h6.o.size;refine⟨I,sm (aX _) h6,r,_,_,_,_,_,_,_,_,h6.r.blk,(JO h6.r 1).mono ?_⟩;rintro _ w7 ⟨rfl,h7⟩;have z7:=h7.o.size;have hC:oE ts=(⟨(gK ts (Z8 ts+1) [] (cA ts (cy ts 1 (cA ts me dB)).2 [123])).1,(jl ts (fl ts 14) (cy ts 1 (cA ts me dB)).1 (gK ts (Z8 ts+1) [] (cA ts (cy ts 1 (cA ts me dB)).2 [123])).2).1⟩,xq ts (jl ts (fl ts 14) (cy ts 1 (cA ts me dB)).1 (gK ts (Z8 ts+1) [] (cA ts (cy ts 1 (cA ts me dB)).2 [123])).2).2):=I;have vg:(cy ts 1 (cA ts me dB)).1.ini=[]/\(cy ts 1 (cA ts me dB)).1.dft=[]/\(cy ts 1 (cA ts me dB)).1.en=[]/\(cy ts 1 (cA ts me dB)).1.lv=[]/\(cy ts 1 (cA ts me dB)).1.mv=[]:=⟨I,I,I,I,I⟩
 have iS:On ts me (cy ts 1 (cA ts me dB)).2:=(dX NU _).trans (qD NU _ _);generalize cy ts 1 (cA ts me dB)=lT at*
 obtain⟨⟨nk,Iy,mt,mK,pP,qr,ro,na⟩,u1⟩:=lT;dsimp only at*
 obtain⟨i1,i2,i3,i4,i5⟩:=vg;subst i1 i2 i3 i4 i5;refine⟨_,_,_,_,Sl.nil,Sl.nil,Sl.nil,Sl.nil,_,I,sm z6 h7,r,_,_,_,_,_,_,_,_,h7.r.blk,λw8 ft re=>?_⟩;have z8:=ft.size;have r8:=cC h7.r ft;have lE:=o5 (oD (oD dO h6) h7) ft;obtain⟨q,w9,e1,fm,hm⟩:=sV r8 [123];have z9:=fm.size;refine⟨q,w9,e1,sq J fm,hm.mono ?_⟩;rintro _ dk ⟨rfl,mV⟩;have EW:=mV.o.size;have f5:=oD (lE.cn fm) mV;have eQ:On ts me (cA ts u1 [123]):=iS.trans (dX NU _);clear hm;generalize cA ts u1 [123]=u2 at*
 generalize hV:gK ts (Z8 ts+1) [] u2=V at*
 generalize hB:dk.heap.size=aT at*
 refine⟨I,sm J mV,r,_,_,_,_,_,_,_,_,mV.r.blk,λnv aC ge s3 s4 s5 pr pL xx Ab gE A4 gG gO gT g8 g9 ip iD iF c=>∃(am:Sx) (aS:X Vr),ge=nk/\s3=T Iy/\s4=T []/\s5=T []/\pr=Sl.nil/\pL=Sl.nil/\xx=Sl.nil/\Ab=Sl.nil/\gE=na/\Sr F ts c a r am/\Own MR 3 69 aT c (Fr aT) aC aS/\gK ts nv aS am=V/\mu ts am<nv/\Z8 aS+mu ts am<=Z8 ts/\az [] w c/\aT<=c.heap.size/\am.d=12,
  (Z8 ts)+1,⟨u2,[],I,I,I,I,I,I,I,I,I,mV.r,Vf _ _ _ _ _ _,hV,jw (jL _ _),MM,f5,ri hB.symm,eQ.d⟩,?_⟩
 clear hV;rintro nv aC ce _ _ _ _ _ _ _ cc A4 gG gO gT g8 g9 ip iD iF dz ⟨am,aS,rfl,rfl,rfl,rfl,rfl,rfl,rfl,rfl,rfl,co,Lr,hR,W3,Aa,fd,zB,X6⟩;obtain⟨iN,rfl⟩:∃iN,nv=iN+1:=⟨nv-1,J⟩
 rw[gK]at hR;obtain⟨q,eF,e1,dV,hm⟩:=FB co [uu] (n:=1) (parts:=#[(0,ae (T uu))]) I I Z Z;have tO:=dV.size;refine⟨q,eF,e1,sq J dV,hm.mono ?_⟩;rintro _ eM ⟨rfl,tG⟩;have Tu:=tG.o.size;have X7:=oD (fd.cn dV) tG;have bV:Own MR 3 69 aT eM (Fr aT) aC aS:=(Lr.stay ec dV λx hx=>Rg).stay ec tG.o λx hx=>.inl IG;refine⟨_,I,sm J tG,r,_,_,_,_,_,_,_,_,tG.r.blk,λuX fR eH BQ=>?_,λuX vj nO oF oN=>?_⟩
 .have uX:=MZ uX;rw[W uX]at hR tG;have wf:=eH.size;have uP:=tG.r.only eH;refine⟨λk=>k=b,I,(afO uP Ie).mono ?_⟩;rintro _ gV ⟨rfl,d⟩;have As:=d.o.size;have Lm:=Vg NU co.lt uX;have EA:=Ha NU (bP am);generalize mc ts (bP am)=wd at*
  obtain⟨x,u'⟩:=wd;dsimp only at*
  have Ez:=jL ts am;have ut:Own MR 3 69 aT gV (Fr aT) aC aS:=(bV.stay ec eH λx hx=>Rg).stay ec d.o λx hx=>.inl IG;obtain⟨y,iO,e2,n,A9,iz,e3,mU,⟨gs,f,qT⟩,_⟩:=jy (P:=ar) (t:=23) (ty:=23) (e:=69) (i:=Tryz.t69) (bytes:=32) (size:=3) (v:=ai #[ae (T x.n),O U x.v,O U x.a]) (x:=x) (G:=λ_=>False) D D I I I I Z Z Z ec ut J I I (λk hk _=>hk.elim) J;have kB:∀q,q∈gs->aT<=q:=λq hg=>(qT q hg).2.1;have AC:=n.size;have AS:=f.size;refine⟨_,_,_,I,sm J d,r,_,_,_,_,_,_,_,_,d.r.blk,λk hk bT=>(by subst hk;exact d.o.block k bT Gs),y,iO,e2,sq J n,VI n,A9,iz,e3,f.same (λx hx=>?_),λk hk bT=>(by subst hk;exact f.block k bT λhm=>Pa),λiU V XZ=>?_⟩
  .simp only[aZ,bB,cE]at hx;exact⟨J,λhm=>by have:=kB x hm;omega⟩
  have i:=V.size;have e:Sr F ts iz a r u':=(d.r.only n).own f λx hx=>Ji
  refine⟨iN,oW _,u',aS++[x],I,I,I,I,I,I,I,I,I,cC e V,?_,hR,J,RC,o5 (((oD (X7.cn eH) d).cn n).trans f λx hx=>.inr (by have:=kB x hx;have:=X7.size;omega)) V,J,EA.d.trans X6⟩;refine(mU.mono ec λk hk=>?_).stay ec V λx hx=>.inl IG;rcases hk with hk | hk
  .exact hk
  show aT<=k;omega
 have uX:=MY uX;rw[K uX]at hR tG;subst hR;dsimp only at hC;have GE:=tG.r;refine(adZ (f:=14) GE (j9:=[aC.v]) (n:=⟨ce,Iy,[],[],[],[],[],cc⟩) I I I vj ⟨bY,λhF=>(by have:=QN _ hF;omega)⟩ (by rw[X6];exact⟨Z,Z⟩) (λ_=>by
  rw[X6];exact⟨Z,Pf 14 11 Z Z Z⟩)).mono ?_
 generalize jl ts (fl ts 14) ⟨ce,Iy,[],[],[],[],[],cc⟩ am=GG at*
 obtain⟨t,s1⟩:=GG;dsimp only at hC;rw[hC]at h;dsimp only at h;rintro _ li ⟨rfl,s,SL,hx,lV,AT⟩;dsimp only at*
 have GO:=lV.size;have Bv:az [] w li:=X7.trans lV λx hx=>.inr Wq;have BV:Stay aT eM li:=Uh lV λx hx=>.inl Wq;have BY:ChR aF 15 li (Fr w5.heap.size) ⟨aS,t⟩ aC s:=⟨((bV.sl ec λk hk=>hk).stay ec Z BV).low ec J,(ck aF 15).low hx J⟩
 have yx:=hx;obtain⟨q,G,O,v,rfl,_⟩:=yx;have T:∀{am u':aw} {bs:X Nat},w5.heap.size<=am.heap.size->az bs am u'->(∀x,x∈bs->x=a∨x=b)->cF [m,o,k3] am u':=λhz bv hb=>bv.same λx hx=>⟨Wq,λhm=>by have:=hb x hm;simp only[aZ,bB,cE]at hx;omega⟩
 refine⟨I,T J lV R,r,_,_,_,_,_,_,_,_,AT.blk,aC,_,_,_,_,q,G,O,v,_,SL,?_⟩;have st:∀{am u':aw} {x:Sx},Sr F ts am a r x->aG am b 30 _->az [] w am->ChR aF 15 am (Fr w5.heap.size) ⟨aS,t⟩ aC _->∀{y:Sx},Dn F ts am u' a r y->Sr F ts u' a r y/\aG u' b 30 (aC.v::rz t.b.k t.b.nm t.b.ini t.b.dft q G O v t.b.a)/\az [] w u'/\ChR aF 15 u' (Fr w5.heap.size) ⟨aS,t⟩ aC (rz t.b.k t.b.nm t.b.ini t.b.dft q G O v t.b.a):=fun{am u' x} i V a3 a4 {y} d=>
  ⟨d.r,d.o.blk V Gs,oD a3 d,a4.stay (Uh d.o λx hx=>.inl IG)⟩
 refine⟨λYR Cc Ey xQ EV YS YU YV YW CC Gt Do DO EQ Fd Fn FS Ge Gg jN=>w5.heap.size<=jN.heap.size/\Sr F ts jN a r (xq ts s1)/\aG jN b 30 (aC.v::rz t.b.k t.b.nm t.b.ini t.b.dft q G O v t.b.a)/\az [] w jN/\ChR aF 15 jN (Fr w5.heap.size) ⟨aS,t⟩ aC (rz t.b.k t.b.nm t.b.ini t.b.dft q G O v t.b.a),?_,?_⟩
 .rintro YR Cc Ey xQ EV YS YU YV YW CC Gt Do DO EQ Fd Fn FS Ge Gg jN ⟨n,i,V,a3,a4⟩;refine(pd i).mono ?_;rintro _ mD ⟨rfl,d⟩;obtain⟨b1,b2,F,b4⟩:=st i V a3 a4 (i.dn.q d);have IO:=d.size;refine⟨_,I,T n d R,r,_,_,_,_,_,_,_,_,b1.blk,aC,_,_,_,_,q,G,O,v,_,b2,λhf ra rU _ _ GT H1 f Id If Y8 Is ID IF IN=>⟨λk=>k=a,I,λe=>f e,λe=>Y8 e,λtw rV _ _=>?_⟩,λhf vh y _ _=>?_⟩
  .have hf:(xq ts s1).fc≠0:=RS
   rw[K hf]at h;subst h;exact⟨Sl.nil,_,I,JQ _ _,(F.cn rU).trans rV λx hx=>.inr Wq⟩
  have hf:¬(xq ts s1).fc≠0:=RS
  rw[W hf]at h;subst h;refine⟨aC,_,I,(b4.stay (Uh y λx hx=>.inl Wq)).low dO.size,F.trans y λx hx=>.inr Wq⟩
 refine⟨λd QU f Ss W8 NH W9 Xa Xb QV k Nm n x y IS Le Lt LT MK e=>d=VM (s1.fc=0/\(tk ts s1.i).k≠5)/\w5.heap.size<=e.heap.size/\Sr F ts e a r s1/\aG e b 30 (aC.v::rz t.b.k t.b.nm t.b.ini t.b.dft q G O v t.b.a)/\az [] w e/\ChR aF 15 e (Fr w5.heap.size) ⟨aS,t⟩ aC (rz t.b.k t.b.nm t.b.ini t.b.dft q G O v t.b.a),?_,λtB tF _ _=>?_⟩
 .rintro d QU f Ss W8 NH W9 Xa Xb QV k Nm n x y IS Le Lt LT MK e ⟨rfl,F,i,V,a3,a4⟩;unfold xq;refine⟨λhb=>(we i).mono ?_,λhb=>?_⟩
  .rw[K (aO hb)];rintro _ qR ⟨rfl,Zc⟩;obtain⟨d,b2,b3,b4⟩:=st i V a3 a4 Zc;have No:=Zc.o.size;exact⟨I,T F Zc.o R,r,_,_,_,_,_,_,_,_,d.blk,aC,_,_,_,_,q,G,O,v,_,b2,J,d,b2,b3,b4⟩
  rw[W (aR hb)];exact⟨F,i,V,a3,a4⟩
 have NO:=tF.size;obtain⟨i,V,a3,a4⟩:=st AT SL Bv BY (AT.dn.q tF);refine(pd i).mono ?_;rintro _ xy ⟨rfl,uL⟩;obtain⟨d,F,b3,b4⟩:=st i V a3 a4 (i.dn.q uL);have Of:=uL.size;obtain⟨ad,g1,g2⟩:=d.now;refine⟨_,I,T J uL R,r,_,_,_,_,_,_,_,_,d.blk,aC,_,_,_,_,q,G,O,v,_,F,λhb=>⟨ad,g1,_,g2.dx 0 _ I,?_,J,d,F,b3,b4⟩,λhb=>⟨?_,J,d,F,b3,b4⟩⟩
 .have hb:s1.fc=0:=Ma
  rw[bL];simp[hb]
 have hb:¬s1.fc=0:=Ma
 simp[hb]
def Bu(w:aw)(b k:Nat):Prop:=∃n c,w.cell? ⟨b,1,ZQ⟩=Hg (.slice (Hg ⟨k,0,ZQ⟩) n c)
structure Mw (f:Bool) (b:Nat) (w w':aw):Prop where
 o:aE (λk=>k=b∨(f=aM/\Bu w b k)) w w'
 u:∀k,Bu w' b k->Bu w b k∨(f=aM/\w.heap.size<=k)
abbrev St:=L×Int
structure Qz (w0:aw) (b:Nat) (w:aw) (l:S) (st:St):Prop where
 o:az [] w0 w
 lo:w0.heap.size<=b
 ex:∃(q:Option Addr) (sl:Sl),(q=ZQ∨q=Hg ⟨b,0,ZQ⟩)/\aG w b 276 [ah q,sl.v,ak st.1,O U st.2]/\Bf w (b+1) sl l
 i:st.1=aM->0<=st.2/\st.2<=400
 big:Z8 l<=274877906944
structure Up (st:St) (c:Bool) (n:Nat) (dj:St):Prop where
 w:dj.1=((st.1||!c)||decide (400<st.2+n))
 a:dj.1=aM->dj.2=st.2+n
def JD{a b c}(h:aM=((a||!b)||c)):a=aM/\b=aF/\c=aM:=by
 revert h;cases a<;>cases b<;>cases c<;>decide
def Up.ok{st dj}{c}{n}(h:Up st c n dj)(e:dj.1=aM):st.1=aM/\c=aF/\dj.2=st.2+n/\¬400<st.2+n:=by
 obtain⟨a,b,d⟩:=JD (e.symm.trans h.w);exact⟨a,b,h.a e,aR d⟩
def Up.tr{st dj ahR}{c c'}{n n'}(h:Up st c n dj)(k:Up dj c' n' ahR):Up st (c&&c') (n+n') ahR:=by
 cases e:ahR.1
 .obtain⟨d,f,k3,j⟩:=k.ok e;obtain⟨a,b,g,i⟩:=h.ok d;have c:¬400<st.2+((n+n':Nat)):=J
  refine⟨?_,λ_=>J⟩;rw[e,a,b,f,bC c];rfl
 refine⟨?_,λb=>by rw[e]at b;cases b⟩;rw[e];refine Eq.symm (bM λj=>?_);obtain⟨f,a,c⟩:=JD (io.2 j).symm;rw[H]at a;have c:=aR c;have g:¬400<st.2+n:=J
 have d:dj.1=aM:=by rw[h.w,f,a.1,bC g];rfl
 have b:=h.a d;have i:¬400<dj.2+n':=J
 have:=k.w;rw[e,d,a.2,bC i]at this;cases this
def Up.cg{st dj}{c c'}{n n'}(h:Up st c n dj)(e:c=c')(a:n=n'):Up st c' n' dj:=by subst e a;exact h
def Up.le{st dj}{c}{n}(h:Up st c n dj)(f:st.1=aM->0<=st.2)(e:dj.1=aM):0<=dj.2/\dj.2<=400:=by
 obtain⟨a,b,d,g⟩:=h.ok e;have:=f a;omega
section
variable {f g:L} {w0 ws w w' w1 tQ:aw} {b k:Nat} {l l':S} {st dj:St} {ks ks':X Nat}
def Mw.refl f b w:Mw f b w w:=⟨Jk _ _,λ_ h=>.inl h⟩
def Mw.trans(a:Mw f b w w')(k:Mw f b w' tQ):Mw f b w tQ:=by
 have z:=a.o.size;refine⟨a.o.trans k.o λx h=>?_,λx h=>?_⟩
 .rcases h with h | ⟨f,h⟩
  .exact .inl (.inl h)
  rcases a.u x h with e | ⟨_,e⟩
  .exact .inl (.inr ⟨f,e⟩)
  exact .inr e
 rcases k.u x h with e | ⟨f,e⟩
 .exact a.u x e
 exact .inr ⟨f,J⟩
def Mw.up(a:Mw f b w w'):Mw aM b w w':=⟨a.o.mono λk _ h=>h.elim .inl λe=>.inr ⟨I,e.2⟩,λk h=>(a.u k h).elim .inl λe=>.inr ⟨I,e.2⟩⟩
def Mw.only1(h:Mw aF b w w'):az [b] w w':=h.o.ang λk a=>a.elim (λe=>.inl (by rw[e];simp)) λe=>(by cases e.1)
def zv(a:w'.heap[b]? =w.heap[b]?){k}(d:Bu w' b k):Bu w b k:=by
 obtain⟨n,c,h⟩:=d;refine⟨n,c,?_⟩;unfold World.cell? at h⊢;rw[a]at h;exact h
def Qz.lb(h:Qz w0 b w l st):b<w.heap.size:=by
 obtain⟨q,sl,_,B,_⟩:=h.ex;exact B.lt
def Qz.arg(a:Qz w0 b w l st)(c:Qz w0 b w' l' dj){k}(h:k<w0.heap.size):w'.heap[k]? =w.heap[k]? :=(c.o.block k h R).trans (a.o.block k h R).symm
def Mw.only(a:b<w.heap.size)(h:az [] w w'):Mw f b w w':=⟨h.p0,λk c=>.inl (zv (h.block b a R) c)⟩
def Ph{q v2 v3}{t}{sl:Sl}(B:aG w b t [q,sl.v,v2,v3]){k}(h:Bu w b k):sl.a=Hg ⟨k,0,ZQ⟩:=by
 obtain⟨n,c,d⟩:=h;have:=Mn B 1 I 0 sl.v I;have e:(Addr.add ⟨b,0,ZQ⟩ 1).add 0=⟨b,1,ZQ⟩:=I;rw[e,d]at this;have:=CH this;injection this with a _ _;exact a.symm
def JS{q v2 v3}{t}{sl:Sl}(B:aG w b t [q,sl.v,v2,v3]){k}(h:sl.a=Hg ⟨k,0,ZQ⟩):Bu w b k:=by
 have:=Mn B 1 I 0 sl.v I;have e:(Addr.add ⟨b,0,ZQ⟩ 1).add 0=⟨b,1,ZQ⟩:=I;rw[e]at this;refine⟨sl.n,sl.c,?_⟩;rw[this,<-h]
def Qz.bu(h:Qz w0 b w l st){k}(c:Bu w b k):b<k/\k<w.heap.size:=by
 obtain⟨q,sl,_,B,a⟩:=h.ex;have:=a.lt (Ph B c);omega
def Qz.only(h:Qz w0 b w l st)(O:az [] w w'):Qz w0 b w' l st:=by
 obtain⟨q,sl,d,B,a⟩:=h.ex;exact⟨h.o.cn O,h.lo,⟨q,sl,d,O.blk B R,a.keep λg _ c=>O.block g c R⟩,h.i,h.big⟩
structure Zq (f:Bool) (w0 ws:aw) (b:Nat) (w:aw) (l:S) (st:St) (ks:List Nat):Prop extends Qz w0 b w l st where
 m:Mw f b ws w
 k:∀k,k∈ks->k<w.heap.size/\k≠b/\¬Bu w b k
def Qz.z f (h:Qz w0 b w l st):Zq f w0 w b w l st []:=⟨h,Mw.refl f b w,λk hk=>UA⟩
def Zq.q(t:Zq f w0 ws b w l st ks)(h:az [] w w'):Zq f w0 ws b w' l st ks:=by
 have a:=t.toQz.lb;refine⟨t.toQz.only h,t.m.trans (Mw.only a h),λk i=>?_⟩;obtain⟨d,e,g⟩:=t.k k i;exact⟨cD d h.size,e,λc=>g (zv (h.block b a R) c)⟩
def Zq.al(t:Zq f w0 ws b w l st ks)(O:az [] w w')(e:w.heap.size<=k)(c:k<w'.heap.size):Zq f w0 ws b w' l st (k::ks):=by
 have d:=t.toQz.lb;have a:=t.q O;refine⟨a.toQz,a.m,λx h=>?_⟩;rcases aZ.1 h with rfl | h
 .exact⟨c,J,λf=>by have:=(t.toQz.bu (zv (O.block b d R) f)).2;omega⟩
 exact a.k x h
def Zq.nx(t:Zq f w0 ws b w l st ks)(p:Qz w0 b w' l' dj)(m:Mw f b w w'):Zq f w0 ws b w' l' dj ks:=by
 refine⟨p,t.m.trans m,λk g=>?_⟩;obtain⟨a,c,d⟩:=t.k k g;exact⟨cD a m.o.size,c,λh=>(m.u k h).elim d λe=>by have:=e.2;omega⟩
def Zq.sq(t:Zq f w0 ws b w l st ks)(h:az [] w w')(a:∀k,k∈ks'->k∈ks):cF ks' w w':=h.same λx c=>⟨(t.k x (a x c)).1,R⟩
def Zq.sm(t:Zq f w0 ws b w l st ks)(m:Mw g b w w')(h:∀k,k∈ks'->k∈ks):cF ks' w w':=m.o.same λx a=>⟨(t.k x (h x a)).1,λc=>c.elim (t.k x (h x a)).2.1 λe=>(t.k x (h x a)).2.2 e.2⟩
def Zq.sj(t:Zq f w0 ws b w l st ks)(z:w.heap.size<=w1.heap.size)(h:aE (λk=>w.heap.size<=k) w1 w')(a:∀k,k∈ks'->k∈ks):cF ks' w1 w':=h.same λx c=>by
 have:=(t.k x (a x c)).1;exact⟨J,J⟩
def Zq.row(t:Zq aF w0 ws b w l st ks)(r:b<ws.heap.size)(u:∀k,Bu ws b k->k<ws.heap.size)(O:aE (λk=>ws.heap.size<=k) w w'):Zq aF w0 ws b w' l st ks:=by
 have o:=t.lo;have a:=λk h=>(t.m.u k h).elim id λe=>(by cases e.1)
 have T:=O.block b t.toQz.lb J;obtain⟨q,sl,p,B,f⟩:=t.ex;refine⟨⟨⟨O.os.trans t.o.os,O.tape.trans t.o.tape,O.output.trans t.o.output,bp t.o.size O.size,λk h _=>(O.block k (cD h t.o.size) J).trans (t.o.block k h R)⟩,o,⟨q,sl,p,T.trans B,f.keep λg m n=>O.block g n λe=>(by have:=u g (a g (JS B m));omega)⟩,t.i,t.big⟩,⟨t.m.o.trans O λk h=>.inr h,λk h=>.inl (a k (zv T h))⟩,λk h=>?_⟩;obtain⟨d,i,j⟩:=t.k k h;exact⟨cD d O.size,i,λc=>j (zv T c)⟩
def cj.of{ks}(h:cF ks w w'):cj (λk=>k∈ks) w w':=λk a _=>h k a
def Jw:=@cj.of
def wg{w2}(a:az [] w w1)(b:aE (λk=>w.heap.size<=k) w1 w2):az [] w w2:=(a.AY b).only λ_ h=>h
end
def Vh w (s:X _) {n} {parts} (p:parts=(((s.map λx=>Value.string (T x)).zipIdx 0).map λx=>(x.2,x.1)).toArray) (h:Z8 s=n) (k:0<n) (v:n*1<=16777216):
  ∃(q:Sl) (a:aw) (g:Nat) (c:aJ),(av 37 n parts).run ar w=.ok q.v a/\az [] w a/\w.heap.size<=g/\g<a.heap.size/\aG a g 9 c/\
   ∀(e:Nat) x,s[e]? =Hg x->cM q e 1 ⟨g,e,ZQ⟩/\∀w,aG w g 9 c->aD w ⟨g,e,ZQ⟩ [ae (T x)]:=by
 obtain⟨q,a,l,m,k3⟩:=jb w s p h k v;rcases m with⟨_,e⟩ | ⟨g,j,tail,d,f,b,o,r,t,u,i⟩
 .subst e;simp at h;omega
 refine⟨q,a,g,_,l,k3,f,b.lt,b,λe x n=>⟨⟨_,d,bc e,?_,?_⟩,λw B=>Blk.at0 B e ?_⟩⟩
 .have:=(bd.1 n).1;omega
 .rw[gW,aW,qs,bO]
 have:(s.map λx=>Value.string (T x))[e]? =Hg (ae (T x)):=by rw[dr,n];rfl
 rw[MX i,ca (bd.1 this).1,this]
section
variable {w0 w:aw} {b:Nat} {l:S} {st:St}
def Vi b j:(Addr.add ⟨b,0,ZQ⟩ j)=⟨b,j,ZQ⟩:=by rw[gW,bO]
def Qz.set(h:Qz w0 b w l st):∃(q:Option Addr) (sl:Sl),aG w b 276 [ah q,sl.v,ak st.1,O U st.2]/\
  ∀e d,az [b] w e->aG e b 276 [ah q,sl.v,ak d.1,O U d.2]->(d.1=aM->0<=d.2/\d.2<=400)->Qz w0 b e l d/\Mw aF b w e:=by
 obtain⟨q,sl,o,B,f⟩:=h.ex;exact⟨q,sl,B,λp I c n j=>⟨⟨⟨c.os.trans h.o.os,c.tape.trans h.o.tape,c.output.trans h.o.output,bp h.o.size c.size,λk a _=>(c.block k (cD a h.o.size) (by have:=h.lo;simp;omega)).trans (h.o.block k a R)⟩,h.lo,⟨q,sl,o,n,f.keep λg i m=>c.block g m (by have:=(f.lt i).1;simp;omega)⟩,j,h.big⟩,⟨c.p λx hx=>.inl (.inl KB),λk a=>.inl (JS B (Ph n a))⟩⟩⟩
def Qz.up0(h:Qz w0 b w l st):Up st aF 0 st:=by
 refine⟨?_,λ_=>R⟩;cases e:st.1
 .have:=(h.i e).2;have a:¬400<st.2+((0:Nat)):=J
  rw[bC a];rfl
 rfl
def Pj{q}{sl:Sl}{wr}{ac}(h:aG w b 276 [ah q,sl.v,ak wr,O U ac]) ok:aA ar 224 #[rp b,ak ok] w λe a=>
  e=ao (aj #[])/\az [b] w a/\aG a b 276 [ah q,sl.v,ak (wr||!ok),O U ac]:=by
 exact ret (akP ok w ⟨wr,Mn h 2 I,b,2,_,_,Vi b 2,h,R,λd c n=>⟨I,c,n⟩⟩)
def lN(h:Qz w0 b w l st) ok:aA ar 224 #[rp b,ak ok] w λe a=>e=ao (aj #[])/\∃d,Up st ok 0 d/\Qz w0 b a l d/\Mw aF b w a:=by
 obtain⟨q,sl,B,K⟩:=h.set;refine(Pj B ok).mono ?_;rintro _ f ⟨rfl,c,n⟩;have u:Up st ok 0 (st.1||!ok,st.2):=by
  refine⟨?_,λe=>R⟩;cases e:st.1
  .have:=(h.i e).2;have b:¬400<st.2+((0:Nat)):=J
   rw[bC b,Iz]
  simp
 exact⟨I,_,u,K f _ c n λe=>u.le (λe=>(h.i e).1) e⟩
def pe(h:Qz w0 b w l st) s (j:Z8 s<9223372036854775807):aA ar 226 #[rp b,ae (T s)] w λe a=>e=ao (ae (T s))/\∃d,Up st (dI s) 0 d/\Qz w0 b a l d/\Mw aF b w a:=by
 refine ret (akR ?_);refine(UO s j).mono ?_;rintro _ k ⟨rfl,c⟩;refine⟨_,I,(lN (h.only c) _).mono ?_⟩;rintro _ m ⟨rfl,d,f,g,i⟩;exact⟨I,I,d,f,g,(Mw.only h.lb c).trans i⟩
def Pl(n:Qz w0 b w l st){F}{x}{cs}(i:rE aM w F x cs)(q:MU x)(s:Bh x<=1759218604441)(E:Er w0)(o:Tb w0):
  aA ar 319 #[rp b,ai cs.toArray] w λe j=>e=ao (ae (T (xK x)))/\∃d,Up st (ux x) 0 d/\Qz w0 b j l d/\Mw aF b w j:=by
 obtain⟨z,rfl⟩:=dM i;refine ret (alE ?_);intro r u Q L p;have t:=(n.z aF).al p Q L;refine(aaj ((gp aM).keep i λk _ m=>p.block k m R) q s (E.only t.o) (o.only t.o)).mono ?_;rintro _ v ⟨rfl,c⟩;have a:=t.q c;refine⟨_,I,t.sq c R,(lN a.toQz _).mono ?_⟩;rintro _ y ⟨rfl,d,h,f,g⟩;rw[show aq #[]=T []from rfl,iC]at h;have e:(!VM (xK x=[]))=ux x:=by unfold ux;rw[decide_not]
 rw[e]at h;exact⟨I,a.sm g R,I,d,h,f,(a.nx f g).m⟩
def Pm(i:Qz w0 b w l st){F}{x}{cs}(c:rE aM w F x cs):
  aA ar 320 #[rp b,ai cs.toArray] w λe g=>e=ao (aj #[])/\∃j,Up st (rA x) 0 j/\Qz w0 b g l j/\Mw aF b w g:=by
 have S:∃s,cs=nI x.k x.n x.s x.op s x.a/\s.n=Z8 x.dK:=by
  obtain⟨d,c⟩:=c;cases d with
  | zero=>exact c.elim
  | succ d=>
   obtain⟨sl,h,a,_⟩:=c;exact⟨sl,h,a.len⟩
 obtain⟨s,rfl,k⟩:=S;refine ret (alF ?_);intro m n Q L p;have t:=(i.z aF).al p Q L;refine(lN t.toQz _).mono ?_;rintro _ o ⟨rfl,j,h,a,f⟩;rw[show aq #[]=T []from rfl,iC,k]at h;exact⟨I,t.sm f R,I,j,h,a,(t.nx a f).m⟩
def slS(h:Qz w0 b w l st):aA ar 229 #[rp b] w λe a=>e=ao (ak (VM (16384<Z8 l)))/\a=w:=by
 refine ret (akT ?_);obtain⟨q,sl,d,B,c⟩:=h.ex;refine(ac6 (λv a=>v=O U (Z8 l)/\a=w) w ?_).mono ?_
 .exact⟨sl,Mn B 1 I,by rw[c.len],I⟩
 rintro _ w ⟨v,rfl,rfl,rfl⟩;refine⟨_,I,?_,I⟩;congr 1;simp;omega
end
def ER(a:Ac):Nat:=Bh a.x+(Z8 a.n+1)
def jd:X Ac->Nat
 | []=>0
 | a::l=>ER a+jd l
def qF{a}:∀{l:X Ac},a∈l->ER a<=jd l
 | [],h=>Gl
 | x::l,h=>by
  rw[jd];rcases aZ.1 h with rfl | h
  .omega
  have:=qF h;omega
def fh:∀l,Z8 l<=jd l
 | []=>bh _
 | a::l=>by
  have:=fh l;rw[jd,aY];rw[ER];omega
def Et(l:X (S)):Nat:=(l.map λs=>Z8 s+1).sum
def BL(m:Mv):Nat:=(jd m.acts+Bh m.g)+(Et m.tg+(Z8 m.ev+1))
def Ho x:Z8 (xK x)<=16384:=by
 by_cases h:xK x=[]
 .rw[h];exact bh _
 have⟨c,b,a⟩:=JG h;refine bM λd=>?_;have e:xK x=qz _ x aM []:=b;rw[<-e]at a;rw[iG]at a;have:cQ (xK x)=([],2, -1):=by rw[cQ,K J]
 rw[this,K Z]at a;exact absurd a (show ¬2=0 by decide)
def uB{s}(h:dI s=aF):ne s=aF:=by
 unfold dI at h;simp only[H]at h;have:=(aO h.1.1.1).1;rw[ne];rw[bC this];rfl
def ams{x}(h:ux x=aF):ne (xK x)=aF:=by
 rw[ne];rw[bC (aO h)];rfl
def rB{x}(h:ne x=aF) ws:iT (x::ws)=x++Lib.joinTail [32] (ws.filter ne):=by
 rw[iT];rw[tL,h,K I,Lib.join_cons]
def gR x r:Lib.joinTail [32] (x::r)=32::(x++Lib.joinTail [32] r):=rfl
def oI:Lib.joinTail [32] []=[]:=rfl
def gU{x}(h:ne x=aF) ws:(x::ws).filter ne=x::ws.filter ne:=by rw[tL,h,K I]
def afP ws:([]::ws).filter ne=ws.filter ne:=by rw[tL,W Z]
def YA(a:Ac):X (S):=if a.k=2 then[gD,a.n]else[if a.k=1 then mM else jc,a.n,[61],xK a.x]
def adl{a}(b:iM a=aF):iT (YA a)++[59]=Cj a:=by
 rw[iM]at b;simp at b;have⟨⟨e,c⟩,d⟩:=b;unfold YA Cj;by_cases h:a.k=2
 .rw[K h,K h,rB Z,gU (uB c),fz,gR,oI];simp
 rw[W h]at d;have w:ne (if a.k=1 then mM else jc)=aF:=by split<;>decide
 rw[W h,W h,rB w,gU (uB c),gU Z,gU (ams d),fz,gR,gR,gR,oI];simp
def aat a:Z8 (iT (YA a))<=16398+Z8 a.n:=by
 refine bp (jW _) ?_;have:=Ho a.x;rw[YA];split
 .show 5+1+(Z8 a.n+1+0)<=_;omega
 have:Z8 (if a.k=1 then mM else jc)<=4:=by split<;>decide
 show _+1+(Z8 a.n+1+(1+1+(_+1+0)))<=_;omega
section
variable {w0 w:aw} {b:Nat} {l:S} {st:St}
def amt(f:Qz w0 b w l st){F:aK}{a:Ac}{c:aJ}(h:pI aM w F a c)(r:∀k,F k->k<w0.heap.size)(B:BK a)(C:ER a<=1759218604441)(E:Er w0)(A:Tb w0):
  aA ar 318 #[rp b,ai c.toArray] w λe d=>∃s j,e=ao (ae (T s))/\Z8 s<=16400+Z8 a.n/\(iM a=aF->s=Cj a)/\Up st (iM a) 0 j/\Qz w0 b d l j/\Mw aF b w d:=by
 obtain⟨M,rfl,h⟩:=h;obtain⟨N,rfl⟩:=dM h;unfold ER at C;refine iE (alD ?_);intro u D Q L y;have v:=(f.z aF).al y Q L;obtain⟨q,H,g,c,z,p,m,o,Y,G⟩:=Vh D [[],mM,gD,jc] (n:=4) (parts:=#[.mk 0 (ae (aq #[])),.mk 1 _,.mk 2 _,.mk 3 _]) I I Z Z;have t:=v.al p m o;have tail:=aat a;refine⟨q,H,z,v.sq p R,λi=>?_,λi=>?_⟩
 .refine(lN t.toQz aM).mono ?_;rintro _ w ⟨rfl,j,l,b,k⟩;have hk:iM a=aM:=by
   unfold iM;have:¬(1<=a.k/\a.k<=3):=by
    simp at i;omega
   rw[bC this];rfl
  exact⟨I,t.sm k R,[],j,I,bh _,λe=>(by rw[hk]at e;cases e),by rw[hk];exact l,b,(t.nx b k).m⟩
 have b:1<=a.k/\a.k<=3:=by
  simp at i;omega
 have w:∀x,[[],mM,gD,jc][a.k.toNat]? =Hg x->cM q a.k 1 _/\∀d,aG d g 9 c->aD d _ [ae _]:=λx h=>by
  have:=G _ x h;rwa[fy J]at this
 refine⟨λtT=>?_,λtT l e=>?_⟩
 .have hk:a.k=2:=Sf
  have hW:YA a=[gD,a.n]:=by unfold YA;rw[K hk]
  refine(Pm t.toQz ((gp aM).keep h λk hk _=>f.arg t.toQz (r k hk))).mono ?_;rintro _ w3 ⟨rfl,am,u1,u2,X⟩;have t3:=t.nx u2 X;refine⟨I,t.sm X R,λw4 dD=>⟨λk=>k∈[u,g],R,?_⟩⟩;have x:=t3.q dD;have⟨y1,y2⟩:=w gD T8;have pz:aG w4 g 9 c:=(t3.sq (ks':=[g]) dD R g R).trans ((t.sm (ks':=[g]) X R g R).trans Y);refine⟨_,y1,R,_,y2 w4 pz,(pe x.toQz a.n J).mono ?_⟩;rintro _ w5 ⟨rfl,V,v1,v2,v3⟩;have q:=x.nx v2 v3;have⟨q6,w6,e6,s,_,hj⟩:=FA w5 [gD,a.n] (n:=2) (parts:=#[.mk 0 (ae (T gD)),.mk 1 (ae (T a.n))]) I I Z Z (by rw[<-hW];omega);have z6:=s.size;refine⟨_,I,x.sm v3 R,Jw (x.sm v3 R),q6,w6,e6,q.sq s R,Jw (q.sq s R),hj.mono ?_⟩;rintro _ w7 ⟨rfl,S⟩;have ga:=wg s S;have t7:=q.q ga;have hU:=u1.tr v1;have P:iM a=(rA a.x&&dI a.n):=by
   rw[iM];rw[K hk,bF b,cr,Bool.and_comm]
  rw[<-P]at hU;rw[<-hW];refine⟨_,I,q.sj z6 S R,Jw (q.sj z6 S R),R5,iT (YA a)++[59],V,E7,RC,λP=>adl P,hU,t7.toQz,t7.m⟩
 have hk:a.k≠2:=Sf
 have hW:YA a=[if a.k=1 then mM else jc,a.n,[61],xK a.x]:=by unfold YA;rw[W hk]
 have S:=t.q e;have⟨y1,y2⟩:=w (if a.k=1 then mM else jc) (by
  by_cases k:a.k=1
  .rw[K k,k];rfl
  rw[W k,show a.k=3 by omega];rfl)
 have re:aG l g 9 c:=(t.sq (ks':=[g]) e R g R).trans Y;refine⟨λk=>k∈[u,g],R,_,y1,R,_,y2 l re,R,(pe S.toQz a.n J).mono ?_⟩;rintro _ w9 ⟨rfl,aT,u1,u2,u3⟩;have x:=S.nx u2 u3;refine⟨_,I,S.sm u3 R,Jw (S.sm u3 R),(Pl x.toQz ((gp aM).keep h λk hk _=>f.arg x.toQz (r k hk)) B J E A).mono ?_⟩;rintro _ dk ⟨rfl,V,v1,v2,v3⟩;have q:=x.nx v2 v3;have⟨aS,dz,aC,P,_,hj⟩:=FA dk [if a.k=1 then mM else jc,a.n,[61],xK a.x] (n:=4) (parts:=#[.mk 0 _,.mk 1 _,.mk 2 (ae _),.mk 3 (ae (T (xK a.x)))]) I I Z Z (by rw[<-hW];omega);have CA:=P.size;refine⟨_,I,x.sm v3 R,Jw (x.sm v3 R),aS,dz,aC,q.sq P R,Jw (q.sq P R),hj.mono ?_⟩;rintro _ eF ⟨rfl,X⟩;have s:=q.q (wg P X);have hU:=u1.tr v1;have pK:iM a=(dI a.n&&ux a.x):=by
  rw[iM];rw[W hk,bF b,cr]
 rw[<-pK]at hU;rw[<-hW];refine⟨_,I,q.sj CA X R,Jw (q.sj CA X R),R5,iT (YA a)++[59],V,E7,RC,λpK=>adl pK,hU,s.toQz,s.m⟩
end
def Up.bad{st dj}{c c'}{n n'}(h:Up st c n dj)(e:dj.1=aF)(g:c'=aF->c=aF)(i:n<=n'):Up st c' n' dj:=by
 refine⟨?_,λb=>by rw[e]at b;cases b⟩;rw[e];refine Eq.symm (bM λk=>?_);have⟨d,f,a⟩:=JD (io.2 k).symm;have a:=aR a;have:=h.w;rw[e,d,g f,bC (show ¬400<st.2+n by omega)]at this;cases this
def wh:∀l m,jd (l++m)=jd l+jd m
 | [],m=>by rw[cb];show _=0+_;omega
 | a::l,m=>by rw[bW,jd,jd,wh l m];omega
def afQ a:ne (Cj a)=aF:=by
 have:Cj a≠[]:=by unfold Cj;split<;>simp
 rw[ne];rw[bC this];rfl
def Vj:∀l,Lib.joinTail [32] ((l.map Cj).filter ne)=zl l
 | []=>rfl
 | a::l=>by rw[cu,gU (afQ a),gR,Vj l,zl]
def afR x y:Lib.joinTail [32] (x++y)=Lib.joinTail [32] x++Lib.joinTail [32] y:=by
 unfold Lib.joinTail;rw[cX,Ih]
def amu l:iT ([123]::(l.map Cj++[[125]]))=An l:=by
 rw[rB Z,mr,afR,Vj];rfl
def adm{w}{B}{s}{ws}(m:Own ju 1 9 B w (λ_=>True) s ws) x (n:B<=w.heap.size) (u:Z8 ws<=1073741824):
  ∃y a,(av 37 1 #[.mk 0 (ae (T x))]).run ar w=.ok (Sl.v y) a/\az [] w a/\∃d b,(Builtin.append_ #[37,37] 37 #[Sl.v s,Sl.v y]).run ar a=.ok (Sl.v d) b/\
   Own ju 1 9 B b (λ_=>True) d (ws++[x])/\∃c,az c a b/\∀g,g∈c->s.a=Hg ⟨g,0,ZQ⟩/\B<=g:=by
 have⟨y,a,j,p,d,b,l,r,⟨c,f,q⟩,_⟩:=jy (P:=ar) (t:=37) (ty:=37) (e:=9) (i:=Tryz.t9) (bytes:=16) (size:=1) (v:=ae _) (x:=x) (G:=λ_=>False) D D I I I I Z Z Z cx m n I I (λk o _=>o.elim) J;exact⟨y,a,j,p,d,b,l,r.mono cx λk _=>trivial,c,f,λg h=>⟨(q g h).1,(q g h).2.1⟩⟩
def _root_.Go.Kt.Own.W2{w w'}{B b}{s}{ws}(h:Own ju 1 9 B w (λ_=>True) s ws)(p:az [b] w w')(q:b<B):Own ju 1 9 B w' (λ_=>True) s ws:=by
 rcases h with⟨rfl,rfl⟩ | ⟨g,a,tail,d,f,i,j,l,m,o,n⟩
 .exact .inl ⟨I,I⟩
 have e:∀{b:X _} {a:X _},ql ju 1 w (λk=>True/\k≠g) b a->ql ju 1 w' (λk=>True/\k≠g) b a:=fun{b}=>by
  induction b with
  | nil=>intro a h;cases a with | nil=>trivial | cons _ _=>exact h
  | cons x b e=>intro a h;cases a with | nil=>exact h | cons c a=>exact⟨h.1,e h.2⟩
 exact .inr ⟨g,a,tail,d,f,p.blk i C,j,l,m,o,e n⟩
def spv{b:Type}{p}{s:X b}{j}(h:s.all p=aF):(s.take j).all p=aF:=by
 rw[fi]at h⊢;exact λx a=>h x (List.mem_of_mem_take a)
def JU ws (x:S):((ws++[x]).map λl=>Z8 l+1).sum=(ws.map λl=>Z8 l+1).sum+(Z8 x+1):=by
 simp
section
variable {w0 w:aw} {b:Nat} {l:S} {st:St}
def Hp(h:Qz w0 b w l st){F}{s}{xs}(hx:aB (pI aM) 9 w F s xs)(g:∀k,F k->k<w0.heap.size)(j:∀a,a∈xs->BK a)(m:jd xs<=16777216)(E:Er w0)(i:Tb w0):
  aA ar 281 #[rp b,s.v] w λe c=>∃t d,e=ao (ae (T t))/\Z8 t<=16405*jd xs/\(d.1=aM->t=if xs=[]then[]else An xs)/\Up st (xs.all iM) (Z8 xs) d/\Qz w0 b c l d/\Mw aF b w c:=by
 refine iE (alh ?_);have f:=hx.len;have z:=fh xs;refine⟨λhc=>?_,λhc=>?_⟩
 .have hc:=by have:=R0;omega
  have:xs=[]:=bJ J;subst this;exact⟨[],st,I,J,λ_=>(K I).symm,h.up0,h,Mw.refl _ _ _⟩
 have C:xs≠[]:=λe=>by
  subst e;have:=f;rw[this]at hc;exact absurd hc Z
 have⟨q,sl,B,H⟩:=h.set;refine⟨st.2,Mn B 3 I,b,3,_,_,Vi b 3,B,R,λw1 N D=>⟨_,Mn D 3 I,(Pj (q:=q) (sl:=sl) (wr:=st.1) (ac:=au U _) D _).mono ?_⟩⟩;rintro _ o ⟨rfl,M,Y⟩;have p:Up st aF (Z8 xs) (st.1||!VM (au U (st.2+s.n)<=400),au U (st.2+s.n)):=by
  cases e:st.1
  .have:=h.i e;have b:au U (st.2+s.n)=st.2+Z8 xs:=by rw[f];exact eS J J
   rw[b];refine⟨?_,λ_=>I⟩;rw[e];by_cases a:st.2+Z8 xs<=400
   .rw[bF a,bC J];rfl
   rw[bC a,bF J];rfl
  exact⟨by rw[e];rfl,λa=>by cases a⟩
 have⟨t,xf⟩:=H o _ (N.trans M λx hx=>.inl hx) Y λe=>p.le (λe=>(h.i e).1) e;generalize (st.1||!VM (au U _<=400),au U _)=A at*
 have r:=t.lb;have u:∀k,Bu o b k->k<o.heap.size:=λk hk=>(t.bu hk).2;have⟨T,V,Q,P,L,_⟩:=FA o [[123]] (n:=1) (parts:=#[.mk 0 _]) I I Z Z Z;refine⟨I,T,V,Q,λv c=>∃w d,Own ju 1 9 o.heap.size c (λ_=>True) v w/\Z8 w<=16777217/\(w.map λl=>Z8 l+1).sum<=2+16401*jd xs/\(d.1=aM->w=[123]::xs.map Cj)/\Up A (xs.all iM) 0 d/\Zq aF w0 o b c l d [],?_,?_⟩
 .rintro v w4 ⟨w,G,a,aT,bv,n,l,q⟩;obtain⟨y,w5,e5,dP,s6,w6,e6,b,gs,dN,qT⟩:=adm a [125] q.m.o.size J;refine⟨y,w5,e5,s6,w6,e6,?_⟩;have t6:=(q.q dP).row r u (dN.p (F:=λk=>o.heap.size<=k) λx hx=>.inl (qT x hx).2);have am:=JU w [125];have xC:=jW (w++[[125]]);have aC:Z8 ([125]:S)=1:=I;refine(DD b J RC).mono ?_;rintro _ w7 ⟨rfl,SM⟩;have s:=t6.row r u SM;have aS:1<=jd xs:=by
   have:1<=Z8 xs:=vA.2 C;omega
  refine⟨_,I,iT _,G,I,J,λe=>?_,(p.tr l).cg R R,s.toQz,xf.trans s.m⟩;rw[W C,n e];exact amu xs
 refine⟨λnv v ce c=>∃(n:Nat) (w:X (S)) (d:St),ce=n/\n<=Z8 xs/\nv=(Z8 xs)-n/\Own ju 1 9 o.heap.size c (λ_=>True) v w/\Z8 w<=n+1/\(w.map λl=>Z8 l+1).sum<=2+16401*jd (xs.take n)/\(d.1=aM->w=[123]::(xs.take n).map Cj)/\Up A ((xs.take n).all iM) 0 d/\Zq aF w0 o b c l d [],
  (Z8 xs),⟨0,[[123]],A,I,bh _,I,L,aX _,aX _,λ_=>I,t.up0,(t.z aF).q P⟩,?_⟩
 rintro nv l4 _ w7 ⟨n,w,s,rfl,hj,rfl,q,cc,bY,bV,Q6,t7⟩;have K9:jd xs=jd (xs.take n)+jd (xs.drop n):=by rw[<-wh,fW]
 refine⟨λhc=>?_,λhc=>?_⟩
 .have bT:=aO hc;have cC:=KN (cN aM) hx Z λk hk _=>h.arg t7.toQz (g k hk);obtain⟨ad,a,cs,g1,g2,g3,g4,g5,g6⟩:=cC.get (bc n) bT;rw[aW]at g2;have ha:=bA g2;have pU:xs.take (n+1)=xs.take n++[a]:=by
   rw[bq,g2];rfl
  have Ya:jd (xs.take (n+1))=jd (xs.take n)+ER a:=by
   rw[pU,wh];show _+(ER a+0)=_;omega
  obtain⟨xc,rfl,co⟩:=g6;obtain⟨xl,rfl⟩:=dM co;refine⟨ad,g1,_,_,_,_,_,_,_,_,_,g5,λk5 w8 mo Ae ft=>?_⟩;have t8:=t7.al ft mo Ae;obtain⟨q8,dO,re,_⟩:=t8.toQz.set;refine⟨s.1,Mn re 2 I,λhw=>?_,λhw=>?_⟩
  .have a:Zq aF w0 o b w8 l s []:=⟨t8.toQz,t8.m,λk hk=>UA⟩
   exact⟨w,s,q.keep cx λk hk bT=>ft.block k bT R,J,J,λe=>absurd (hw.symm.trans e) Z,Q6.bad hw spv (aX _),a⟩
  refine(amt t8.toQz ((cN aM).keep ⟨_,I,co⟩ λk _ bT=>ft.block k bT R) g (j a ha) (by have:=qF ha;omega) E i).mono ?_;rintro _ w9 ⟨tx,g8,rfl,g9,ge,el,h9,b⟩;have t9:=t8.nx h9 b;have gE:∀f5,l4.a=Hg ⟨f5,0,ZQ⟩->o.heap.size<=f5/\f5<w7.heap.size:=λf5 l=>by
   rcases q with⟨rfl,_⟩ | ⟨y,x,F,a,e,k,_⟩
   .cases l
   rw[a]at l;injection l with l;injection l with l;subst l;exact⟨e,k.lt⟩
  have gG:=by
   have a:=q.keep cx (w':=w8) λk hk bT=>ft.block k bT R;refine(a.mono (G:=λ_=>True) cx λ_ _=>trivial).W2 b.only1 r
  obtain⟨y,dk,gO,dS,xQ,dz,gT,Lr,gs,dl,qT⟩:=adm gG tx (bp t7.m.o.size (bp ft.size b.o.size)) J;have eQ:=t9.q dS;have fd:=eQ.row r u (dl.p (F:=λk=>o.heap.size<=k) λx hx=>.inl (qT x hx).2);have xQ:cF [k5] dk dz:=dl.same λx hx=>by
   have:=(eQ.k x KB).1;refine⟨this,λa=>?_⟩;have:=(gE x (qT x a).1).2;simp at hx;omega
  refine⟨_,I,t8.sm b R,y,dk,gO,t9.sq dS R,_,dz,gT,xQ,(Z8 xs)-_,J,n+1,w++[tx],g8,TE,J,I,Lr,RC,?_,λe=>?_,(Q6.tr el).cg ?_ I,⟨fd.toQz,fd.m,λk hk=>UA⟩⟩
  .rw[JU w tx,Ya];have:16400+Z8 a.n+1<=16401*ER a:=by unfold ER;omega
   omega
  .have⟨a,k,_⟩:=el.ok e;rw[bV a,ge k,pU,cX];rfl
  rw[pU,jF];simp
 have a:=aR hc;have l:n=Z8 xs:=J
 subst l;rw[br J]at bY bV Q6;exact⟨w,s,q,J,bY,bV,Q6,t7⟩
end
def as4{w}{F}{s}{a}(h:aB ju 1 w F s a) sep (l:Z8 (Lib.join a sep)<=140737488355328) (n:Z8 a<=140737488355328):
  aA ar 314 #[s.v,ae (T sep)] w λe c=>e=ao (ae (T (Lib.join a sep)))/\az [] w c:=by
 have f:=h.len;have r:=h.cap;obtain⟨b,sn,sc⟩:=s;subst f;cases a with
 | nil=>
  refine(Tryz.strings_Join_none b sc _ w).mono ?_;rintro _ d ⟨rfl,rfl⟩;exact⟨I,EC _ _⟩
 | cons x a=>
  obtain⟨s,u,g,A,B,i,j⟩:=h.at_ 0 x I;subst j g;have d:=i 0 _ I;have p:s.spot=ZQ:=by
   unfold World.cell? at d;split at d
   .split at d
    .cases d
    rename_i w;have e:((s.add (0*1)).add 0).spot=s.spot:=I;rw[e]at w;rcases hb:s.spot with _|v
    .rfl
    rw[hb]at w;simp at w
   cases d
  obtain⟨k,o,sp⟩:=s;subst p;have t:k<w.heap.size:=by
   have e:((Addr.add ⟨k,o,ZQ⟩ (0*1)).add 0)=⟨k,o,ZQ⟩:=I;rw[e]at d;refine bM λn=>?_;unfold World.cell? at d;rw[iq Sb]at d;cases d
  have:=Tryz.strings_Join k o sc _ (T sep) w (λm y q=>by
   rw[dr,ir]at q;obtain⟨z,v,rfl⟩:=q;obtain⟨s,u,g,A,B,i,j⟩:=h.at_ m z v;subst j;cases g;have:=i 0 _ I;have e:((Addr.add ⟨k,o,ZQ⟩ (m*1)).add 0)=⟨k,o+m,ZQ⟩:=by simp[Addr.add]
   rw[e]at this;exact this) t Nw Nw (by
   rw[mw];have:((λx:M=>x.data.toList)∘T)=id:=I;rw[this,SY];exact l)
  rw[bQ]at this;refine this.mono ?_;rintro _ D ⟨rfl,C⟩;refine⟨?_,Only.below C⟩;rw[mw];have:((λx:M=>x.data.toList)∘T)=id:=I;rw[this,SY]
def Po:∀l,Lib.joinTail [44,32] l=Fw l
 | []=>rfl
 | s::l=>by
  unfold Lib.joinTail;show[44,32]++s++Lib.joinTail [44,32] l=_;rw[Po l];rfl
def Ps s l:Z8 (Lib.join (s::l) [44,32])<=2*Et (s::l):=by
 have h:∀l,Z8 (Fw l)<=2*Et l:=λl=>by
  induction l with
  | nil=>exact bh _
  | cons s l i=>
   unfold Et at i⊢;rw[cu,eU,Fw,aY,aY,aP];omega
 rw[Lib.join_cons,Po,aP];have:=h l;have e:Et (s::l)=(Z8 s+1)+Et l:=by unfold Et;rw[cu,eU]
 omega
def Cn l:Z8 l<=Et l:=by
 unfold Et
 induction l with
 | nil=>exact bh _
 | cons s l i=>rw[cu,eU,aY];omega
def Hq{s}{l}(h:s∈l):Z8 s+1<=Et l:=by
 unfold Et
 induction l with
 | nil=>simp at h
 | cons x l i=>
  rw[cu,eU];rcases aZ.1 h with rfl | h
  .omega
  have:=i h;omega
def WA(m:Mv):S:=if m.k=1 then iT [u6,m.ev]else if m.k=3 then iT [fL,Lib.itoa m.wt]else fb
def WD(m:Mv):S:=if m.gd then 91::(xK m.g++[93])else[]
def S3(m:Mv):S:=match m.tg with
 | []=>[]
 | s::l=>45::62::32::(s++Fw l)
def adB{n}(h:rX n):Z8 (Lib.itoa n)<=21:=Lib.itoa_length_le n h.1 h.2
def aau n:ne (Lib.itoa n)=aF:=by
 have:Lib.itoa n≠[]:=by
  unfold Lib.itoa;split
  .simp
  rw[Lib.decDigits];split<;>simp
 unfold ne;rw[bC this];rfl
def aaS{m:Mv}(h:mO m=aF):iT [WA m,WD m,(if m.acts=[]then[]else An m.acts),S3 m]++[59]=EN m:=by
 unfold mO at h;simp at h;obtain⟨⟨⟨⟨⟨c,a⟩,d⟩,f⟩,g⟩,i⟩:=h;have b:WA m=Yy m/\ne (WA m)=aF:=by
  unfold WA Yy;by_cases k:m.k=1
  .rw[K k]at a;rw[K k,K k,rB Z,gU (uB a),fz,gR,oI,bD];exact⟨I,I⟩
  rw[W k,W k];by_cases k3:m.k=3
  .rw[K k3,K k3,rB Z,gU (aau _),fz,gR,oI,bD];exact⟨I,I⟩
  rw[W k3,W k3];exact⟨I,Z⟩
 rw[rB b.2,b.1];rw[be];congr 1;have e:Lib.joinTail [32] ([WD m,(if m.acts=[]then[]else An m.acts),S3 m].filter ne)=S1 m++((if m.acts=[]then[]else 32::An m.acts)++(match m.tg with
  | []=>[]
  | s::l=>32::45::62::32::(s++Fw l))):=by
  have k:∀w:X (S),Lib.joinTail [32] ((WD m::w).filter ne)=S1 m++Lib.joinTail [32] (w.filter ne):=λw=>by
   unfold WD S1;cases m.gd
   .simp only[mq,kP];rfl
   rfl
  have j:∀w:X (S),Lib.joinTail [32] (((if m.acts=[]then[]else An m.acts)::w).filter ne)=(if m.acts=[]then[]else 32::An m.acts)++Lib.joinTail [32] (w.filter ne):=λw=>by
   by_cases l:m.acts=[]
   .rw[K l,K l,afP];rfl
   rw[W l,W l,gU (by rfl),gR];rfl
  rw[k,j];congr 2;unfold S3;cases m.tg with
  | nil=>rfl
  | cons s l=>
   rw[gU (by rfl),gR,fz,oI,bD]
 rw[e];simp[be]
 all_goals rfl
def mvB(m:Mv):((((if m.k=1 then dI m.ev else if m.k=3 then VM (0<=m.wt)else VM (m.k=2))&&((VM (m.ev=[])||(m.k==1))&&((m.wt==0)||(m.k==3))))&&(if m.gd then ux m.g else rA m.g))&&(m.tg.all dI&&m.acts.all iM))=mO m:=by
 unfold mO;generalize (if m.gd then ux m.g else rA m.g)=A;generalize m.tg.all dI=B;generalize m.acts.all iM=C;generalize dI m.ev=D;by_cases k:m.k=1
 .rw[K k,K k,k];cases D<;>cases A<;>cases B<;>cases C<;>by_cases h:m.wt=0<;>simp[h]
 rw[W k,W k];by_cases k3:m.k=3
 .rw[K k3,k3];cases A<;>cases B<;>cases C<;>by_cases h:m.ev=[]<;>by_cases w:m.wt=0<;>by_cases p:0<m.wt<;>simp[w,h,p]<;>omega
 rw[W k3];by_cases a:m.k=2
 .rw[a];cases A<;>cases B<;>cases C<;>by_cases h:m.ev=[]<;>by_cases w:m.wt=0<;>simp[w,h]
 have:¬(1<=m.k/\m.k<=3):=J
 rw[bC this,bC a];simp
section
variable {w0 w:aw} {b:Nat} {l:S} {st:St}
def afT(h:Qz w0 b w l st){j:aK}{m:Mv}{o:aJ}(G:JE aM w j m o)(F:∀k,j k->k<w0.heap.size)(f:F9 m)(B:BL m<=16777216)(E:Er w0)(q:Tb w0):
  aA ar 282 #[rp b,ai o.toArray] w λe a=>∃t d,e=ao (ae (T t))/\Z8 t<=16450*BL m/\(d.1=aM->t=EN m)/\Up st (mO m) (Z8 m.acts) d/\Qz w0 b a l d/\Mw aF b w a:=by
 obtain⟨M,S,i,rfl,r,L,p⟩:=G;obtain⟨P,rfl⟩:=dM r;have L:=L.1;have p:=p.1;have z:=B;unfold BL at z;refine iE (ali ?_);intro g V Q A v;have c:=(h.z aF).al v Q A;have u:=p.len;have D:=Cn m.tg;refine⟨λH a=>∃hd d,H=T hd/\Z8 hd<=30+Z8 m.ev/\(d.1=aM->hd=WA m)/\Up st (if m.k=1 then dI m.ev else if m.k=3 then VM (0<=m.wt)else VM (m.k=2)) 0 d/\Zq aF w0 w b a l d [g],?_,λhc=>?_,λhc=>⟨λN=>?_,λN=>?_⟩⟩
 .rintro _ w2 ⟨hd,BA,rfl,Bx,aC,Y,t2⟩;refine(lN t2.toQz _).mono ?_;rintro _ w3 ⟨rfl,aS,u1,u2,u3⟩;have t:=t2.nx u2 u3;have am:=Y.tr u1;rw[show aq #[]=T []from rfl,iC]at am;refine⟨I,t2.sm u3 R,λs1 a=>∃gt d,s1=T gt/\Z8 gt<=16386/\(d.1=aM->gt=WD m)/\Up aS (if m.gd then ux m.g else rA m.g) 0 d/\Zq aF w0 w b a l d [g],?_,λX=>?_,λX=>?_⟩
  .rintro _ w4 ⟨gt,NV,rfl,co,cc,bY,t4⟩;refine⟨λnv cC a=>∃(aT:Nat) (d:St),cC=aT/\aT<=Z8 m.tg/\nv=(Z8 m.tg)-aT/\Up NV ((m.tg.take aT).all dI) 0 d/\Zq aF w0 w b a l d [g],Z8 m.tg,⟨0,NV,I,bh _,I,t4.toQz.up0,t4⟩,?_⟩;rintro nv _ w5 ⟨aT,ce,rfl,hj,rfl,bv,t5⟩;have bV:aB ju 1 w5 j i m.tg:=KN cx p Z λk hk _=>h.arg t5.toQz (F k hk);refine⟨λhc=>?_,λhc=>?_⟩
   .have T:(aT:Int)<i.n:=aO hc;obtain⟨ad,x,o,l,b,g3,g4,n,e⟩:=bV.get (bc aT) T;rw[aW]at b;unfold ju at e;subst e;have w:=Hq (bA b);refine⟨ad,l,_,n,(pe t5.toQz x J).mono ?_⟩;rintro _ w6 ⟨rfl,s,y,v2,k⟩;refine⟨_,I,t5.sm k R,(Z8 m.tg)-(aT+1),J,aT+1,s,TE,J,I,(bv.tr y).cg ?_ I,t5.nx v2 k⟩;rw[bq,b,jF];simp
   have pf:¬(aT:Int)<i.n:=aR hc;have x:aT=Z8 m.tg:=J
   subst x;rw[br (aX _)]at bv;refine⟨λs4 a=>s4=T (S3 m)/\Zq aF w0 w b a l ce [g],?_,λhc=>?_,λhc=>?_⟩
   .rintro _ w7 ⟨rfl,t7⟩;refine(Hp t7.toQz (KN (cN aM) L Z λk hk _=>h.arg t7.toQz (F k hk)) F f.a J E q).mono ?_;rintro _ w8 ⟨w,el,rfl,fd,dO,b,v2,v3⟩;have t8:=t7.nx v2 v3;have eQ:Z8 (S3 m)<=3+2*Et m.tg:=by
     unfold S3;cases hm:m.tg with
     | nil=>exact bh _
     | cons s l=>
      have:=Ps s l;rw[Lib.join_cons,Po]at this;rw[aY,aY,aY];omega
    have xC:=jW [hd,gt,w,S3 m];simp only[cu,gQ,eU,kR]at xC;have QM:BL m=(jd m.acts+Bh m.g)+(Et m.tg+(Z8 m.ev+1)):=I;obtain⟨q9,w9,e9,s,_,f5⟩:=FA w8 [hd,gt,w,S3 m] (n:=4) (parts:=#[.mk 0 (ae (T hd)),.mk 1 (ae (T gt)),.mk 2 (ae (T w)),.mk 3 (ae (T (S3 m)))]) I I Z Z J;have z9:=s.size;refine⟨_,I,t7.sm v3 R,q9,w9,e9,t8.sq s R,f5.mono ?_⟩;rintro _ dk ⟨rfl,k⟩;have l:=t8.q (wg s k);have hU:=(am.tr bY).tr (bv.tr b);refine⟨_,I,t8.sj z9 k R,R5,iT [hd,gt,w,S3 m]++[59],el,E7,RC,λe=>?_,hU.cg ?_ J,l.toQz,l.m⟩
    .obtain⟨x5,x8,_⟩:=b.ok e;obtain⟨T,gO,_⟩:=bv.ok x5;obtain⟨x3,gG,_⟩:=bY.ok T;obtain⟨n,gE,_⟩:=u1.ok x3;obtain⟨x1,ge,_⟩:=Y.ok n;rw[aC n,cc T,dO e];refine aaS ?_;obtain⟨_,y,_⟩:=hU.ok e;exact(mvB m).symm.trans y
    exact mvB m
   .have b:m.tg≠[]:=λe=>by
     rw[e]at u;have:i.n=0:=u;rw[this]at hc;exact absurd hc Z
    have y:Z8 (Lib.join m.tg [44,32])<=2*Et m.tg:=by
     cases k:m.tg with
     | nil=>exact absurd k b
     | cons s l=>exact Ps s l
    refine(as4 bV [44,32] J J).mono ?_;rintro _ w ⟨rfl,n⟩;refine⟨_,I,t5.sq n R,R5,?_,t5.q n⟩;rw[show aq #[45,62,32]=T [45,62,32]from rfl,fD];congr 1;unfold S3;cases k:m.tg with
    | nil=>exact absurd k b
    | cons s l=>
     rw[Lib.join_cons,Po];rfl
   have b:m.tg=[]:=bJ M1;refine⟨?_,t5⟩;unfold S3;rw[b]
  .refine(Pl t.toQz ((gp aM).keep r λk l _=>h.arg t.toQz (F k l)) f.g J E q).mono ?_;rintro _ x ⟨rfl,e,s,w,b⟩;have n:=t.nx w b;have:=Ho m.g;refine⟨_,I,t.sm b R,R5,?_,91::(xK m.g++[93]),e,?_,C,λ_=>by unfold WD;rw[K X],by rw[K X];exact s,n⟩
   .rw[show aq #[91]=T [91]from rfl,fD,cH,aP,bf];omega
   rw[show aq #[91]=T [91]from rfl,show aq #[93]=T [93]from rfl,fD,fD];rfl
  refine(Pm t.toQz ((gp aM).keep r λk l _=>h.arg t.toQz (F k l))).mono ?_;rintro _ w ⟨rfl,e,n,s,b⟩;exact⟨I,t.sm b R,[],e,I,bh _,λ_=>by unfold WD;rw[W (by rw[X];decide)],by rw[W (by rw[X];decide)];exact n,t.nx s b⟩
 .have k:m.k=1:=R0
  refine(pe c.toQz m.ev J).mono ?_;rintro _ w2 ⟨rfl,s,X,Y,l⟩;have t:=c.nx Y l;have xC:=jW [u6,m.ev];simp only[cu,gQ,eU,kR]at xC;have hw:Z8 u6=2:=I;obtain⟨y,w3,x,e,_,w⟩:=FA w2 [u6,m.ev] (n:=2) (parts:=#[.mk 0 (ae (T u6)),.mk 1 (ae (T m.ev))]) I I Z Z J;have z3:=e.size;refine⟨_,I,c.sm l R,y,w3,x,t.sq e R,w.mono ?_⟩;rintro _ w4 ⟨rfl,b⟩;exact⟨_,I,t.sj z3 b R,_,s,I,J,λ_=>by unfold WA;rw[K k],by rw[K k];exact X,t.q (wg e b)⟩
 .have x:m.k≠1:=R0
  have w:m.k=3:=by simpa using N
  refine(lN c.toQz _).mono ?_;rintro _ w2 ⟨rfl,X,v1,v2,y⟩;have t:=c.nx v2 y;refine⟨I,c.sm y R,(Cb m.wt f.w (q.only t.o)).mono ?_⟩;rintro _ w3 ⟨rfl,s⟩;have l:=t.q s;have xC:=jW [fL,Lib.itoa m.wt];simp only[cu,gQ,eU,kR]at xC;have hw:Z8 fL=5:=I;have Za:=adB f.w;obtain⟨q4,w4,Y,e,_,k⟩:=FA w3 [fL,Lib.itoa m.wt] (n:=2) (parts:=#[.mk 0 (ae (T fL)),.mk 1 (ae (T (Lib.itoa m.wt)))]) I I Z Z J;have z4:=e.size;refine⟨_,I,t.sq s R,q4,w4,Y,l.sq e R,k.mono ?_⟩;rintro _ w5 ⟨rfl,b⟩;exact⟨_,I,l.sj z4 b R,_,X,I,J,λ_=>by unfold WA;rw[W x,K w],by rw[W x,K w];exact v1,l.q (wg e b)⟩
 have k:m.k≠1:=R0
 have y:m.k≠3:=by simpa using N
 refine(lN c.toQz _).mono ?_;rintro _ w ⟨rfl,e,l,n,b⟩;have t:=c.nx n b;refine⟨I,c.sm b R,fb,e,I,by show 6<=_;omega,λ_=>by unfold WA;rw[W k,W y],by rw[W k,W y];exact l,t⟩
end
def ag3{w}{b}{q}{v1 v2 v3}(c:q=ZQ∨q=Hg ⟨b,0,ZQ⟩)(h:aG w b 276 [ah q,v1,v2,v3]):
  aA ar 311 #[ah (Hg ⟨b,0,ZQ⟩)] w λe a=>e=ao (aj #[])/\az [b] w a/\aG a b 276 [ah (Hg ⟨b,0,ZQ⟩),v1,v2,v3]:=by
 refine ret (ac8 ?_);have W:w.shape? b=Hg (276,4):=by
  rw[World.shape?];rw[h];rfl
 refine⟨q,Mn h 0 I,λn=>?_,λn=>⟨q,Mn h 0 I,?_⟩⟩
 .have r:=Lib.run_from_unsafe (P:=ar) (src:=361) (dst:=272) w ⟨b,0,ZQ⟩ (u:=274) (j:=Tryz.t274) D D D W D;exact⟨_,w,Lib.run_to_unsafe (P:=ar) (src:=272) (dst:=361) w ⟨b,0,ZQ⟩ (t:=274) (j:=Tryz.t274) D D D Z W (by decide:0<4),⟨ah _,I⟩,w,adg _ w,Hg _,w,r,b,0,_,_,I,h,R,λd O B=>⟨I,O,B⟩⟩
 rcases c with rfl | rfl
 .cases n
 exact⟨aM,w,Lib.run_neq_ptr_same w _ (te:=274) (j:=Tryz.t274) D D,λe=>Jh,λ_=>⟨I,EC _ _,h⟩⟩
section
variable {w0 w:aw} {b:Nat} {l:S} {st:St}
def aav(h:Qz w0 b w l st) m (p:Z8 l+Z8 m<=274877906944):aA ar 275 #[ah (Hg ⟨b,0,ZQ⟩),ae (T m)] w λe o=>
  e=ao (aj #[O U (Z8 m),.nilIface])/\Qz w0 b o (l++m) st/\Mw aM b w o:=by
 refine ret (ac5 ?_);have⟨q,sl,t,B,u⟩:=h.ex;refine(ag3 t B).mono ?_;rintro _ C ⟨rfl,d,r⟩;have E:=d.size;have A:=B.lt;have Ad:=u.keep λg hg f=>d.block g f (by have:=(u.lt hg).1;simp;omega);have⟨s,z,v,y,k3,n⟩:=Cd Ad m J J;have F6:∀g,s.a=Hg ⟨g,0,ZQ⟩->b<g:=λg hg=>by
  rcases n with e | e
  .rw[e]at hg;exact(Ad.lt hg).1
  rw[e]at hg;injection hg with hg;injection hg with hg;omega
 refine⟨I,sl,Mn r 1 I,s,z,v,b,1,_,_,I,k3.blk r λe=>Wk,R,λD i j=>?_⟩;have c:=((d.p (F:=λk=>k=b∨(aM=aM/\Bu w b k)) λx hx=>.inl (.inl KB)).trans k3 λk a=>.inl (.inr ⟨I,JS B a⟩)).trans (i.p (F:=λk=>k=b) λx hx=>.inl KB) λk a=>.inl (.inl a);refine⟨I,⟨?_,h.lo,⟨_,_,.inr I,j,y.keep λg hg f=>i.block g f Uy⟩,h.i,by rw[aP];exact p⟩,c,λk a=>?_⟩
 .refine⟨c.os.trans h.o.os,c.tape.trans h.o.tape,c.output.trans h.o.output,bp h.o.size c.size,λk a _=>(c.block k (cD a h.o.size) ?_).trans (h.o.block k a R)⟩;rintro(e | ⟨_,e⟩)
  .have:=h.lo;omega
  have:=(h.bu e).1;have:=h.lo;omega
 have e:=Ph j a;rcases n with b | b
 .exact .inl (JS B (b▸e))
 rw[b]at e;injection e with e;injection e with e;exact .inr ⟨I,J⟩
def Zq.sl{f g}{ws w1 w'}{ks ks'}(t:Zq f w0 ws b w l st ks)(O:az [] w w1)(m:Mw g b w w')(h:∀k,k∈ks'->k∈ks):cF ks' w1 w':=λx a=>
 (t.sm m h x a).trans (t.sq O h x a).symm
def Pu:∀d,Lib.repeatL [32,32] d=vY d
 | 0=>rfl
 | d+1=>by rw[Lib.repeatL,Pu d];rfl
def Pv:∀d,Z8 (vY d)=2*d
 | 0=>rfl
 | d+1=>by rw[vY,aY,aY,Pv d];omega
def Bk(h:Qz w0 b w l st) ws {n} {parts} (o:parts=(((ws.map λx=>Value.string (T x)).zipIdx 0).map λx=>(x.2,x.1)).toArray) (m:Z8 ws=n) (j:0<n) (v:n*1<=16777216) (d:Nat) (hd:d<=12) (s:Z8 (iT ws)<=274877889536):
  ∃(q:Sl) (a:aw),(av 37 n parts).run ar w=.ok q.v a/\az [] w a/\aA ar 225 #[rp b,O U d,q.v] a λe c=>e=ao (aj #[])/\Qz w0 b c (if st.1 then l else ly l (d,iT ws)) st/\Mw aM b w c:=by
 have⟨q,a,i,S,p⟩:=jb w ws o m j v;refine⟨q,a,i,p,?_⟩;have t:=(h.z aF).q p;have u:∀k,Bu w b k->k<w.heap.size:=λk g=>(h.bu g).2;refine ret (akQ ?_);refine(slS t.toQz).mono ?_;rintro _ z ⟨rfl,rfl⟩;obtain⟨y,sl,B,_⟩:=t.toQz.set;refine⟨_,I,st.1,λ_=>Mn B 2 I,λhc r f=>?_,λhc=>?_⟩
 .simp only[H,ey,ig]at hc;obtain⟨X,w⟩:=hc;have n:=t.q f;refine(Tryz.strings_Repeat (T [32,32]) d r J (by show 2*d<=_;omega)).mono ?_;rintro _ x ⟨rfl,l⟩;have D:=Only.below l;have q:=n.q D;have A:=Pv d;refine⟨T (vY d),by rw[show(T [32,32]).data.toList=[32,32]from rfl,Pu],(DD (S.keep cx (w':=x) λk g e=>(f.cn D).block k e R) J J).mono ?_⟩;rintro _ C ⟨rfl,P⟩;have b:=q.row h.lb u P;refine⟨_,I,by rw[cH,cH];omega,by rw[fD,cH,aP];omega,?_⟩;rw[show aq #[10]=T [10]from rfl,fD,fD,show Addr.add _ 0=_ from rfl];refine(aav b.toQz _ ?_).mono ?_
  .simp;omega
  rintro _ E ⟨rfl,d,k⟩;refine⟨_,⟨.nilIface,I⟩,I,I,?_,b.m.up.trans k⟩;rw[w,W Z];unfold ly II;rw[W X];rw[be]at d;exact d
 refine⟨I,?_,t.m.up⟩;have:(if st.1 then l else ly l (d,iT ws))=l:=by
  cases e:st.1
  .rw[e]at hc;rw[W Z];rw[ly];rw[K R0]
  rfl
 rw[this];exact t.toQz
def DI(h:Qz w0 b w l st)(d:Nat)(hd:d<=12) word text (f:Z8 word<=100) (c:Z8 text<=274877880000):
  aA ar 280 #[rp b,O U d,ae (T word),ae (T text)] w λe a=>e=ao (aj #[])/\Qz w0 b a (if st.1||VM (text=[])then l else ly l (d,iT [word,text])) st/\Mw aM b w a:=by
 refine ret (alg ?_);refine⟨λhc=>?_,λhc=>?_⟩
 .have hc:=R0
  have x:=jW [word,text];simp at x;have⟨q,w,e,p,j⟩:=Bk h [word,text] (n:=2) (parts:=#[.mk 0 _,.mk 1 _]) I I Z Z d hd J;refine⟨q,w,e,j.mono ?_⟩;rintro _ g ⟨rfl,b,m⟩;refine⟨I,I,?_,m⟩;rw[bC hc,Iz];exact b
 refine⟨I,?_,Mw.refl _ _ _⟩;rw[bF R0,oQ,K I];exact h
end
def qe:X Mv->Nat
 | []=>0
 | m::l=>BL m+qe l
def uS(b:Nb):Nat:=((Z8 b.nm+Z8 b.ini)+(Z8 b.dft+1))+((jd b.en+jd b.lv)+qe b.mv)
mutual
def lF:Nd->Nat
 | .mk b l=>uS b+ji l
def ji:X Nd->Nat
 | []=>0
 | x::l=>lF x+ji l
end
def qG{m}:∀{l:X Mv},m∈l->BL m<=qe l
 | [],h=>Gl
 | x::l,h=>by
  rw[qe];rcases aZ.1 h with rfl | h
  .omega
  have:=qG h;omega
def mf:∀l,Z8 l<=qe l
 | []=>bh _
 | m::l=>by
  have:=mf l;rw[qe,aY];rw[BL];omega
def nK{x}:∀{l:X Nd},x∈l->lF x<=ji l
 | [],h=>Gl
 | y::l,h=>by
  rw[ji];rcases aZ.1 h with rfl | h
  .omega
  have:=nK h;omega
def aaw x:1<=lF x:=by
 have⟨b,l⟩:=x;rw[lF];rw[uS];omega
def mg:∀l,Z8 l<=ji l
 | []=>bh _
 | x::l=>by
  have:=mg l;have:=aaw x;rw[ji,aY];omega
def zx{x}:∀{l:X Nd},xu l->x∈l->Dw x
 | [],_,h=>Gl
 | y::l,n,h=>by
  rcases aZ.1 h with rfl | h
  .exact n.1
  exact zx n.2 h
def yf d x:∀l,jm d (l++[x])=(jm d l&&ku d x)
 | []=>by simp[jm]
 | y::l=>by rw[bW,jm,jm,yf d x l,xE]
def AI x:∀l,nt (l++[x])=nt l+xL x
 | []=>by simp[nt]
 | y::l=>by rw[bW,nt,nt,AI x l];omega
def AJ d x:∀l,qE d (l++[x])=qE d l++Im d x
 | []=>by simp[qE]
 | y::l=>by rw[bW,qE,qE,AJ d x l,be]
def ES(x:Nb)(k:X Nd)(d:Nat):L:=(VM (x.ini=[])||dI x.ini)&&(x.en.all iM&&(x.lv.all iM&&(x.mv.all mO&&jm d k)))
def oJ l p:eE l [p]=ly l p:=rfl
def Vn l:An l≠[]:=by unfold An;simp
def zy{dj}{l l1 l2}{L M}{Ip}{c}{n}(U:Up Ip c n dj)(h:Ip.1=aM->l1=eE l L)(a:dj.1=aM->l2=eE l1 M):dj.1=aM->l2=eE l (L++M):=λe=>by
 rw[a e,h (U.ok e).1,gy]
def Vo(D:Nat):Prop:=∀w a b l st F x c (d:Nat),Qz w b a l st->pv aM D a F x c->(∀k,F k->k<w.heap.size)->Dw x->lF x<=8388608->d<=12->Er w->Tb w->
 aA ar 283 #[rp b,ai c.toArray,O U d] a λe g=>e=ao (aj #[])/\∃j f,Up st (ku d x) (xL x) j/\(j.1=aM->f=eE l (Im d x))/\Qz w b g f j/\Mw aM b a g
section
variable {w0 w:aw} {b:Nat} {l:S} {st:St}
def ahS{D:Nat}(N:Vo D)(f:Qz w0 b w l st){F}{x}{en lv mv kids}{ks}(u:Cg aM w F x en lv mv)(hk:jh aM (pv aM D) 9 28 w F kids ks)(h:∀k,F k->k<w0.heap.size)(i:Q4 x)(m:xu ks)(v:uS x+ji ks<=8388608)(d:Nat)(hd:d<=12)(E:Er w0)(T:Tb w0):
  aA ar 228 #[rp b,ai (rz x.k x.nm x.ini x.dft en lv mv kids x.a).toArray,O U d] w λe c=>e=ao (aj #[])/\∃j a,Up st (ES x ks d) (BJ x+nt ks) j/\(j.1=aM->a=eE l (JH d x++qE d ks))/\Qz w0 b c a j/\Mw aM b w c:=by
 rw[uS]at v;have z:=mf x.mv;have A:=mg ks;have⟨g,C,q⟩:=u;have g:=g.1;have q:=q.1;have hk:=hk.1;refine ret (akS ?_);intro o B Q L s;have t:=(f.z aM).al s Q L;refine⟨λc=>∃p r,Up st (VM (x.ini=[])||dI x.ini) 0 p/\(p.1=aM->r=eE l (xr d x))/\Zq aM w0 w b c r p [o],?_,λhc=>?_,λhc=>?_⟩
 .rintro w2 ⟨BA,P,Y,xP,V⟩;refine(Hp V.toQz (KN (cN aM) g Z λk hk _=>f.arg V.toQz (h k hk)) h i.en J E T).mono ?_;rintro _ w3 ⟨l,H,rfl,aS,aC,M,q3,m3⟩;have t3:=V.nx q3 m3.up;refine⟨_,I,V.sm m3 R,(DI t3.toQz d hd fX l Z J).mono ?_⟩;rintro _ w4 ⟨rfl,q4,m4⟩;have X:=t3.nx q4 m4;have am:H.1=aM->(if H.1||VM (l=[])then P else ly P (d,iT [fX,l]))=eE P (OY d x):=λe=>by
   rw[e,aC e];rw[OY];by_cases G:x.en=[]
   .rw[K G,K G];rfl
   rw[W G,W G,bC (Vn _),W Z,oJ,rB Z,gU (by rfl),fz,gR,oI,bD]
  generalize (if H.1||VM (l=[])then P else ly P (d,iT [fX,l]))=l4 at*
  refine⟨I,t3.sm m4 R,(Hp X.toQz (KN (cN aM) C.1 Z λk hk _=>f.arg X.toQz (h k hk)) h i.lv J E T).mono ?_⟩;rintro _ w5 ⟨bY,bv,rfl,f5,eQ,cc,q5,m5⟩;have t5:=X.nx q5 m5.up;refine⟨_,I,X.sm m5 R,(DI t5.toQz d hd gn bY Z J).mono ?_⟩;rintro _ w6 ⟨rfl,q6,m6⟩;have t6:=t5.nx q6 m6;have dO:bv.1=aM->(if bv.1||VM (bY=[])then l4 else ly l4 (d,iT [gn,bY]))=eE l4 (RN d x):=λe=>by
   rw[e,eQ e];rw[RN];by_cases G:x.lv=[]
   .rw[K G,K G];rfl
   rw[W G,W G,bC (Vn _),W Z,oJ,rB Z,gU (by rfl),fz,gR,oI,bD]
  generalize (if bv.1||VM (bY=[])then l4 else ly l4 _)=l6 at*
  have cC:=zy cc (zy M xP am) dO;refine⟨I,t5.sm m6 R,λnv el c=>∃(aT:Nat) (j:St) (a:S),el=aT/\aT<=Z8 x.mv/\nv=(Z8 x.mv)-aT/\Up bv ((x.mv.take aT).all mO) ((x.mv.take aT).map λbV=>Z8 bV.acts).sum j/\(j.1=aM->a=eE l6 ((x.mv.take aT).map λbV=>(d,EN bV)))/\Zq aM w0 w b c a j [o],
   (Z8 x.mv),⟨0,bv,l6,I,bh _,I,t6.toQz.up0,λ_=>I,t6⟩,?_⟩
  rintro nv _ w7 ⟨aT,ce,l7,rfl,hj,rfl,Q6,Q7,t7⟩;have fd:=q.len;have co:aB (JE aM) 13 w7 F mv x.mv:=KN (iL aM) q Z λk hk _=>f.arg t7.toQz (h k hk);refine⟨λhc=>?_,λhc=>?_⟩
  .have bT:(aT:Int)<mv.n:=aO hc;obtain⟨ad,bV,cs,g1,g2,g3,g4,g5,g6⟩:=co.get (bc aT) bT;rw[aW]at g2;have y:=bA g2;have ip:=qG y;have pU:x.mv.take (aT+1)=x.mv.take aT++[bV]:=by
    rw[bq,g2];rfl
   have A7:=g6;obtain⟨gc,mF,tg,rfl,r1,r2,r3⟩:=A7;obtain⟨gl,rfl⟩:=dM r1;refine⟨ad,g1,_,_,_,_,_,_,_,_,_,_,_,_,_,g5,λk3 w8 yw tD ft=>?_⟩;have t8:=t7.al ft yw tD;refine(afT t8.toQz ((iL aM).keep g6 λk _ bT=>ft.block k bT R) h (i.mv bV y) J E T).mono ?_;rintro _ w9 ⟨ge,g8,rfl,iD,g9,w,q9,m9⟩;have t9:=t8.nx q9 m9.up;have xC:=jW [ge];simp only[cu,gQ,eU,kR]at xC;obtain⟨gO,dk,gG,dS,gE⟩:=Bk t9.toQz [ge] (n:=1) (parts:=#[.mk 0 _]) I I Z Z d hd J;refine⟨_,I,t8.sm m9 R,gO,dk,gG,t9.sq dS R,gE.mono ?_⟩;rintro _ dz ⟨rfl,gT,F⟩;have b:=t9.nx gT F;refine⟨I,t9.sl dS F R,(Z8 x.mv)-(aT+1),J,aT+1,g8,_,TE,J,I,(Q6.tr w).cg ?_ ?_,λe=>?_,⟨b.toQz,b.m,λk hk=>b.k k KR⟩⟩
   .rw[pU,jF];simp
   .rw[pU,cX,vp];simp
   rw[e,W Z,Q7 (w.ok e).1,pU,cX,gy,g9 e];show _=ly _ (d,EN bV);have:ne (EN bV)=aF:=by
    have:EN bV≠[]:=by unfold EN;simp
    unfold ne;rw[bC this];rfl
   rw[rB this,fz,oI,bD]
  have pf:¬(aT:Int)<mv.n:=aR hc;have lD:aT=Z8 x.mv:=J
  subst lD;rw[br J]at Q6 Q7;refine⟨λnv el c=>∃(aT:Nat) (j:St) (a:S),el=aT/\aT<=Z8 ks/\nv=(Z8 ks)-aT/\Up ce (jm d (ks.take aT)) (nt (ks.take aT)) j/\(j.1=aM->a=eE l7 (qE d (ks.take aT)))/\Zq aM w0 w b c a j [o],
   (Z8 ks),⟨0,ce,l7,I,bh _,I,by rw[ci,jm,nt];exact t7.toQz.up0,λ_=>by rw[ci,qE];rfl,t7⟩,?_⟩
  rintro nv _ dz ⟨aT,iS,pr,rfl,hj,rfl,n,iN,iF⟩;have lT:=hk.len;have lE:aB (pv aM D) 9 dz F kids ks:=KN (ck aM D) hk Z λk hk _=>f.arg iF.toQz (h k hk);refine⟨λhc=>?_,λhc=>?_⟩
  .have b:=aO hc;obtain⟨ad,y,cs,g1,w,g3,g4,g5,g6⟩:=lE.get J b;rw[aW]at w;have tU:=bA w;have Q8:=nK tU;have x:ks.take (aT+1)=ks.take aT++[y]:=by
    rw[bq,w];rfl
   have F:=g6;cases D with
   | zero=>exact F.elim
   | succ D=>
   obtain⟨r7,r9,oe,gY,rfl,_⟩:=F;refine⟨ad,g1,_,_,_,_,r7,r9,oe,gY,_,g5,λk7 eF pi oF dV=>?_⟩;have y:=iF.al dV pi oF;refine(N _ _ _ _ _ _ _ _ d y.toQz ((ck aM _).keep g6 λk _ b=>dV.block k b R) h (zx m tU) J hd E T).mono ?_;rintro _ eM ⟨rfl,oN,xx,mK,oR,pm,nO⟩;have mt:=y.nx pm nO;refine⟨I,y.sm nO R,(Z8 ks)-(aT+1),J,aT+1,oN,xx,TE,J,I,(n.tr mK).cg ?_ ?_,λe=>?_,⟨mt.toQz,mt.m,λk hk=>mt.k k KR⟩⟩
   .rw[x,yf]
   .rw[x,AI]
   rw[oR e,iN (mK.ok e).1,x,AJ,gy]
  have pf:¬(aT:Int)<kids.n:=aR hc;have lD:aT=Z8 ks:=J
  subst lD;rw[br J]at n iN;refine⟨I,iS,pr,(Y.tr (M.tr (cc.tr (Q6.tr n)))).cg I ?_,λe=>?_,iF.toQz,iF.m⟩
  .unfold BJ;omega
  rw[(zy n (zy Q6 cC Q7) iN) e];unfold JH IH;simp only[be]
 .have hc:x.ini≠[]:=R0
  refine(pe t.toQz x.ini J).mono ?_;rintro _ H ⟨rfl,y,b,F,l⟩;have k:=t.nx F l.up;refine⟨_,I,t.sm l R,R5,?_⟩;refine(DI k.toQz d hd dU (x.ini++[59]) Z RC).mono ?_;rintro _ M ⟨rfl,G,n⟩;refine⟨I,k.sm n R,y,_,b.cg (by rw[bC hc,tV]) I,λe=>?_,k.nx G n⟩;have w:x.ini++[59]≠[]:=R
  have Y:ne (x.ini++[59])=aF:=by unfold ne;rw[bC w];rfl
  rw[e,bC w,W Z,rB Z,gU Y,fz,gR,oI,bD];rw[xr];rw[W hc];rfl
 have hc:=R0
 refine⟨st,l,f.up0.cg (by rw[bF hc];rfl) I,λ_=>by unfold xr;rw[K hc];rfl,t⟩
end
def Up.more{st dj}{c}{n}(h:Up st c 0 dj)(a:c=aF->n=0):Up st c n dj:=by
 cases c
 .refine⟨?_,λe=>?_⟩
  .rw[h.w];simp
  have:=h.w;rw[e]at this;simp at this
 rw[a I];exact h
def ado:X (S):=[[],AA,qo,sQ,Fs]
def amv{k}(h:1<=k)(a:k<=4):ado[k.toNat]? =Hg (kW k):=by
 have:k=1∨k=2∨k=3∨k=4:=J
 rcases this with rfl | rfl | rfl | rfl<;>rfl
def adp k:ne (kW k)=aF:=by
 unfold kW;split
 .rfl
 split
 .rfl
 split
 .rfl
 rfl
def afU k:Z8 (kW k)<=8:=by
 unfold kW;split
 .decide
 split
 .decide
 split
 .decide
 decide
def ah6{d}{b}{l}(k:b.k=1∨b.k=2)(hd:d<12):((VM (b.dft=[])&&dI b.nm)&&ES b l (d+1))=ku d (.mk b l):=by
 have h:iJ b.k=aM:=Fl
 rw[ku,bF hd,cr];unfold u7 ES;rw[h,W Z];have:VM ((b.k=1∨b.k=2)/\b.dft=[])=VM (b.dft=[]):=by simp[k]
 rw[this];generalize VM (b.dft=[])=A;generalize dI b.nm=B;generalize (VM (b.ini=[])||dI b.ini)=C;generalize b.en.all iM=D;generalize b.lv.all iM=E;generalize b.mv.all mO=G;cases A<;>cases B<;>cases C<;>cases D<;>cases E<;>rfl
def acT{d}{b}{l}(k:b.k=3∨b.k=4)(hd:d<12):(((VM (b.ini=[])&&VM (b.en=[]/\b.lv=[]/\b.mv=[]/\l=[]))&&dI b.nm)&&dI b.dft)=ku d (.mk b l):=by
 have a:iJ b.k=aF:=by unfold iJ;exact bF k
 rw[ku,bF hd,cr];unfold u7;rw[a,K I];by_cases h:l=[]
 .subst h;have:VM (b.ini=[]/\b.en=[]/\b.lv=[]/\Z8 b.mv=0/\Z8 ([]:X Nd)=0)=(VM (b.ini=[])&&VM (b.en=[]/\b.lv=[]/\b.mv=[]/\([]:X Nd)=[])):=by
   simp
  rw[this,jm];generalize VM (b.ini=[])=A;generalize VM (b.en=[]/\b.lv=[]/\b.mv=[]/\([])=[])=B;cases A<;>cases B<;>cases dI b.nm<;>cases dI b.dft<;>rfl
 have d:VM (b.en=[]/\b.lv=[]/\b.mv=[]/\l=[])=aM:=bC λc=>h c.2.2.2;have e:VM (b.ini=[]/\b.en=[]/\b.lv=[]/\Z8 b.mv=0/\Z8 l=0)=aM:=bC λc=>h (bJ c.2.2.2.2);rw[d,e];simp
def Py{d}{b}{l}(h:¬(1<=b.k/\b.k<=4)∨12<=d):ku d (.mk b l)=aM:=by
 rw[ku];rcases h with h | h
 .have a:iJ b.k=aM:=Fl
  have:VM ((b.k=1∨b.k=2)/\b.dft=[])=aM:=bC J;unfold u7;rw[a,W Z,this];simp
 rw[bC J];rfl
def PA:∀D,Vo D
 | 0=>by
  intro e w b l st F x c d a h;exact h.elim
 | D+1=>by
  intro A g b l st C x h d u E F y z hd V X;obtain⟨a,s⟩:=x;have Y:=E;obtain⟨i,m,mv,kids,rfl,v,r⟩:=E;have v:Cg aM g C a i m mv:=v;have r:jh aM (pv aM D) 9 28 g C kids s:=r;show aA ar 283 #[rp b,ai (rz a.k a.nm a.ini a.dft i m mv kids a.a).toArray,O U (d:Int)] g _;rw[Dw]at y;rw[lF]at z;have M:=z;unfold uS at M;refine ret (alj ?_);intro p w1 Q P N;have c:=(u.z aM).al N Q P;obtain⟨q,sl,B,_⟩:=c.toQz.set;have bad:∀{w:aw} {j:St} {o:S},j.1=aF->Zq aM A g b w o j [p]->(st.1=aF∨ku d (.mk a s)=aM)->∃j G,Up st (ku d (.mk a s)) (xL (.mk a s)) j/\(j.1=aM->G=eE l (Im d (.mk a s)))/\Qz A b w G j/\Mw aM b g w:=by
   intro w j o e t hc;refine⟨j,o,⟨?_,λb=>absurd (e.symm.trans b) Z⟩,λb=>absurd (e.symm.trans b) Z,t.toQz,t.m⟩;rw[e];rcases hc with hc | hc
   .rw[hc];rfl
   rw[hc];simp
  refine⟨st.1,Mn B 2 I,λhc=>?_,λhc=>?_⟩
  .refine(lN c.toQz aM).mono ?_;rintro _ k ⟨rfl,f,d,e,b⟩;refine⟨I,c.sm b R,I,bad (by rw[d.w];simp) (c.nx e b.up) ?_⟩;rw[dq]at hc;rcases hc with hc | hc
   .exact .inl hc
   exact .inr (Py (.inr Ro))
  rw[fN]at hc;have am:d<12:=by have:=aR hc.2;omega
  obtain⟨q2,w2,q,h,e2,cO,aT,bv,jY,dG⟩:=Vh w1 ado (n:=5) (parts:=#[.mk 0 (ae (aq #[])),.mk 1 (ae (aq #[115,116,97,116,101])),.mk 2 (ae (aq #[112,97,114,97,108,108,101,108])),.mk 3 (ae (aq #[104,105,115,116,111,114,121])),.mk 4 (ae (aq #[100,101,101,112]))]) I I Z Z;have t2:=c.al cO aT bv;have aC:1<=a.k/\a.k<=4->cM q2 a.k 1 ⟨q,a.k.toNat,ZQ⟩/\∀w,aG w q 9 h->aD w ⟨q,a.k.toNat,ZQ⟩ [ae (T (kW a.k))]:=λhk=>by
   have:=dG _ _ (amv hk.1 hk.2);rwa[fy J]at this
  have F7:=afU a.k;have z2:∀{w3:aw},az [] w2 w3->aG w3 q 9 h:=λhO=>hO.blk jY R;have aS:∀{w3 w4:aw} {o:S} {sx:St} {f:L},Zq aM A g b w3 o sx [q,p]->Mw f b w3 w4->aG w3 q 9 h->aG w4 q 9 h:=λt bV B=>(t.sm (ks':=[q]) bV R q R).trans B;refine⟨q2,w2,e2,c.sq cO R,λb1 w3=>w2=w3/\b1=VM (a.k=1∨a.k=2),?_,λuX=>⟨I,?_⟩,λuX=>⟨I,?_⟩⟩
  .rintro b1 _ ⟨rfl,rfl⟩;refine⟨λb=>?_,λb=>?_⟩
   .have hk:=aO b;have cC:1<=a.k/\a.k<=4:=J
    obtain⟨y1,y2⟩:=aC cC;rw[show aq #[]=T []from rfl,iC];refine(lN t2.toQz _).mono ?_;rintro _ w4 ⟨rfl,NV,u1,u2,u3⟩;have t4:=t2.nx u2 u3.up;refine⟨I,t2.sm u3 R,λw5 dP=>⟨λk=>k∈[p,q],R,_,y1,R,_,y2 w5 (dP.blk (aS t2 u3 jY) R),?_⟩⟩;have t5:=t4.q dP;refine(pe t5.toQz a.nm J).mono ?_;rintro _ w6 ⟨rfl,t,v1,v2,v3⟩;have f:=t5.nx v2 v3.up;have xC:=jW [kW a.k,a.nm,[123]];simp only[cu,gQ,eU,kR,aY,bE]at xC;obtain⟨q7,w7,e7,ga,co⟩:=Bk f.toQz [kW a.k,a.nm,[123]] (n:=3) (parts:=#[.mk 0 (ae (T (kW a.k))),.mk 1 (ae (T a.nm)),.mk 2 (ae (T [123]))]) I I Z Z d hd J;refine⟨_,I,t5.sm v3 R,Jw (t5.sm v3 R),q7,w7,e7,f.sq ga R,Jw (f.sq ga R),co.mono ?_⟩;rintro _ w8 ⟨rfl,x1,x2⟩;have t8:=f.nx x1 x2;have dO:t.1=aM->(if t.1 then l else ly l (d,iT [kW a.k,a.nm,[123]]))=eE l [(d,kW a.k++32::(a.nm++[32,123]))]:=λe=>by
     rw[e,W Z,oJ,rB (adp _),gU (uB (v1.ok e).2.1),gU (by rfl),fz,gR,gR,oI];rfl
    generalize (if t.1 then l else ly l (d,iT [kW a.k,a.nm,[123]]))=l8 at*
    have ed:au U ((d:Int)+1)=((d+1:Nat):Int):=TE
    rw[ed];refine⟨I,f.sl ga x2 R,Jw (f.sl ga x2 R),(ahS (PA D) t8.toQz (v.keep λk hk _=>u.arg t8.toQz (F k hk)) (r.keep (ck aM D) Z λk hk _=>u.arg t8.toQz (F k hk)) F y.1 y.2 z (d+1) J V X).mono ?_⟩;rintro _ w9 ⟨rfl,fd,l9,x,el,y3,y4⟩;have t9:=t8.nx y3 y4;obtain⟨eQ,dk,ce,dS,cc⟩:=Bk t9.toQz [[125]] (n:=1) (parts:=#[.mk 0 (ae (T [125]))]) I I Z Z d hd Z;refine⟨I,t8.sm y4 R,eQ,dk,ce,t9.sq dS R,cc.mono ?_⟩;rintro _ dz ⟨rfl,x3,x4⟩;have bY:=t9.nx x3 x4;refine⟨I,t9.sl dS x4 R,I,fd,_,((u1.tr v1).tr x).cg (ah6 hk am) (by rw[xL];omega),λe=>?_,bY.toQz,bY.m⟩;have hh:iJ a.k=aM:=Fl
    rw[Im,hh,e];simp only[mq,kP];rw[el e,dO (x.ok e).1,<-gy];have e1:iT [[125]]=[125]:=Z
    rw[e1,<-oJ,<-gy];simp only[be,bW,cb]
   have f5:=aR b;refine⟨λt eF=>w2=eF/\t=VM (a.k=3∨a.k=4),?_,λf=>⟨I,?_⟩,λf=>⟨I,?_⟩⟩
   .rintro t _ ⟨rfl,rfl⟩;refine⟨λge=>?_,λge=>?_⟩
    .have hk:=aO ge;have iF:1<=a.k/\a.k<=4:=J
     obtain⟨y1,y2⟩:=aC iF;have n4:=v.1.1.len;have n5:=v.2.1.1.len;have n6:=v.2.2.1.len;have n7:=r.1.len;have a4:=fh a.en;have a5:=fh a.lv;have a6:=mf a.mv;have a7:=mg s;have g8:(au U ((au U ((au U ((i.n:Int)+(m.n:Int)))+(mv.n:Int)))+(kids.n:Int))==0)=VM (a.en=[]/\a.lv=[]/\a.mv=[]/\s=[]):=by
      rw[eS (x:=(i.n:Int)+(m.n:Int)) J J,eS (x:=(i.n:Int)+(m.n:Int)+(mv.n:Int)) J J,eS J J,bL];simp only[eX,bU];refine⟨λe=>?_,λ⟨d,e2,k,n⟩=>?_⟩
      .exact⟨bJ J,bJ J,bJ J,bJ J⟩
      rw[n4,n5,n6,n7,d,e2,k,n];rfl
     rw[show aq #[]=T []from rfl,iC,g8];refine(lN t2.toQz _).mono ?_;rintro _ eM ⟨rfl,lT,u1,u2,u3⟩;have iS:=t2.nx u2 u3.up;refine⟨I,t2.sm u3 R,λfR eH=>⟨λk=>k∈[p,q],R,_,y1,R,_,y2 fR (eH.blk (aS t2 u3 jY) R),R,?_⟩⟩;have gG:=iS.q eH;refine(pe gG.toQz a.nm J).mono ?_;rintro _ gV ⟨rfl,lE,v1,v2,v3⟩;have gO:=gG.nx v2 v3.up;refine⟨_,I,gG.sm v3 R,Jw (gG.sm v3 R),(pe gO.toQz a.dft J).mono ?_⟩;rintro _ iO ⟨rfl,g9,x1,x2,x3⟩;have gE:=gO.nx x2 x3.up;have xC:=jW [kW a.k,a.nm,[45,62],a.dft++[59]];simp only[cu,gQ,eU,kR,aY,bE,aP]at xC;obtain⟨iN,iz,iD,iK,ip⟩:=Bk gE.toQz [kW a.k,a.nm,[45,62],a.dft++[59]] (n:=4) (parts:=#[.mk 0 (ae (T (kW a.k))),.mk 1 (ae (T a.nm)),.mk 2 (ae (T [45,62])),.mk 3 (ae (T (a.dft++[59])))]) I I Z Z d hd J;refine⟨T a.dft,I,gO.sm x3 R,Jw (gO.sm x3 R),R5,iN,iz,by rw[show aq #[59]=T [59]from rfl,fD];exact iD,gE.sq iK R,Jw (gE.sq iK R),ip.mono ?_⟩;rintro _ iU ⟨rfl,y3,y4⟩;have gT:=gE.nx y3 y4;have hU:=((u1.tr v1).tr x1).cg (acT hk am) I;refine⟨I,gE.sl iK y4 R,Jw (gE.sl iK y4 R),I,g9,_,hU.more λpK=>?_,λe=>?_,gT.toQz,gT.m⟩
     .rw[<-acT hk am]at pK;simp only[H,bU]at pK;obtain⟨⟨⟨_,e,e2,d,k⟩,_⟩,_⟩:=pK;rw[xL,k,nt];unfold BJ;rw[e,e2,d];rfl
     have k:iJ a.k=aF:=by unfold iJ;exact bF hk
     have d:ne (a.dft++[59])=aF:=by
      have:a.dft++[59]≠[]:=R
      unfold ne;rw[bC this];rfl
     rw[Im,k,K I,e,W Z,oJ,rB (adp _),gU (uB (v1.ok (x1.ok e).1).2.1),gU (by rfl),gU d,fz,gR,gR,gR,oI,bD];rfl
    have n:=aR ge;refine(lN t2.toQz aM).mono ?_;rintro _ eM ⟨rfl,x,T,u2,e⟩;have d:=t2.nx u2 e.up;exact⟨I,t2.sm e R,I,bad (by rw[T.w];simp) ⟨d.toQz,d.m,λk hk=>d.k k KR⟩ (.inr (Py (.inl J)))⟩
   .have:a.k=3:=by simpa using f
    rw[f,bF (.inl this)]
   have:a.k≠3:=by simpa using f
   rw[bL];simp[this]
  .have:a.k=1:=by simpa using uX
   rw[uX,bF (.inl this)]
  have:a.k≠1:=by simpa using uX
  rw[bL];simp[this]
mutual
def Vq:∀x:Nd,j7 x<=lF x
 | .mk b l=>by
  rw[j7,lF];have:=Co l;unfold uS;omega
def Co:∀l:X Nd,dW l<=ji l
 | []=>by rw[dW];exact bh _
 | x::l=>by
  rw[dW,ji];exact xF (Vq x) (Co l)
end
mutual
def afV:∀x:Nd,zj x<=lF x
 | .mk b l=>by
  rw[zj,lF];have:=zA l;have:=mf b.mv;unfold uS;omega
def zA:∀l:X Nd,nY l<=ji l
 | []=>by rw[nY];exact bh _
 | x::l=>by
  rw[nY,ji];exact xF (afV x) (zA l)
end
def sW x:∀l,dW (l++[x])=dW l+j7 x
 | []=>by simp[dW]
 | y::l=>by rw[bW,dW,dW,sW x l];omega
def wS x:∀l,nY (l++[x])=nY l+zj x
 | []=>by simp[nY]
 | y::l=>by rw[bW,nY,nY,wS x l];omega
def DJ:∀l m,ji (l++m)=ji l+ji m
 | [],m=>by rw[cb,ji];omega
 | y::l,m=>by rw[bW,ji,ji,DJ l m];omega
def agz:∀D w F x c,pv aM D w F x c->lF x<=8388608->aA ar 223 #[ai c.toArray] w λe b=>e=ao (aj #[O U (j7 x),O U (zj x)])/\az [] w b
 | 0,w,F,x,c,h,_=>h.elim
 | D+1,w,F,x,c,l,i=>by
  obtain⟨e,s⟩:=x;obtain⟨u,A,mv,kids,rfl,v,t⟩:=l;have r:=v.2.2.1;have g:aB _ 9 w F kids s:=t.1;refine ret (akO ?_);have K:=Co s;have M:=zA s;have N:=mf e.mv;rw[lF]at i;unfold uS at i;have B:=g.len;have P:=mg s;intro o C Q L p E f;refine⟨λn a q m b=>∃j:Nat,m=j/\j<=Z8 s/\n=(Z8 s)-j/\a=(1+dW (s.take j):Nat)/\q=(Z8 e.mv+nY (s.take j):Nat)/\o<b.heap.size/\az [] w b,Z8 s,⟨0,I,bh _,I,by rw[ci,dW];rfl,by rw[ci,nY,r.len];rfl,cD L f.size,p.cn f⟩,?_⟩;rintro n _ _ _ G ⟨j,rfl,z,rfl,rfl,rfl,H,d⟩;refine⟨λh=>?_,λh=>?_⟩
  .have T:(j:Int)<kids.n:=aO h;obtain⟨ad,y,c,X,x,g3,g4,Y,V⟩:=(Aw (ck aM D) Z g d R).get (bc j) T;rw[aW]at x;have Q8:=nK (bA x);have a:s.take (j+1)=s.take j++[y]:=by
    rw[bq,x];rfl
   have W:ji s=ji (s.take (j+1))+ji (s.drop (j+1)):=by rw[<-DJ,fW]
   have y3:dW (s.take j)+j7 y<=ji (s.take (j+1)):=by rw[<-sW,<-a];exact Co _
   have y4:nY (s.take j)+zj y<=ji (s.take (j+1)):=by rw[<-wS,<-a];exact zA _
   have S:=V;cases D with
   | zero=>exact S.elim
   | succ D=>
   obtain⟨r7,r9,oe,gY,rfl,_⟩:=S;refine⟨ad,X,_,_,_,_,r7,r9,oe,gY,_,Y,λk3 w4 tD am dD=>?_⟩;refine(agz _ w4 F y _ ((ck aM _).keep V λk _ T=>dD.block k T R) J).mono ?_;rintro _ w5 ⟨rfl,dP⟩;refine⟨_,_,I,dP.same (by have:=dD.size;simp;omega),(Z8 s)-_,J,j+1,TE,J,I,?_,?_,?_,(d.cn dD).cn dP⟩
   .rw[a,sW,eS J J];omega
   .rw[a,wS,eS J J];omega
   have:=dD.size;have:=dP.size;omega
  have k:¬(j:Int)<kids.n:=aR h;have a:j=Z8 s:=J
  subst a;rw[br (aX _)];refine⟨?_,d⟩;rw[j7,zj,oS]
structure Pt4 (w:aw) (b:Nat) (sl:Sl) (l:S) (v2 v3:ay):Prop where
 blk:∃q:Option Addr,aG w b 276 [ah q,sl.v,v2,v3]
 len:sl.n=Z8 l
 Hg:l≠[]->∃g,sl.a=.some ⟨g,0,ZQ⟩/\b<g/\sl.c≠0/\(∃n,w.shape? g=.some (5,n)/\Z8 l<=n)/\aD w ⟨g,0,ZQ⟩ (l.map jk)
 cap:sl.a=ZQ∨sl.c≠0
 big:Z8 l<=9223372036854775807
section
variable {w:aw} {b:Nat} {sl:Sl} {l:S} {v2 v3:ay}
def Pt4.only{w'}(j:Pt4 w b sl l v2 v3)(h:az [] w w'):Pt4 w' b sl l v2 v3:=by
 obtain⟨⟨q,m⟩,o,p,r,s⟩:=j;refine⟨⟨q,h.blk m R⟩,o,λu=>?_,r,s⟩;obtain⟨g,c,d,e,⟨n,a,f⟩,i⟩:=p u;have t:g<w.heap.size:=by
  refine bM λn=>?_;unfold World.shape? at a;rw[iq J]at a;cases a
 have k:=h.block g t R;exact⟨g,c,d,e,⟨n,(cvP k).trans a,f⟩,i.keep k⟩
def Qz.pt{w0}{st}(a:Qz w0 b w l st):∃sl,Pt4 w b sl l (ak st.1) (O U st.2)/\∀k,sl.a=Hg ⟨k,0,ZQ⟩->Bu w b k:=by
 obtain⟨q,sl,f,B,h⟩:=a.ex;refine⟨sl,⟨⟨_,B⟩,h.len,λd=>?_,?_,?_⟩,λk c=>JS B c⟩
 .rcases h with⟨_,e⟩ | ⟨g,tail,i,j,b,k,l,m,n,o⟩
  .exact absurd e d
  refine⟨g,i,j,J,⟨_,by unfold World.shape?;unfold aG at b;rw[b],R⟩,b.cells 0 _ λe v hj=>JV⟩
 .rcases h with⟨e,_⟩ | _
  .exact .inl UK
  exact .inr J
 rcases h with⟨_,e⟩ | _
 .subst e;simp
 omega
def PC(i:Pt4 w b sl l v2 v3):aA ar 230 #[ah (Hg ⟨b,0,ZQ⟩)] w λe g=>e=ao (ae (T l))/\Pt4 g b sl l v2 v3/\aE (λk=>b<k/\sl.a=Hg ⟨k,0,ZQ⟩) w g:=by
 refine ret (ac1 ?_);intro c d;obtain⟨⟨q,h⟩,f,L,r,t⟩:=i.only d;refine⟨λk=>k=b,sl,Mn h 1 I,I,sl,Mn h 1 I,sl.a,c,?_,λk _ _=>I,?_⟩
 .obtain⟨s,n,sc⟩:=sl;rcases s with _|a
  .exact Lib.run_unsafeSliceData_nil _ _ _ _ _
  rcases r with e | e
  .cases e
  exact Lib.run_unsafeSliceData_row _ _ _ _ _ _ e
 by_cases a:l=[]
 .subst a;refine⟨T [],c,?_,λk _ _=>I,I,⟨⟨q,h⟩,f,L,r,t⟩,d.p0⟩;rw[f];exact Lib.run_unsafeString_none _ _ _ _ _
 obtain⟨b,e,Q,w,⟨p,u,o⟩,y⟩:=L a;have F:=vR c ⟨b,0,ZQ⟩ (Z8 l);refine⟨T l,c.freeze _ (Z8 l),?_,λk m s=>F.block k s Sb,I,⟨⟨q,F.blk h Sb⟩,f,λ_=>⟨b,e,Q,w,⟨p,(afW _ _ _).trans u,o⟩,λn v j=>by rw[vQ];exact y n v j⟩,r,t⟩,d.AY (F.mono λk _ m=>by dsimp only at m;exact⟨J,by rw[m];exact e⟩)⟩;rw[e,f];exact Lib.run_unsafeString_row _ _ _ _ 5 D D b p u l a o t λn x j=>y n _ (by rw[dr,j];rfl)
end
def kf(c:Ch):S×Int:=
 if qW c=aF then(if 16384<Z8 (eE [] (EO c)) then([],2)else if(fg (eE [] (EO c))).2.1≠0 then([],22)else(eE [] (EO c),0))else([],22)
def jZ:X Vr->Nat
 | []=>0
 | v::l=>(Z8 v.n+1)+jZ l
def wi{v}:∀{l:X Vr},v∈l->Z8 v.n+1<=jZ l
 | [],h=>Gl
 | x::l,h=>by
  rw[jZ];rcases aZ.1 h with rfl | h
  .omega
  have:=wi h;omega
def zC:∀l,Z8 l<=jZ l
 | []=>bh _
 | v::l=>by
  have:=zC l;rw[jZ,aY];omega
def xv(v:Vr):L:=dI v.n&&VM (v.v≠ -9223372036854775808)
def aax c:((((((VM (c.root.b.k=1)&&VM (c.root.b.dft=[]))&&VM (Z8 c.vars<=16))&&VM (j7 c.root<=64))&&VM (zj c.root<=200))&&dI c.root.b.nm)&&(c.vars.all xv&&ES c.root.b c.root.kids 1)&&VM (xL c.root<=400))=qW c:=by
 obtain⟨v,⟨b,l⟩⟩:=c;show((((((VM (b.k=1)&&VM (b.dft=[]))&&decide _)&&decide _)&&decide _)&&dI b.nm)&&(v.all xv&&ES b l 1)&&decide _)=(v.all xv&&ku 0 _&&VM (b.k=1/\Z8 v<=16/\j7 _<=64/\zj _<=200/\xL _<=400))
 by_cases h:b.k=1
 .rw[<-ah6 (d:=0) (.inl h) Z];have:VM (b.k=1/\Z8 v<=16/\j7 (.mk b l)<=64/\zj (.mk b l)<=200/\xL (.mk b l)<=400)=(VM (Z8 v<=16)&&VM (j7 (.mk b l)<=64)&&VM (zj (.mk b l)<=200)&&VM (xL (.mk b l)<=400)):=by
   rw[bL];simp[h,and_assoc]
  rw[this,bF h];generalize VM (b.dft=[])=A;generalize VM (Z8 v<=16)=B;generalize VM (j7 _<=64)=C;generalize VM (zj _<=200)=D;generalize dI b.nm=G;generalize v.all xv=H;generalize ES b l _=I;cases A<;>cases B<;>cases C<;>cases D<;>cases G<;>cases H<;>cases I<;>rfl
 have:VM (b.k=1/\Z8 v<=16/\j7 (.mk b l)<=64/\zj (.mk b l)<=200/\xL (.mk b l)<=400)=aM:=bC λa=>h a.1;rw[this,bC h];simp
def aay{w:aw}{F:aK}{D:Nat}{c:Ch}{i:Sl}{g:aJ}(h:ChR aM D w F c i g)(m:Ga c)(j:jZ c.vars+lF c.root<=8388608)(E:Er w)(l:Tb w):
  aA ar 165 #[ai (i.v::g).toArray] w λe f=>e=ao (aj #[ae (T (kf c).1),O U (kf c).2])/\az [] w f:=by
 obtain⟨a,⟨d,s⟩⟩:=c;cases D with
 | zero=>exact h.root.elim
 | succ D=>
 have BC:pv aM (D+1) w F (.mk d s) g:=h.root;have zZ:aB MR 3 w F i a:=h.vars.1;obtain⟨en,lv,mv,kids,rfl,Y,xR⟩:=(ck aM _).inHeap BC;have Y:Cg aM w (λk=>F k/\k<w.heap.size) d en lv mv:=Y;have xR:jh aM (pv aM D) 9 28 w (λk=>F k/\k<w.heap.size) kids s:=xR;have r:=m.r;have r:Dw (.mk d s):=r;have Q9:∀v,v∈a->rX v.v:=m.v;rw[Dw]at r;have j:jZ a+lF (.mk d s)<=8388608:=j;have z:lF (.mk d s)=uS d+ji s:=by rw[lF]
 have K5:=j;rw[z]at K5;unfold uS at K5;have o:=aax ⟨a,.mk d s⟩;generalize P:kf ⟨a,.mk d s⟩=am;unfold kf at P;rw[<-o]at P;clear o;have P:(if((((((VM (d.k=1)&&VM (d.dft=[]))&&decide _)&&decide _)&&decide _)&&dI d.nm)&&(a.all xv&&ES d s 1)&&VM (xL (.mk d s)<=400))=aF then(if 16384<Z8 (eE [] (EO ⟨a,.mk d s⟩)) then([],2)else if(fg (eE [] (EO ⟨a,.mk d s⟩))).2.1≠0 then([],22)else(eE [] (EO ⟨a,.mk d s⟩),0))else([],22))=am:=P;show aA ar 165 #[ai (i.v::rz d.k d.nm d.ini d.dft en lv mv kids d.a).toArray] w _;refine ret (akx ?_);intro G b w1 fQ dL hb pw cp;have A:=zZ.len;have B:=zC a;refine(agz (D+1) w1 F (.mk d s) _ ((ck aM _).keep BC λk _ bT=>cp.block k bT R) J).mono ?_;rintro _ c ⟨rfl,u⟩;have z2:=u.size;refine⟨_,_,I,u.same C,λjY iw=>?_⟩;have q2:Qz w b c [] (aM,0):=⟨cp.cn u,hb,⟨ZQ,Sl.nil,.inl I,jY,.inl ⟨I,I⟩⟩,λ_=>⟨kQ 0,Z⟩,bh _⟩
 have X:Zq aM w c b c [] (aM,0) [G]:=⟨q2,Mw.refl _ _ _,λk hk=>by
  simp only[aV]at hk;subst hk;exact⟨J,iw,λb=>by have:=Ph jY b;cases this⟩⟩
 have hF:∀k,(λk=>F k/\k<w.heap.size) k->k<w.heap.size:=λk hk=>hk.2;have hw:=q2.o;rw[show aq #[]=T []from rfl,iC,A];refine(lN X.toQz _).mono ?_;rintro _ w3 ⟨rfl,aS,u1,u2,u3⟩;have p:=X.nx u2 u3.up;have NW:((((d.k==1)&&VM (d.dft=[]))&&VM ((Z8 a:Int)<=16))&&VM ((j7 (.mk d s):Int)<=64)&&VM ((zj (.mk d s):Int)<=200))=((((VM (d.k=1)&&VM (d.dft=[]))&&VM (Z8 a<=16))&&VM (j7 (.mk d s)<=64))&&VM (zj (.mk d s)<=200)):=by
  rw[bL];simp only[H,eX,bU];constructor
  .rintro⟨⟨⟨⟨b,e⟩,k⟩,n⟩,q⟩;exact⟨⟨⟨⟨b,e⟩,J⟩,J⟩,J⟩
  rintro⟨⟨⟨⟨b,e⟩,k⟩,n⟩,q⟩;exact⟨⟨⟨⟨b,e⟩,J⟩,J⟩,J⟩
 rw[NW]at u1;obtain⟨L,M,_,qk,_⟩:=p.ex;refine⟨I,X.sm u3 R,L,M,_,_,qk,(pe p.toQz d.nm J).mono ?_⟩;rintro _ w4 ⟨rfl,N,v1,v2,v3⟩;have t:=p.nx v2 v3.up;obtain⟨Q,V,_,pz,_⟩:=t.ex;have xC:=jW [dB,d.nm,[123]];simp at xC;have aC:Z8 dB=5:=I;obtain⟨q5,w5,e5,dP,y⟩:=Bk t.toQz [dB,d.nm,[123]] (n:=3) (parts:=#[.mk 0 (ae (T dB)),.mk 1 _,.mk 2 (ae (T [123]))]) I I Z Z 0 Z J;refine⟨_,I,p.sm v3 R,Q,V,_,_,pz,q5,w5,e5,?_,y.mono ?_⟩
 .refine dP.same λx h=>⟨?_,R⟩
  simp at h;rcases h with rfl | rfl
  .exact(t.k x R).1
  exact t.toQz.lb
 rintro _ w6 ⟨rfl,x1,x2⟩;have t6:=t.nx x1 x2;have bv:=u1.tr v1;have bV:N.1=aM->(if N.1 then([]:S)else ly [] (0,iT [dB,d.nm,[123]]))=eE [] [(0,dB++32::(d.nm++[32,123]))]:=λe=>by
  rw[e];simp only[mq,kP];rw[oJ,rB Z,gU (uB (v1.ok e).2.1),gU (by rfl),fz,gR,gR,oI];rfl
 generalize (if N.1 then([]:S)else ly [] (0,iT [dB,d.nm,[123]]))=l6 at*
 obtain⟨bY,cc,_,XC,_⟩:=t6.ex;refine⟨I,t.sl dP x2 R,bY,cc,_,_,XC,λnv ce q l' wr ac f=>∃(aT:Nat) (dj:St) (l':S),ce=aT/\aT<=Z8 a/\nv=(Z8 a)-aT/\Up N ((a.take aT).all xv) 0 dj/\(dj.1=aM->l'=eE l6 ((a.take aT).map λv=>(1,IB v)))/\Zq aM w c b f l' dj [G],
  (Z8 a),⟨0,N,l6,I,bh _,I,t6.toQz.up0,λ_=>I,t6⟩,?_⟩
 rintro nv _ qa la wr ac w7 ⟨aT,co,l7,rfl,hj,rfl,Q6,Q7,t7⟩;refine⟨λhc=>?_,λhc=>?_⟩
 .have bT:(aT:Int)<Z8 a:=aO hc;obtain⟨ad,v,g,g1,g2,g3,g4,g5,g6⟩:=(Aw ec Z zZ t7.o R).get (bc aT) J;rw[aW]at g2;have dO:=bA g2;have B:=wi dO;have pU:a.take (aT+1)=a.take aT++[v]:=by
   rw[bq,g2];rfl
  unfold MR at g6;subst g6;refine⟨ad,g1,_,_,_,g5,λk4 w8 pV xA ft _=>?_⟩;have t8:=t7.al ft pV xA;refine(lN t8.toQz _).mono ?_;rintro _ w9 ⟨rfl,ip,y1,y2,y3⟩;have t9:=t8.nx y2 y3.up;obtain⟨gT,g8,_,CE,_⟩:=t9.ex;refine⟨I,t8.sm y3 R,gT,g8,_,_,CE,λdk dS _=>⟨λk=>k∈[k4],R,?_⟩⟩;have cC:=t9.q dS;refine(pe cC.toQz v.n J).mono ?_;rintro _ dz ⟨rfl,el,y4,y5,y6⟩;have q:=cC.nx y5 y6.up;obtain⟨gE,eQ,_,qS,_⟩:=q.ex;refine⟨_,I,cC.sm y6 R,gE,eQ,_,_,qS,Jw (cC.sm y6 R),(Cb v.v (Q9 v dO) (l.only q.o)).mono ?_⟩;rintro _ eF ⟨rfl,dV⟩;have b:=q.q dV;obtain⟨fd,f5,_,vm,_⟩:=b.ex;have Za:=adB (Q9 v dO);have xC:=jW [uu,v.n,[61],Lib.itoa v.v++[59]];simp only[cu,gQ,eU,kR,aY,bE,aP]at xC;have g9:Z8 uu=3:=I;obtain⟨gO,eM,gG,dF,ge⟩:=Bk b.toQz [uu,v.n,[61],Lib.itoa v.v++[59]] (n:=4) (parts:=#[.mk 0 (ae (T uu)),.mk 1 (ae (T v.n)),.mk 2 (ae (T [61])),.mk 3 (ae (T (Lib.itoa v.v++[59])))]) I I Z Z 1 Z J;refine⟨T (Lib.itoa v.v),I,q.sq dV R,fd,f5,_,_,vm,Jw (q.sq dV R),R5,gO,eM,by rw[show aq #[59]=T [59]from rfl,fD];exact gG,?_,Jw (b.sq dF R),ge.mono ?_⟩
  .refine dF.same λx h=>⟨?_,R⟩
   simp only[aZ,bB,cE]at h;rcases h with rfl | rfl | rfl
   .exact(b.k x R).1
   .exact b.toQz.lb
   exact(b.k x R).1
  rintro _ fR ⟨rfl,y7,y8⟩;have n:=b.nx y7 y8;obtain⟨x,T,_,BQ,_⟩:=n.ex;refine⟨I,b.sl dF y8 R,x,T,_,_,BQ,Jw (b.sl dF y8 R),(Z8 a)-(aT+1),J,aT+1,el,_,TE,J,I,((Q6.tr y1).tr y4).cg ?_ I,λe=>?_,⟨n.toQz,n.m,λk hk=>n.k k KR⟩⟩
  .rw[pU,jF];have:(v.v != -9223372036854775808)=VM (v.v≠ -9223372036854775808):=by rw[bL];simp
   rw[this];unfold xv;simp only[lg,List.all_nil,dR];rw[xE,Bool.and_comm (decide _) (dI _)]
  have k:ne (Lib.itoa v.v++[59])=aF:=by
   have:Lib.itoa v.v++[59]≠[]:=R
   unfold ne;rw[bC this];rfl
  rw[e];simp only[mq,kP];rw[Q7 (y1.ok (y4.ok e).1).1,pU,cX,gy,rB Z,gU (uB (y4.ok e).2.1),gU (by rfl),gU k,fz,gR,gR,gR,oI,bD];rfl
 have pf:=aR hc;have lD:aT=Z8 a:=J
 subst lD;rw[br (aX _)]at Q6 Q7;refine(ahS (PA D) t7.toQz (Y.keep λk hk _=>t7.o.block k hk.2 R) (xR.keep (ck aM D) Z λk hk _=>t7.o.block k hk.2 R) hF r.1 r.2 J 1 Z E l).mono ?_;rintro _ w8 ⟨rfl,q,l8,iD,iN,y1,y2⟩;have v:=t7.nx y1 y2;obtain⟨iS,lE,_,re,_⟩:=v.ex;obtain⟨q9,w9,e9,fm,iF⟩:=Bk v.toQz [[125]] (n:=1) (parts:=#[.mk 0 (ae (T [125]))]) I I Z Z 0 Z Z;refine⟨I,t7.sm y2 R,iS,lE,_,_,re,q9,w9,e9,?_,iF.mono ?_⟩
 .refine fm.same λx h=>⟨?_,R⟩
  simp only[aZ,bB,cE]at h;rcases h with rfl | rfl
  .exact(v.k x R).1
  exact v.toQz.lb
 rintro _ dk ⟨rfl,x3,x4⟩;have n:=v.nx x3 x4;have hU:=bv.tr (Q6.tr iD);have oF:q.1=aM->(if q.1 then l8 else ly l8 (0,iT [[125]]))=eE [] (EO ⟨a,.mk d s⟩):=λe=>by
  obtain⟨b,_⟩:=iD.ok e;obtain⟨x,_⟩:=Q6.ok b;rw[e];simp;rw[iN e,Q7 b,bV x];have k:iT [[125]]=[125]:=Z
  rw[k,<-oJ,<-gy,<-gy,<-gy];unfold EO;rw[be (JH 1 d)];exact I
 obtain⟨mK,nO,_,nS,_⟩:=n.ex;have lT:((((((VM (d.k=1)&&VM (d.dft=[]))&&VM (Z8 a<=16))&&VM (j7 (.mk d s)<=64))&&VM (zj (.mk d s)<=200))&&dI d.nm)&&(a.all xv&&ES d s 1)&&VM (xL (.mk d s)<=400))=!q.1:=by
  have b:=hU.w;have e:VM (400<(0:Int)+((0+0+(0+(BJ d+nt s)):Nat):Int))=!VM (xL (.mk d s)<=400):=by
   rw[xL];by_cases h4:BJ d+nt s<=400
   .rw[bF h4,bC J];rfl
   rw[bC h4,bF J];rfl
  have b:q.1=((aM||!(_&&(a.all xv&&ES d s 1)))||decide _):=b;rw[e]at b;rw[b];generalize (_&&(a.all xv&&ES d s 1))=k;generalize VM (xL (.mk d s)<=400)=x;cases k<;>cases x<;>rfl
 rw[lT]at P;have oN:∀{f:aw},az [] c f->az [] w f:=λT=>hw.cn T;have mt:az [] w dk:=n.o;refine⟨I,v.sl fm x4 R,mK,nO,_,_,nS,λe=>?_,λe=>(slS n.toQz).mono ?_⟩
 .rw[W (by rw[e];decide)]at P;subst P;exact⟨I,mt⟩
 rw[K (by rw[e];rfl),<-oF e]at P;rintro _ _ ⟨rfl,rfl⟩;obtain⟨oR,pP,pi⟩:=n.toQz.pt;have pm:=λk hk=>n.toQz.bu (pi k hk);refine⟨_,I,λ_ _=>I,mK,nO,_,_,nS,λe2=>?_,λe2=>(PC pP).mono ?_⟩
 .rw[K (aO e2)]at P;subst P;exact⟨I,mt⟩
 rw[W (aR e2)]at P;rintro _ dz ⟨rfl,qr,dl⟩;have CA:=dl.size;have rx:=n.toQz.lb;have e:=n.k G R;have ko:∀k,(b<k/\oR.a=Hg ⟨k,0,ZQ⟩)->w.heap.size<=k:=λk hk=>by have:=n.lo;omega
 have Zh:az [] w dz:=(mt.AY dl).only ko;obtain⟨ro,qS⟩:=qr.blk;refine⟨_,I,dl.same λx h=>?_,ro,oR,_,_,qS,(JR _ (E.only Zh)).mono ?_⟩
 .simp only[aV]at h;subst h;exact⟨e.1,λT=>e.2.2 (pi _ T.2)⟩
 rintro _ eF ⟨wd,wf,rfl,hC,dV⟩;obtain⟨xe,xl,xm,xk,rfl,_⟩:=hC.root;have b:=qr.only dV;obtain⟨uP,vm⟩:=b.blk;have k:=Zh.cn dV;have AS:=dV.size;refine⟨wd,_,_,_,_,xe,xl,xm,xk,_,_,_,I,dV.same C,uP,oR,_,_,vm,λe3 k6 k7 eM _ _ _ _ dF _=>?_,λe3 k8 k9 fR As tO AC ut eH _=>?_⟩
 .rw[K (by simpa using e3)]at P;subst P;exact⟨I,k.cn dF⟩
 rw[W (by simpa using e3)]at P;subst P;refine(PC (b.only eH)).mono ?_;rintro _ gV ⟨rfl,Bv,jt⟩;obtain⟨BV,AT⟩:=Bv.blk;have BY:=eH.size;refine⟨_,I,jt.same λx h=>?_,BV,oR,_,_,AT,I,((k.cn eH).AY jt).only ko⟩;simp only[aZ,bB,cE]at h;rcases h with rfl | rfl | rfl
 .exact⟨J,λT=>e.2.2 (pi _ T.2)⟩
 .exact⟨tO,λT=>by have:=(pm _ T.2).2;omega⟩
 exact⟨ut,λT=>by have:=(pm _ T.2).2;omega⟩
def UM(n:Int):L:=VM (-9223372036854775808<=n/\n<=9223372036854775807)
def Vs{n}(h:UM n=aF):rX n:=by
 have h:=aO h;exact⟨h.1,h.2⟩
mutual
def KH:Ex->L
 | .mk _ n _ _ l _=>UM n&&Ns l
def Ns:X Ex->L
 | []=>aF
 | x::l=>KH x&&Ns l
end
def PD{y}:∀{l:X Ex},Ns l=aF->y∈l->KH y=aF
 | [],_,h=>Gl
 | x::l,h,y=>by
  rw[Ns,H]at h;rcases aZ.1 y with rfl | y
  .exact h.1
  exact PD h.2 y
def zh:∀d {x:Ex},KH x=aF->lq d x
 | 0,_,_=>trivial
 | d+1,.mk k n s op l a,h=>by
  rw[KH,H]at h;exact⟨Vs h.1,λy b=>zh d (PD h.2 b)⟩
def KK(a:Ac):L:=KH a.x
def FL(m:Mv):L:=KH m.g&&m.acts.all KK&&UM m.wt
def IZ(b:Nb):L:=b.en.all KK&&b.lv.all KK&&b.mv.all FL
mutual
def KL:Nd->L
 | .mk b l=>IZ b&&DZ l
def DZ:X Nd->L
 | []=>aF
 | x::l=>KL x&&DZ l
end
def Vt{l:X Ac}(h:l.all KK=aF):∀a,a∈l->BK a:=λa b d=>zh d ((fi.1 h) a b)
def as7{m}(h:FL m=aF):F9 m:=by
 rw[FL]at h;simp only[H]at h;exact⟨λd=>zh d h.1.1,Vt h.1.2,Vs h.2⟩
def as8{b}(h:IZ b=aF):Q4 b:=by
 rw[IZ]at h;simp only[H]at h;exact⟨Vt h.1.1,Vt h.1.2,λa m=>as7 ((fi.1 h.2) a m)⟩
mutual
def amw:∀(x:Nd),KL x=aF->Dw x
 | .mk b l,h=>by
  rw[KL,H]at h;rw[Dw];exact⟨as8 h.1,adq l h.2⟩
def adq:∀(l:X Nd),DZ l=aF->xu l
 | [],_=>by rw[xu];trivial
 | x::l,h=>by
  rw[DZ,H]at h;rw[xu];exact⟨amw x h.1,adq l h.2⟩
end
def Qj(c:Ch):L:=(c.vars.all λv=>UM v.v)&&KL c.root
def ata{c}(h:Qj c=aF):Ga c:=by
 rw[Qj]at h;simp only[H]at h;exact⟨λv a=>Vs ((fi.1 h.1) v a),amw _ h.2⟩
def atb(c:Ch):L:=VM (jZ c.vars+lF c.root<=8388608)
def ChR.off{d}{w}{F}{c}{vs}{cs}(h:ChR aF d w F c vs cs):ChR aM d w F c vs cs:=⟨h.vars.off λ_ _ _ h=>h,zi h.root⟩
end
def Vk(x:jo):aJ:=[O U x.k,ae (T x.nm),O U x.pa,O U x.dp,O U x.en]
def AK:Rp jo:=λ_ _ x c=>c=Vk x
def ia:AK.Ok:=⟨λh _=>h,λh=>h,λh _=>h,λh=>by
 unfold AK Vk at h;subst h;intro v a;simp at a;rcases a with rfl | rfl | rfl | rfl | rfl<;>rfl⟩
abbrev je(B:Nat)(w:aw)(s:Sl)(x:X jo):Prop:=Own AK 5 165 B w (λ_=>False) s x
def je.of{B}{w}{F}{s}{xs}(h:Own AK 5 165 B w F s xs):je B w s xs:=by
 rcases h with⟨rfl,rfl⟩ | ⟨g,a,tail,b,d,e,f,i,j,l,k⟩
 .exact .inl ⟨I,I⟩
 exact .inr ⟨g,a,tail,b,d,e,f,i,j,l,jg.abk (λx c _ m=>m) k⟩
def je.zX{B}{w w'}{G}{s}{xs}(h:je B w s xs)(O:aE G w w')(a:∀k,B<=k->s.a=Hg ⟨k,0,ZQ⟩->¬G k):je B w' s xs:=
 h.keep ia λk c b=>O.block k b (c.elim (λh=>h.elim) λh=>a k h.1 h.2)
def adr t:∀c {w:aw} {F:aK} {x:Nd} {d:aJ} {b:Nat} {s:Sl} {xs:X jo} {pa dp:Int},pv t c w F x d->(∀k,F k->k<b)->aG w b 178 [s.v]->je (b+1) w s xs->
  (Z8 xs)+j7 x<=1000000->0<=dp->dp+j7 x<=1000000->
  aA ar 104 #[ah (Hg ⟨b,0,ZQ⟩),ai d.toArray,O U pa,O U dp] w λe a=>e=ao (aj #[])/\∃f,aG a b 178 [f.v]/\je (b+1) a f (xs++O0 (Z8 xs) pa dp x)/\jV b s w f a
 | 0,_,_,_,_,_,_,_,_,_,h,_,_,_,_,_,_=>h.elim
 | c+1,w,F,.mk g i,d,b,s,xs,pa,dp,⟨en,lv,mv,kids,W,_,Q⟩,Y,L,hS,hn,h0,hd=>by
  have hk:=Q.1;clear Q;dsimp only[Nd.kids,Nd.b]at hk W;subst W;rw[j7]at hn hd;have F7:=hk.len;have aC:=sU i;refine ret (arD ?_);intro M w0 Q dL B;have z0:=B.size;have H3:=L.lt;have cell:∀{u:aw} {q:Sl},aG u b 178 [q.v]->aD u ((⟨b,0,ZQ⟩:Addr).add 0) [q.v]:=λh=>h.cells 0 [_] λj v hj=>Je
  have rZ:=B.blk L R;refine⟨s,cell rZ,λw1 E=>⟨λk=>k=b,I,s,cell (E.blk rZ R),?_⟩⟩;have N:=B.cn E;have z1:=E.size;have SO:je (b+1) w1 s xs:=hS.zX N.p0 λ_ _ _ h=>h;have nf:=N.blk L R;obtain⟨y,w2,k1,k3,p,S,g1,g2,⟨gs,m,K⟩,V⟩:=jy (P:=ar) (t:=176) (ty:=176) (e:=165) (i:=Tryz.t165) (bytes:=48) (size:=5) (r:=AK) (G:=λ_=>False) (v:=ai #[O U g.k,ae (T g.nm),O U pa,O U dp,O U 0]) (x:=⟨g.k,g.nm,pa,dp,0⟩) D D I I I I Z Z Z ia SO J I I (λ_ h=>h.elim) J;have z2:=k3.size;have z3:=m.size;have z:∀l,l∈gs->l≠b/\l<w1.heap.size/\s.a=Hg ⟨l,0,ZQ⟩:=λl n=>⟨by have:=(K l n).2.1;omega,(K l n).2.2,(K l n).1⟩
  have rW:s.a≠Hg ⟨M,0,ZQ⟩:=λe=>GX
  have qk:aG S b 178 [s.v]:=m.blk (k3.blk nf R) λh=>(z b h).1 I;refine⟨y,w2,k1,k3.same C,VI k3,p,S,g1,m.same λx o=>?_,λk hk A=>?_,b,0,_,_,I,qk,aX 1,J,λw4 H pz=>?_⟩
  .simp only[aV]at o;subst o;exact⟨J,λh=>rW (z _ h).2.2⟩
  .subst hk;exact m.block _ A λh=>(z _ h).1 I
  have z4:=H.size;have Ls:je (b+1) S p _:=je.of g2;have L1:=Ls.zX (G:=λk=>k=b) (H.p R) λk h _=>J
  have m4:jV b s w p w4:=by
   refine⟨((N.cn k3).AY (m.p (F:=λk=>k=b∨s.a=Hg ⟨k,0,ZQ⟩) λl n=>.inl (.inr (z l n).2.2))).trans (H.p (F:=λk=>k=b∨s.a=Hg ⟨k,0,ZQ⟩) R) λk hk=>.inl hk,λk hk=>?_⟩;rcases V with e | ⟨l,e,h⟩
   .exact .inl RE
   rw[e]at hk;injection hk with hk;injection hk with hk;exact .inr J
  have n4:∀k,p.a=Hg ⟨k,0,ZQ⟩->k≠M:=λk hk e=>by
   subst e;rcases V with e | ⟨l,e,h⟩
   .exact rW RE
   rw[e]at hk;injection hk with hk;injection hk with hk;omega
  have rL:∀{u:aw} {q:Sl},jV b s w q u->aB (pv t c) 9 u F kids i:=λhm=>Rx (ck t c) Z hk hm.1 λk P _=>by
   have:=Y k P;exact λh=>h.elim J λh=>by have:=(hS.blk h).1;dsimp only at this;omega
  refine⟨λT am a=>∃(j:Nat) (q:Sl),am=(j:Int)/\T+j=Z8 i/\j<=Z8 i/\aG a b 178 [q.v]/\je (b+1) a q (xs++⟨g.k,g.nm,pa,dp,0⟩::wQ (Z8 xs+1) (Z8 xs) (dp+1) (i.take j))/\jV b s w q a/\w4.heap.size<=a.heap.size/\∀k,q.a=Hg ⟨k,0,ZQ⟩->k≠M,Z8 i,⟨0,p,I,J,bh _,pz,by rw[ci,wQ];exact L1,m4,aX _,n4⟩,?_⟩;rintro T _ w5 ⟨j,q,rfl,vD,xC,vi,r,m5,z5,n5⟩;have v:s.n=Z8 xs:=hS.len;constructor
  .intro hc;have hj:j<Z8 i:=Ro
   obtain⟨y,hy⟩:∃y,i[j]? =Hg y:=⟨_,bH hj⟩
   obtain⟨ad,y',ds,a1,a2,a3,a4,a5,a6⟩:=(rL m5).get (bc j) J;rw[aW,hy]at a2;injection a2 with a2;subst a2;have NX:=a6;obtain⟨G,rfl⟩:∃G,c=G+1:=by
    cases c with
    | zero=>exact a6.elim
    | succ G=>exact⟨G,I⟩
   obtain⟨r7,r9,oe,gY,rfl,_⟩:=NX;have yt:=oG hy;have aS:Z8 (xs++⟨g.k,g.nm,pa,dp,0⟩::wQ (Z8 xs+1) (Z8 xs) (dp+1) (i.take j))=Z8 xs+1+dW (i.take j):=by
    rw[aP,aY,uA];omega
   refine⟨ad,a1,_,_,_,_,r7,r9,oe,gY,_,a5,λk6 w6 Zd Yc dN=>?_⟩;have z6:=dN.size;have m6:jV b s w q w6:=m5.trans (TM dN);rw[eS J J,v];refine(adr t (G+1) (pa:=((Z8 xs:Nat):Int)) ((ck t (G+1)).keep a6 λk _ A=>dN.block k A R) (s:=q) (xs:=xs++⟨g.k,g.nm,pa,dp,0⟩::wQ (Z8 xs+1) (Z8 xs) (dp+1) (i.take j)) (b:=b) (dp:=dp+1) Y (dN.blk vi R) (r.zX dN.p0 λ_ _ _ h=>h) (by rw[aS];omega) J J).mono ?_;rintro _ w7 ⟨rfl,q7,Q5,L4,m7⟩;have z7:=m7.1.size;refine⟨I,m7.1.same λx o=>?_,T-1,J,j+1,q7,TE,J,J,Q5,?_,m6.trans m7,J,λk hk e=>?_⟩
   .simp only[aZ,bB,cE]at o;rcases o with rfl | rfl
    .exact⟨J,λh=>h.elim J λh=>n5 _ h I⟩
    refine⟨Yc,λh=>h.elim J λh=>?_⟩;have:=(r.blk h).2;dsimp only at this;omega
   .have e:i.take (j+1)=i.take j++[y]:=Ux
    rw[e,Hh,wQ,wQ,bD];rw[aS,be,bW]at L4;exact L4
   subst e;rcases m7.2 _ hk with h | h
   .exact n5 _ h I
   omega
  intro hc w8 t;have lD:j=Z8 i:=M1
  subst lD;rw[br (aX _)]at r;have re:=t.blk vi R;have y:je (b+1) w8 q _:=r.zX t.p0 λ_ _ _ h=>h;have z8:=t.size;have dG:(xs++⟨g.k,g.nm,pa,dp,0⟩::wQ (Z8 xs+1) (Z8 xs) (dp+1) i)[Z8 xs]? =Hg ⟨g.k,g.nm,pa,dp,0⟩:=by
   rw[cG (aX _),oV];rfl
  obtain⟨l,cells,qY,p1,p2,p3,p4,p5,p6,p7⟩:=Own.anh ia y dG;have s:qY=Vk ⟨g.k,g.nm,pa,dp,0⟩:=p6;subst s;have aT:q.n=Z8 xs+1+dW i:=by rw[r.len,aP,aY,uA];omega
  obtain⟨p8,p9⟩:=p7 4 (O U (q.n:Int)) ⟨g.k,g.nm,pa,dp,(q.n:Int)⟩ (λ_=>False) Z I λ_ h=>h.elim;rw[<-v]at p2;have G:=(r.blk p1).1;dsimp only at G;refine⟨q,cell re,q,cell re,_,p2,l,Z8 xs*5+4,cells,_,by rw[gW,v],p3,by rw[<-v]at p8⊢;exact p8,λe=>n5 l p1 e.symm,λw9 x CE=>⟨I,q,x.blk re C,?_,?_⟩⟩
  .have:=p9 w9 x CE;rw[sd _ _ (aX _),oV,List.set_cons_zero]at this;rw[O0];have e:(q.n:Int)=((Z8 xs+1+dW i:Nat):Int):=by rw[aT]
   rw[e]at this;exact this
  refine(m5.trans (TM t)).trans ⟨x.p λk hk=>?_,λk hk=>.inl hk⟩;simp only[aV]at hk;subst hk;exact .inl (.inr p1)
def aaB{w}{F}{D}{c}{vs}{cs}(x:ChR aM (D+1) w F c vs cs)(n:Ga c)(s:jZ c.vars+lF c.root<=8388608)(E:Er w)(T:Tb w):
  aA ar 103 #[ai (vs.v::cs).toArray] w λe d=>e=ao (O U (kf c).2)/\az [] w d:=by
 obtain⟨g,l,mv,kids,rfl,_⟩:=x.root;refine ret (aki ?_);intro i f Q L h;have a:ChR aM _ f F c vs _:=⟨x.vars.keep ec Z λk _ b=>h.block k b R,(ck aM _).keep x.root λk _ b=>h.block k b R⟩
 refine(aay a n s (E.only h) (T.only h)).mono ?_;rintro _ j ⟨rfl,p⟩;exact⟨_,_,I,p.same C,I,h.cn p⟩
def agV{c}(a:(kf c).2=0):j7 c.root<=64:=by
 rw[kf]at a;by_cases h:qW c=aF
 .rw[qW]at h;simp only[H]at h;exact(aO h.2).2.2.1
 rw[W h]at a;exact absurd a Z
def afX{w}{F}{D}{c}{vs}{cs}(a:ChR aM (D+1) w F c vs cs)(d:Ga c)(f:jZ c.vars+lF c.root<=8388608)(E:Er w)(T:Tb w):
  aA ar 45 #[ai (vs.v::cs).toArray] w λe b=>(∃s,e=ao (aj #[Sl.v s,O U (kf c).2])/\((kf c).2=0->je w.heap.size b s (od c))/\((kf c).2≠0->s=Sl.nil))/\az [] w b:=by
 have⟨n,l,mv,kids,g,_⟩:=a.root;subst g;refine(arz vs c.root.b.k n l mv kids c.root.b.a (λv b=>(∃s,v=aj #[Sl.v s,O U (kf c).2]/\((kf c).2=0->je w.heap.size b s (od c))/\((kf c).2≠0->s=Sl.nil))/\az [] w b) w ?_).mono ?_
 .intro r y Q L i;have keep:∀{u:aw},az [] w u->ChR aM _ u F c vs _:=λj=>⟨a.vars.keep ec Z λk _ e=>j.block k e R,(ck aM _).keep a.root λk _ e=>j.block k e R⟩
  refine(aaB (keep i) d f (E.only i) (T.only i)).mono ?_;rintro _ z ⟨rfl,p⟩;have B:=p.size;have o:=i.cn p;refine⟨_,I,p.same C,λhc=>?_,λhc t A v q m Y=>?_⟩
  .have hc:=R0
   exact⟨⟨Sl.nil,I,λh=>absurd h hc,λ_=>I⟩,o⟩
  have hc:=R0
  have K:=agV hc;have F:=o.cn m;have w:=
   (ck aM _).keep ((ck aM _).mono ((ck aM _).inHeap a.root) λk c=>c.2) λk _ e=>F.block k e R
  refine(adr aM _ (s:=Sl.nil) (xs:=[]) (pa:= -1) (dp:=0) w (λk c=>J) Y (Vf _ _ _ _ _ _) TU Z J).mono ?_;rintro _ N ⟨rfl,G,M,H,D⟩;refine⟨I,D.1.same λx a=>?_,G,M,⟨G,by rw[hc],λ_=>?_,λh=>absurd hc h⟩,?_⟩
  .simp at a;exact⟨J,λh=>h.elim J λh=>Rl⟩
  .exact Own.low H J
  exact(F.AY D.1).only λk c=>c.elim J λh=>Rl
 rintro _ b ⟨v,rfl,⟨s,rfl,h,c⟩,e⟩;exact⟨⟨s,I,h,c⟩,e⟩
section
variable {w:aw} {F:aK} {l:Sl} {xs:X jo}
def pj(b:aB AK 5 w F l xs){i:Nat}{x}(c:xs[i]? =Hg x):∃ad,cM l i 5 ad/\aD w ad (Vk x)/\aD w (ad.add 2) [O U x.pa]/\aD w (ad.add 3) [O U x.dp]/\aD w (ad.add 4) [O U x.en]:=by
 have T:=(bd.1 c).1;have o:=b.len;have⟨ad,y,s,d,g,k,m,a,e⟩:=b.get (bc i) J;rw[aW,c]at g;cases g;subst e;have one:∀n v,_[n]? =Hg v->aD w _ [v]:=λn v f j u h=>by
  cases j with
  | zero=>
   rw[cZ,cd]at h;subst h;have:=a n v f;exact this
  | succ j=>simp at h
 exact⟨ad,d,a,one 2 _ I,one 3 _ I,one 4 _ I⟩
def M0(x:X jo)(n:Int):L:=VM (n>=0)&&VM (n<Z8 x)
def sX{n}:M0 xs n=aF↔Ah xs n:=by
 unfold M0 Ah;rw[H,eI,eI]
def Vu(h:aB AK 5 w F l xs) n:aA ar 169 #[l.v,O U n] w λe a=>e=ao (ak (M0 xs n))/\a=w:=by
 refine ret (arL ?_);rw[akB];rw[h.len];exact⟨I,I⟩
noncomputable def aaC(xs:List jo)(b a:Int):Bool:=open Classical in decide (∃i j:Nat,b=i/\a=j/\Ck xs i j)
def sY{b a}:aaC xs b a=aF↔∃i j:Nat,b=i/\a=j/\Ck xs i j:=by
 exact @eI _ (Classical.propDecidable _)
def ag0(h:aB AK 5 w F l xs)(i:Fo xs) b a:aA ar 123 #[l.v,O U b,O U a] w λe d=>e=ao (ak (aaC xs b a))/\d=w:=by
 refine ret (arE ?_);refine⟨λr d=>r=aaC xs b a/\d=w,λr d ⟨f,g⟩=>⟨by rw[f],g⟩,(Vu h a).mono ?_⟩;rintro _ _ ⟨rfl,rfl⟩;refine⟨_,I,λc=>(Vu h b).mono ?_,λc=>⟨?_,I⟩⟩
 .rintro _ _ ⟨rfl,rfl⟩;have c:=sX.1 c;by_cases e:(M0 xs b&&VM (b<=a))=aF
  .rw[H]at e;have B:=sX.1 e.1;have A:=aO e.2;obtain⟨j,rfl⟩:∃j:Nat,b=j:=⟨b.toNat,by have:=B.1;omega⟩
   obtain⟨l,rfl⟩:∃l:Nat,a=l:=⟨a.toNat,by have:=c.1;omega⟩
   have⟨x,k⟩:=lS (xs:=xs) (i:=j) (by have:=B.2;omega);have⟨ad,m,o,_,_,n⟩:=pj h k;refine⟨_,I,ad,λ_=>m,x.en,λ_=>n,?_,I⟩;rw[e.1,e.2,cr,cr,bL,sY,eI];constructor
   .exact λh=>⟨j,l,I,I,x,k,J,h⟩
   rintro⟨p,s,a,q,y,b,f,g⟩;have a:j=p:=J
   subst a;rw[k,cd]at b;subst b;omega
  rw[oU]at e;refine⟨_,I,⟨0,0,ZQ⟩,λh=>(by rw[e]at h;cases h),0,λh=>(by rw[e]at h;cases h),?_,I⟩;rw[e,di,eq_comm,<-oU,sY];rintro⟨b,j,rfl,rfl,y,a,f,g⟩;have:=vZ a;rw[show M0 xs b=aF from sX.2 ⟨J,J⟩,show decide _=aF from bF J]at e;cases e
 rw[eq_comm,<-oU,sY];rintro⟨b,j,rfl,rfl,a⟩;have:=i.agD a;rw[show M0 xs j=aF from sX.2 ⟨J,J⟩]at c;cases c
noncomputable def aaD(xs:List jo)(a b:Int):Bool:=open Classical in decide (∃i j:Nat,b=i/\a=j/\i<j/\Ck xs i j)
def DK{a b}:aaD xs a b=aF↔∃i j:Nat,b=i/\a=j/\i<j/\Ck xs i j:=by
 exact @eI _ (Classical.propDecidable _)
def exR(h:aB AK 5 w F l xs)(g:Fo xs) a b:aA ar 60 #[l.v,O U a,O U b] w λe c=>e=ao (ak (aaD xs a b))/\c=w:=by
 refine ret (arA ?_);refine⟨λr c=>r=aaD xs a b/\c=w,λr c ⟨d,f⟩=>⟨by rw[d],f⟩,λhc=>(ag0 h g b a).mono ?_,λhc=>⟨?_,I⟩⟩
 .rintro _ _ ⟨rfl,rfl⟩;have hc:=R0
  refine⟨_,I,?_,I⟩;rw[bL,sY,DK];refine⟨λ⟨i,j,e,a,q⟩=>⟨i,j,e,a,?_,q⟩,λ⟨i,j,e,a,_,q⟩=>⟨i,j,e,a,q⟩⟩;have⟨s,_,y,_⟩:=q;omega
 have hc:=R0
 rw[eq_comm,<-oU,DK];omega
abbrev wj(B:Nat)(w:aw)(s:Sl)(l:X Int):Prop:=Own yI 1 3 B w (λ_=>False) s l
def wj.of{B}{w}{F}{s}{l}(h:Own yI 1 3 B w F s l):wj B w s l:=by
 rcases h with⟨rfl,rfl⟩ | ⟨g,a,tail,b,d,e,f,i,j,m,k⟩
 .exact .inl ⟨I,I⟩
 exact .inr ⟨g,a,tail,b,d,e,f,i,j,m,jg.abk (λx c _ l=>l) k⟩
end
section
variable {w:aw} {F G:aK} {l sN:Sl} {xs:X jo} {ns:X Int}
def aaE{k0}(h:aB AK 5 w F l xs)(B:aG w k0 44 [l.v]) n:aA ar 233 #[O U n,ah (Hg ⟨k0,0,ZQ⟩)] w λe a=>e=ao (ak (!M0 xs n))/\a=w:=by
 refine ret (arR ?_);refine⟨l,B.cells 0 [_] λj v hj=>Je,(Vu h n).mono ?_⟩;rintro _ _ ⟨rfl,rfl⟩;exact⟨_,I,I,I⟩
def abT{k0}(b:aB AK 5 w F l xs)(B:aG w k0 44 [l.v])(h:aB yI 1 w G sN ns):aA ar 122 #[sN.v,.func (.func 233) #[] #[ah (Hg ⟨k0,0,ZQ⟩)]] w λe a=>(∃i,e=ao (O U i)/\(i>=0↔∃n,n∈ns/\¬Ah xs n))/\a=w:=by
 refine(acZ sN ⟨.func _ #[] #[ah _],I⟩ (λv a=>(∃i,v=O U i/\(i>=0↔∃n,n∈ns/\¬Ah xs n))/\a=w) w ?_).mono ?_
 .have m:=h.len;have g:=h.cap;have F:=h.big;refine⟨λk i a=>∃j:Nat,i=j/\k+j=Z8 ns/\j<=Z8 ns/\(∀n,n∈ns.take j->Ah xs n)/\a=w,Z8 ns,⟨0,I,J,J,λn c=>by simp at c,I⟩,?_⟩;rintro k _ e ⟨j,rfl,v,l,f,u⟩;obtain rfl:w=e:=u.symm;refine⟨λd=>?_,λd=>⟨⟨-1,I,λb=>absurd b Z,λ⟨n,c,hb⟩=>absurd (f n ?_) hb⟩,I⟩⟩
  .have d:=aO d;have⟨ad,y,t,q,o,x,z,r,s⟩:=h.get (bc j) J;rw[aW]at o;obtain⟨rfl,A⟩:=s;refine⟨ad,q,y,r,233,[],[ah _],I,jB D,(aaE b B y).mono ?_⟩;rintro _ e ⟨rfl,u⟩;obtain rfl:w=e:=u.symm;refine⟨_,I,λhb=>⟨⟨j,I,λ_=>⟨y,bA o,λp=>?_⟩,λ_=>J⟩,I⟩,λhb=>⟨k-1,J,j+1,TE,J,J,λn c=>?_,I⟩⟩
   .rw[sX.2 p]at hb;cases hb
   rw[bq,o,dc]at c;rcases c with c | c
   .exact f n c
   simp at c;subst c;exact sX.1 Ma
  have d:=aR d;rwa[br J]
 rintro _ a ⟨v,rfl,⟨i,rfl,c⟩,d⟩;exact⟨⟨i,I,c⟩,d⟩
def amy(x:X jo)(s:X Int):Prop:=s=[]∨∃n,n∈s/\¬Ah x n
def afY(h:aB AK 5 w F l xs)(c:Fo xs)(N:aB yI 1 w G sN ns):aA ar 167 #[l.v,sN.v] w λe d=>(∃r,e=ao (O U r)/\Mt xs ns r)/\az [] w d:=by
 refine(arK l sN (λv d=>(∃r,v=O U r/\Mt xs ns r)/\az [] w d) w ?_).mono ?_
 .rw[aky];intro x i Q A g;have o:=N.len;have j:=N.cap;have z:=N.big;have T:=h.len;have L:∀{u:aw},az [] w u->aB AK 5 u F l xs:=λf=>Aw ia Z h f R;have kN:∀{u:aw},az [] w u->aB yI 1 u G sN ns:=λf=>Aw my Z N f R;refine⟨λb q u=>(b=aF↔amy xs ns)/\l=q/\az [] w u,?_,λhc=>?_,λhc B=>?_⟩
  .rintro b _ u ⟨Y,rfl,f⟩;refine⟨λP=>⟨⟨-1,I,.inl ⟨Y.1 P,I⟩⟩,f⟩,λG=>?_⟩;have hg:¬amy xs ns:=λH=>by rw[Y.2 H]at G;cases G
   have W:ns≠[]:=λe=>hg (.inl e);have H:∀n,n∈ns->Ah xs n:=λn D=>Classical.byContradiction λhx=>hg (.inr ⟨n,D,hx⟩);have am:0<Z8 ns:=vA.2 W;have⟨ad,M,cs,g1,F,g3,g4,g5,g6⟩:=(kN f).get (i:=0) J J;obtain⟨rfl,_⟩:=g6;have F:ns[0]? =Hg M:=F;have K:=H M (bA F);obtain⟨E,rfl⟩:∃C:Nat,M=C:=⟨M.toNat,by have:=K.1;omega⟩
   have S:ns.take 1=[(E:Int)]:=by
    cases ns with
    | nil=>exact absurd I W
    | cons a ns=>
     rw[cZ,cd]at F;subst F;rfl
   refine⟨ad,g1,_,g5,⟨J,j⟩,λX i1 i2 q u=>∃C v:Nat,i1=(C:Int)/\i2=(v:Int)/\X+v=(Z8 ns)-1/\v<=(Z8 ns)-1/\l=q/\az [] w u/\Dh xs (ns.take (v+1)) C,(Z8 ns)-1,⟨E,0,I,I,J,J,I,f,?_⟩,?_⟩
   .rw[S];refine⟨E,I,λn D=>?_,λv a=>?_⟩
    .simp[aV]at D;subst D;exact⟨E,I,c.W0 (by have:=K.2;omega)⟩
    have⟨k,e,s,_,y,_⟩:=a E R;omega
   rintro X _ _ _ u1 ⟨C,v,rfl,rfl,vD,hj,rfl,b,a⟩;have K9:=SliceF.cut (kN b) (lo:=1) (hi:=sN.n) (m:=sN.c) J j (aX _) (aX _);have nU:(sN.cut 1 sN.n sN.c 1).n=(Z8 ns)-1:=by
    rw[K9.len,cf,bZ];omega
   refine⟨λhc=>?_,λhc=>?_⟩
   .have hc:=aO hc;have⟨bv,n3,cs,p1,p2,p3,p4,p5,p6⟩:=K9.get (bc v) J;obtain⟨rfl,_⟩:=p6;rw[aW,pQ J,gq]at p2;have p2:ns[v+1]? =Hg n3:=by rw[<-p2];congr 1;omega
    have aS:=H n3 (bA p2);obtain⟨t,rfl⟩:∃C:Nat,n3=C:=⟨n3.toNat,by have:=aS.1;omega⟩
    have pU:ns.take (v+1+1)=ns.take (v+1)++[(t:Int)]:=by rw[bq,p2];rfl
    obtain⟨m',em,t1,t2⟩:=a;have em:C=m':=J
    subst em;refine⟨bv,p1,_,p5,λaT i4 q u=>∃C:Nat,i4= ↑C/\C=aT/\l=q/\az [] w u/\(∀n,n∈ns.take (v+1)->∃k:Nat,n=k/\Ck xs C k)/\∀j',(∀n,n∈ns.take (v+1+1)->∃k:Nat,n=k/\Ck xs j' k)->j'<=C,C,⟨C,I,I,I,b,t1,λj' aC=>t2 j' λn D=>aC n ?_⟩,?_⟩
    .rw[pU];exact List.mem_append_left _ D
    rintro aT _ _ u2 ⟨q,rfl,rfl,rfl,w,q1,q2⟩;refine(ag0 (L w) c q t).mono ?_;rintro _ u3 ⟨rfl,hu⟩;obtain rfl:u2=u3:=hu.symm;refine⟨_,I,WV _ _,λl=>?_,λl=>?_⟩
    .have l:¬∃V v:Nat,(q:Int)=V/\(t:Int)=v/\Ck xs V v:=λe=>by rw[sY.2 e]at l;cases l
     have K6:t<Z8 xs:=by have:=aS.2;omega
     have xf:0<q:=Nat.pos_of_ne_zero λe=>l ⟨0,t,J,I,c.W1 K6⟩;have Ye:(E:Int)∈ns.take (v+1):=by
      rw[List.mem_iff_getElem?];exact⟨0,by rw[pQ J];exact F⟩
     have bV:q<Z8 xs:=by
      obtain⟨k,_,s,e,_⟩:=q1 _ Ye;exact vZ e
     obtain⟨y,hy⟩:=lS bV;obtain⟨p,s,r1,r2,r3,r4,r5,r6⟩:=c.par hy xf;obtain⟨Lu,b1,_,b3,_,_⟩:=pj (L w) hy;have bY:Ck xs p q:=⟨s,r3,J,r5⟩
     refine⟨Lu,b1,y.pa,b3,p,r1,p,r2,I,I,w,λn D=>?_,λj' aC=>?_⟩
     .obtain⟨k,e,p⟩:=q1 n D;exact⟨k,e,c.agE bY p⟩
     have yt:=q2 j' aC;have p:j'≠q:=λe=>by
      subst e;obtain⟨k,e,n⟩:=aC t (by rw[pU];simp);exact l ⟨j',k,I,e,n⟩
     obtain⟨k,e,n⟩:=aC E (by rw[pU];exact List.mem_append_left _ Ye);obtain⟨s,e',y⟩:=q1 E Ye;have:k=s:=J
     subst this;obtain⟨s',v1,v2,v3⟩:=c.agF n y yt;exact r6 j' s' v1 J v3
    have l:aaC xs q t=aF:=by simpa using l
    obtain⟨s,y,k,p,e⟩:=sY.1 l;have k:q=s:=J
    have p:t=y:=J
    subst k p;refine⟨X-1,J,q,v+1,I,TE,J,J,I,w,q,I,λn D=>?_,q2⟩;rw[pU,dc]at D;rcases D with D | D
    .exact q1 n D
    simp only[aV]at D;subst D;exact⟨t,I,e⟩
   have hc:=aR hc;rw[br J]at a;exact⟨⟨C,I,.inr ⟨⟨W,H⟩,a⟩⟩,b⟩
  .have hc:=R0
   exact⟨⟨λ_=>.inl (bJ J),λ_=>I⟩,I,g⟩
  have hc:¬(sN.n:Int)=0:=R0
  refine(acX sN ⟨.func (.func 233) #[] #[ah (Hg ⟨x,0,ZQ⟩)],I⟩ (λv d=>(∃b,v=ak b/\(b=aF↔∃n,n∈ns/\¬Ah xs n))/\d=i) i ?_).mono ?_
  .refine(abT (L g) B (kN g)).mono ?_;rintro _ u ⟨⟨b,rfl,m⟩,a⟩;obtain rfl:i=u:=a.symm;exact⟨b,I,⟨_,I,by rw[eI];exact m⟩,I⟩
  rintro _ u ⟨v,rfl,⟨b,rfl,a⟩,e⟩;obtain rfl:i=u:=e.symm;refine⟨b,I,l,B,⟨λh=>.inr (a.1 h),λh=>?_⟩,I,g⟩;rcases h with h | h
  .subst h;exact absurd (by rw[o];rfl) hc
  exact a.2 h
 rintro _ d ⟨v,rfl,⟨r,rfl,a⟩,b⟩;exact⟨⟨r,I,a⟩,b⟩
end
end Go.Proofs.YtccbiehilmhodaaGreatDoor.Con
namespace Go.Kt
open Go Go.RowKit Go.MapKept
structure aca {κ:Type} (d:TypeDesc) (kv:κ->ay) (g:κ->Prop):Prop where
 is:∀k,IsKey d (kv k)
 inj:∀{k l},kv k=kv l->k=l
structure MapV {κ:Type} (kv:κ->ay) (g:κ->Prop) (w:aw) (r:Nat) (m:κ->Option ay) (n:Nat):Prop where
 mem:∃es clock,w.heap[r]? =Hg (.map es clock)/\Stamped es clock/\es.size<=n/\(∀x,x∈es.toList->∃k,x.key=kv k/\g k)/\
  ∀k v,m k=Hg v↔∃x,x∈es.toList/\x.key=kv k/\x.val=v
section
variable {κ:Type} {d:TypeDesc} {kv:κ->ay} {g:κ->Prop} {P:Program} {w w':aw} {r n:Nat} {m:κ->Option ay} {mty kt et:TypeId}
def MapV.keep(h:MapV kv g w r m n)(k:w'.heap[r]? =w.heap[r]?):MapV kv g w' r m n:=by
 obtain⟨e,c,a,b⟩:=h.mem;exact⟨e,c,k.trans a,b⟩
def MapV.le(h:MapV kv g w r m n){n'}(i:n<=n'):MapV kv g w r m n':=by
 obtain⟨e,c,a,b,d,f⟩:=h.mem;exact⟨e,c,a,b,bp d i,f⟩
def MapV.lt(h:MapV kv g w r m n):r<w.heap.size:=by
 obtain⟨e,c,a,b⟩:=h.mem;exact(nV.1 a).1
def MapV.only(h:MapV kv g w r m n){bs}(O:Only bs w w')(a:r∉bs):MapV kv g w' r m n:=h.keep (O.block r h.lt a)
def MapV.ext(h:MapV kv g w r m n){m'}(j:∀k,m' k=m k):MapV kv g w r m' n:=by
 obtain⟨e,c,a,b,d,f,i⟩:=h.mem;exact⟨e,c,a,b,d,f,λk v=>by rw[j,i]⟩
def MapV.make w:(Instr.makeMap mty ZQ).run P w=.ok (.map (Hg w.heap.size)) (w.alloc (.map #[] 0))/\MapV kv g (w.alloc (.map #[] 0)) w.heap.size (λ_=>ZQ) 0/\Only [] w (w.alloc (.map #[] 0)):=
 ⟨I,⟨#[],0,heap_alloc_new w _,stamped_empty 0,R,R,R⟩,WJ _ _⟩
def ads(K:aca d kv g){s:Array MapEntry}(h:∀x,x∈s.toList->∃k,x.key=kv k/\g k):∀x∈s.toList,IsKey d x.key:=λx a=>by
 obtain⟨k,e,_⟩:=h x a;rw[e];exact K.is k
variable [DecidableEq κ]
def MapV.update(b:aca d kv g)(B:P.underlying mty=Hg (.map kt et))(hd:P.underlying kt=Hg d)(h:MapV kv g w r m n){k}(A:g k) v:
  ∃w',(Instr.mapUpdate mty (.map (Hg r)) (kv k) v).run P w=.ok () w'/\MapV kv g w' r (λx=>if x=k then Hg v else m x) (if m k=ZQ then n+1 else n)/\Only [r] w w':=by
 obtain⟨z,c,f,q,hn,t,j⟩:=h.mem;have l:∀{s:Array MapEntry} {o y:Nat},Stamped s o->s.size<=y->(∀x,x∈s.toList->∃k,x.key=kv k/\g k)->
   (∀c d,(∃x,x∈s.toList/\x.key=kv c/\x.val=d)↔(c=k/\d=v)∨(c≠k/\m c=Hg d))->∀w',w'.heap[r]? =Hg (.map s o)->MapV kv g w' r (λx=>if x=k then Hg v else m x) y:=by
  intro s o y e D n w w' E;refine⟨s,o,E,e,D,n,λc d=>?_⟩;rw[w];by_cases G:c=k
  .simp[G,yC,cd,true_and,ne_eq,not_true_eq_false,false_and,cE];exact⟨λh=>h.symm,λh=>h.symm⟩
  simp[W G,G,false_and,false_or,ne_eq,not_false_eq_true,true_and,kP]
 rcases findNow_spec (b.is k) z.toList 0 (ads b t)with⟨p,a⟩ | ⟨u,e,p,a,i⟩
 .have d:m k=ZQ:=by
   rcases hq:m k with _|v
   .rfl
   obtain⟨x,e,g,_⟩:=(j k v).1 hq;exact absurd g (a x e)
  rw[K d];refine⟨{w with heap:=w.heap.setIfInBounds r (.map (z.push {key:=kv k,val:=v,born:=c}) _)},?_,l (stamped_push q a) C ?_ ?_ _ (heap_set f).1,ge0 f⟩
  .simp[Instr.mapUpdate,run_underlying B,MapKept.run_getObj_map f,MapKept.run_checkKey hd (b.is k),MapKept.run_findKey hd p,MapKept.run_setObj_map _ f,Result.andThen]
  .intro x e;simp only[Array.toList_push,dc,aV]at e;rcases e with e | rfl
   .exact t x e
   exact⟨k,I,A⟩
  intro k v;simp only[Array.toList_push,dc,aV];constructor
  .rintro⟨x,e | rfl,c,m⟩
   .exact .inr ⟨λh=>a x e (by rw[c,h]),(j k v).2 ⟨x,e,c,m⟩⟩
   exact .inl ⟨(b.inj c).symm,m.symm⟩
  rintro(⟨rfl,rfl⟩ | ⟨hn,h⟩)
  .exact⟨_,.inr I,I,I⟩
  obtain⟨x,e,c,m⟩:=(j k v).1 h;exact⟨x,.inl e,c,m⟩
 have g:=by simpa using a
 have d:=(bd.1 a).1;have c:m k≠ZQ:=by rw[(j k e.val).2 ⟨e,bA a,i,I⟩];simp
 rw[W c];refine⟨{w with heap:=w.heap.setIfInBounds r _},?_,
  l (stamped_modify q u (λe=>{e with key:=kv k,val:=v}) (λ_ _=>I) (λn _ m=>by rw[g]at m;injection m with m;rw[<-m];exact i.symm)) Uq ?_ ?_ _ (heap_set f).1,ge0 f⟩
 .simp[Instr.mapUpdate,run_underlying B,MapKept.run_getObj_map f,MapKept.run_checkKey hd (b.is k),MapKept.run_findKey hd p,g,i,MapKept.run_keyThatStays (b.is k),MapKept.run_setObj_map _ f,Result.andThen]
 all_goals rw[Array.toList_modify,ok0 a]
 .intro x e;rcases List.mem_or_eq_of_mem_set e with e | rfl
  .exact t x e
  exact⟨k,I,A⟩
 intro e v;constructor
 .rintro⟨x,D,n,r⟩;obtain⟨w,m⟩:=nZ D;rw[N2]at m;split at m
  .injection m with m;rw[<-m]at n r;exact .inl ⟨(b.inj n).symm,r.symm⟩
  rename_i E;by_cases G:e=k
  .have Z:=(bd.1 m).1;have F:=List.pairwise_iff_getElem.1 ((stamped_iff _ _).1 q).2.2;have ex:=(bd.1 m).2;have x:=(bd.1 a).2;exfalso;rcases Nat.lt_or_gt_of_ne E with T | k
   .exact F u w d Z T (by rw[x,ex,i,n,G])
   exact F w u Z d k (by rw[x,ex,i,n,G])
  exact .inr ⟨G,(j e v).2 ⟨x,bA m,n,r⟩⟩
 rintro(⟨rfl,rfl⟩ | ⟨hn,h⟩)
 .exact⟨_,List.mem_set d _,I,I⟩
 obtain⟨x,w,m,r⟩:=(j e v).1 h;obtain⟨n,k⟩:=nZ w;refine⟨x,bA (i:=n) ?_,m,r⟩;rw[List.getElem?_set_ne]
 .exact k
 rintro rfl;rw[a]at k;injection k with k;rw[<-k,i]at m;exact hn (b.inj m).symm
end
abbrev kS(s:X UInt8):ay:=.string ⟨s.toArray⟩
abbrev gS(s:X UInt8):Prop:=Z8 s<=maxLen
def aaF:aca .string kS gS:=⟨λ_=>trivial,λh=>Zp⟩
abbrev kN(k:Int):ay:=.int .i64 k
section
variable {P:Program} {w:aw} {r n:Nat} {m:X UInt8->Option ay} {kt:TypeId}
def MapV.owns(q:P.underlying kt=Hg .string)(f:MapV kS gS w r m n)(t:n<=maxLen):∃D:DataW Nat,World.ownsMap w P kt (λ_=>Hg (.nil,[])) r n D/\Go.Maps.size D<=n/\(Go.strKeys D).Nodup/\∀k,k∈Go.strKeys D↔(m k).isSome=aF:=by
 obtain⟨s,c,l,g,a,o,i⟩:=f.mem;have b:∀x,x∈s.toList->∃k,x.key=kS k/\keyOf P kt x.key=Hg (.string k):=λx h=>by
  obtain⟨k,e,c⟩:=o x h;rw[e];have m:(⟨k.toArray⟩:ByteArray).size<=maxLen:=by
   show k.toArray.size<=maxLen;simpa using c
  simp[keyOf,q,mapKey,kS,m]
 have d:∀x,x∈s.toList->∃k,x.key=kS k/\Go.WideElems.rd P kt (H:=Nat) (λ_=>Hg (.nil,[])) x=Hg (.string k,.nil):=λx h=>by
  obtain⟨k,e,f⟩:=b x h;exact⟨k,e,by simp[Go.WideElems.rd,f]⟩
 have j:(Go.strKeys (.map ((s.toList.map (Go.WideElems.rg P kt (H:=Nat) λ_=>Hg (.nil,[]))).foldr DataW.insert []))).Perm (s.toList.map λx=>Go.strOf (Go.WideElems.rg P kt (H:=Nat) (λ_=>Hg (.nil,[])) x).1):=by
  have:=(Go.WideShapes.sorted_perm (s.toList.map (Go.WideElems.rg P kt (H:=Nat) λ_=>Hg (.nil,[])))).map λp=>Go.strOf p.1;rw[mw]at this;exact this
 refine⟨_,⟨s,c,l,⟨bp a t,g,λx h=>?_⟩,a,I⟩,?_,?_,?_⟩
 .obtain⟨k,_,e⟩:=d x h;exact⟨_,e⟩
 .rw[Go.Maps.size_eq,(Go.WideShapes.sorted_perm _).length_eq];simpa using a
 .rw[j.nodup_iff];refine List.pairwise_map.2 (((stamped_iff _ _).1 g).2.2.imp_of_mem ?_);intro x y h u c e;obtain⟨k,m,n⟩:=d x h;obtain⟨v,p,r⟩:=d y u;rw[Go.WideElems.rg_of n,Go.WideElems.rg_of r]at e;simp[Go.strOf]at e;exact c (by rw[m,p,e])
 intro k;rw[j.mem_iff,oP];constructor
 .rintro⟨x,h,e⟩;obtain⟨m,c,k⟩:=d x h;rw[Go.WideElems.rg_of k]at e;simp[Go.strOf]at e;subst e;rw[(i m x.val).2 ⟨x,h,c,I⟩];rfl
 intro a;obtain⟨v,n⟩:=fU.1 a;obtain⟨x,h,e,_⟩:=(i k v).1 n;obtain⟨p,c,m⟩:=d x h;refine⟨x,h,?_⟩;rw[Go.WideElems.rg_of m];exact aaF.inj (c.symm.trans e)
def acL{L s:X (X UInt8)}(a:L.Pairwise (· <·))(c:s.Nodup)(b:∀k,k∈s↔k∈L):s.mergeSort (λx y=>VM (x<=y))=L:=by
 rw[Go.mergeSort_of_perm ((List.perm_ext_iff_of_nodup c (a.imp λh e=>by subst e;exact absurd h (List.lt_irrefl _))).2 b)];refine List.mergeSort_of_pairwise (a.imp λh=>?_);simp;exact List.le_of_lt h
end
section
variable {κ:Type} {d:TypeDesc} {kv:κ->ay} {g:κ->Prop} {P:Program} {w w':aw} {r n:Nat} {m:κ->Option ay} {mty kt et:TypeId}
def MapV.abp(K:aca d kv g)(i:P.underlying mty=Hg (.map kt et))(hd:P.underlying kt=Hg d){z}(q:∀w,(zeroValue et).run P w=.ok z w)(o:MapV kv g w r m n) k:
  (Instr.lookup mty (.map (Hg r)) (kv k) aF).run P w=.ok (.tuple #[(m k).getD z,.bool (m k).isSome]) w:=by
 obtain⟨s,c,h,t,j,p,f⟩:=o.mem;rcases findNow_spec (K.is k) s.toList 0 (ads K p)with⟨a,b⟩ | ⟨u,e,a,b,l⟩
 .have j:m k=ZQ:=by
   rcases hmk:m k with _|v
   .rfl
   obtain⟨x,d,c,_⟩:=(f k v).1 hmk;exact absurd c (b x d)
  simp[Instr.lookup,run_underlying i,MapKept.run_getObj_map h,MapKept.run_checkKey hd (K.is k),MapKept.run_findKey hd a,Result.andThen,q,j]
 have c:=bA b;simp[Instr.lookup,run_underlying i,MapKept.run_getObj_map h,MapKept.run_checkKey hd (K.is k),MapKept.run_findKey hd a,Result.andThen,(f k e.val).2 ⟨e,c,l,I⟩]
end
end Go.Kt
namespace Go.Proofs.YtccbiehilmhodaaGreatDoor.Con
open Go Go.RowKit Go.Kt Go.Kt.V Go.Proofs.YtccbiehilmhodaaGreatDoor.Vc
def mI(l:X (S)):S->Option ay:=λk=>if uR k l<Z8 l then Hg (.int U (uR k l))else ZQ
def aft l x k:mI (l++[x]) k=if x∈l then mI l k else if k=x then Hg (.int U (Z8 l))else mI l k:=by
 unfold mI;rw[aP,bf];by_cases hk:k∈l
 .have a:=pc.2 hk;rw[Hl [x] hk,K J,K a];by_cases h:x∈l
  .rw[K h]
  rw[W h,W λe=>h RE]
 have a:=λh=>hk (pc.1 h);by_cases e:k=x
 .subst e;rw[W hk,K I,Hm [] hk,K J]
 have:¬uR k _<Z8 (l++[x]):=λh=>by
  have:=pc.1 h;rw[dc,aV]at this;exact this.elim hk e
 rw[aP,bf]at this;rw[W this,W e];split<;>rfl
def aaG l k:(mI l k).isSome=VM (k∈l):=by
 unfold mI;by_cases h:k∈l
 .rw[K (pc.2 h),bF h];rfl
 rw[W λa=>h (pc.1 a),bC h];rfl
abbrev YC(w:aw)(r:Nat)(l:X (S)):Prop:=MapV kS gS w r (mI l) (Z8 l)
def YC.at{w}{r}{l}(h:YC w r l) k:(Instr.lookup 149 (.map (Hg r)) (ae (T k)) aF).run ar w=.ok (aj #[O U (if uR k l<Z8 l then uR k l else 0),ak (VM (k∈l))]) w:=by
 have:=h.abp (P:=ar) (mty:=149) (kt:=9) (et:=3) (z:=O U 0) aaF D D (λw=>Tryz.zeroValue3 w) k;rw[aaG]at this;rw[this];unfold mI;split<;>rfl
def YC.add{w}{r}{l}(h:YC w r l){x}(e:gS x)(n:x∉l):
  ∃a,(Instr.mapUpdate 149 (.map (Hg r)) (ae (T x)) (O U (Z8 l))).run ar w=.ok () a/\YC a r (l++[x])/\az [r] w a:=by
 obtain⟨a,b,c,d⟩:=h.update (P:=ar) (mty:=149) (kt:=9) (et:=3) aaF D D e _;refine⟨a,b,(c.ext λk=>?_).le ?_,d⟩
 .rw[aft,W n]
 rw[aP,bf];split<;>omega
def YC.has{w}{r}{l}(h:YC w r l){x}(a:x∈l):YC w r (l++[x]):=by
 refine(h.ext λk=>?_).le UF;rw[aft,K a]
structure Lo (w:aw) (b m0 m1:Nat) (s:Sl) (nn vn:List (S)) (f:Ft):Prop where
 blk:aG w b 151 [.map (Hg m0),s.v,.map (Hg m1),O U f.1,O U f.2]
 nm:YC w m0 nn
 vr:YC w m1 vn
 n0:m0<m1
 n1:m1<b
section
variable {w w':aw} {b m0 m1:Nat} {s:Sl} {nn vn:X (S)} {f:Ft}
def Lo.only(h:Lo w b m0 m1 s nn vn f){bs}(O:az bs w w')(a:b∉bs)(c:m0∉bs)(d:m1∉bs):Lo w' b m0 m1 s nn vn f:=⟨O.blk h.blk a,h.nm.only O c,h.vr.only O d,h.n0,h.n1⟩
def Lo.o0(h:Lo w b m0 m1 s nn vn f)(O:az [] w w'):Lo w' b m0 m1 s nn vn f:=h.only O R R R
def Lo.gN(h:Lo w b m0 m1 s nn vn f)(a:az [b] w w'){s'}{f'}(B:aG w' b 151 [.map (Hg m0),s'.v,.map (Hg m1),O U f'.1,O U f'.2]):Lo w' b m0 m1 s' nn vn f':=
 ⟨B,h.nm.only a (by have:=h.n0;have:=h.n1;simp;omega),h.vr.only a (by have:=h.n1;simp;omega),h.n0,h.n1⟩
def Lo.lt(h:Lo w b m0 m1 s nn vn f):b<w.heap.size:=h.blk.lt
def Cp w k:aA ar 192 #[O U k] w λe w'=>e=ao (ak (iJ k))/\w'=w:=by
 refine ret (arM ?_);refine⟨?_,I⟩;unfold iJ;rw[show(_||_)=VM (k=3∨k=4) by rw[bL];simp]
def Hr(h:Lo w b m0 m1 s nn vn f) ok e a:aA ar 141 #[ah (Hg ⟨b,0,ZQ⟩),ak ok,O U e,O U a] w λr w'=>r=ao (aj #[])/\Lo w' b m0 m1 s nn vn (jJ f (bad ok e a))/\az [b] w w':=by
 refine ret (arF ?_);rw[aal];refine⟨f.1,λ_=>Mn h.blk 3 I,λhc=>⟨b,3,_,_,I,h.blk,R,λd c B=>⟨I,?_,c⟩⟩,λhc=>⟨I,?_,EC _ _⟩⟩
 .rw[K hc];exact h.gN c B
 rw[W Zs];exact h
def aii(h:Lo w b m0 m1 s nn vn f){x}(hx:gS x) a:aA ar 81 #[ah (Hg ⟨b,0,ZQ⟩),.map (Hg m0),ae (T x),O U (Z8 nn),O U a] w λr w'=>r=ao (aj #[])/\Lo w' b m0 m1 s (nn++[x]) vn (jJ f (bad (!VM (x∈nn)) 24 a))/\az [b,m0] w w':=by
 refine ret (akh ?_);refine⟨_,_,w,h.nm.at x,(Hr h _ 24 a).mono ?_⟩;rintro _ d ⟨rfl,c,p⟩;refine⟨I,λhc=>?_,λhc=>?_⟩
 .obtain⟨w,a,e,u⟩:=c.nm.add hx R0;refine⟨w,a,I,⟨u.blk c.blk (by have:=h.n0;have:=h.n1;simp;omega),e,c.vr.only u (by have:=h.n0;simp;omega),h.n0,h.n1⟩,(p.weaken (bs':=[b,m0]) (λx hx=>.inl Vx)).trans u λx hx=>.inl Vx⟩
 exact⟨I,⟨c.blk,c.nm.has R0,c.vr,h.n0,h.n1⟩,p.weaken λx hx=>.inl Vx⟩
def abN(h:Lo w b m0 m1 s nn vn f){x}(hx:gS x) a:aA ar 81 #[ah (Hg ⟨b,0,ZQ⟩),.map (Hg m1),ae (T x),O U (Z8 vn),O U a] w λr w'=>r=ao (aj #[])/\Lo w' b m0 m1 s nn (vn++[x]) (jJ f (bad (!VM (x∈vn)) 24 a))/\az [b,m1] w w':=by
 refine ret (akh ?_);refine⟨_,_,w,h.vr.at x,(Hr h _ 24 a).mono ?_⟩;rintro _ d ⟨rfl,c,p⟩;refine⟨I,λhc=>?_,λhc=>?_⟩
 .obtain⟨w,a,e,u⟩:=c.vr.add hx R0;refine⟨w,a,I,⟨u.blk c.blk (by have:=h.n1;simp;omega),c.nm.only u (by have:=h.n0;simp;omega),e,h.n0,h.n1⟩,(p.weaken (bs':=[b,m1]) (λx hx=>.inl Vx)).trans u λx hx=>.inl Vx⟩
 exact⟨I,⟨c.blk,c.nm,c.vr.has R0,h.n0,h.n1⟩,p.weaken λx hx=>.inl Vx⟩
end
def PF(P:aK)(s:Sl)(w:aw)(a:Sl)(b:aw):Prop:=aE (λk=>P k∨s.a=Hg ⟨k,0,ZQ⟩) w b/\∀k,a.a=Hg ⟨k,0,ZQ⟩->s.a=Hg ⟨k,0,ZQ⟩∨w.heap.size<=k
def PF.trans{P}{s t u}{w w' tQ}(a:PF P s w t w')(g:PF P t w' u tQ):PF P s w u tQ:=by
 refine⟨a.1.trans g.1 λk h=>?_,λk h=>?_⟩
 .rcases h with h | h
  .exact .inl (.inl h)
  exact(a.2 k h).elim (λa=>.inl (.inr a)) .inr
 rcases g.2 k h with h | h
 .exact a.2 k h
 exact .inr (bp a.1.size h)
def PF.of{P}{s}{w w'}{bs}(O:az bs w w')(b:∀k,k∈bs->P k):PF P s w s w':=⟨O.p λk h=>.inl (.inl (b k h)),λk h=>.inl h⟩
def sp0:jo:=⟨0,[],0,0,0⟩
def afg:∀(c:Nat) {w:aw} {F:aK} {x:Nd} {h:aJ} {b m d:Nat} {s:Sl} {n g:X (S)} {f:Ft},pv aM c w F x h->(∀k,F k->k<m)->Lo w b m d s n g f->je (b+1) w s (List.replicate (Z8 n) sp0)->
  lF x<=8388608->Z8 n+j7 x<=1000000->
  aA ar 80 #[ah (Hg ⟨b,0,ZQ⟩),ai h.toArray] w λe a=>e=ao (aj #[])/\∃i,Lo a b m d i (n++(Bj x).map λp=>p.1) g (jJ f (wa n (Bj x)))/\je (b+1) a i (List.replicate (Z8 n+j7 x) sp0)/\PF (λk=>k=b∨k=m) s w i a
 | 0,_,_,_,_,_,_,_,_,_,_,_,b,_,_,_,_,_=>b.elim
 | c+1,w,F,.mk o l,h,b,m,d,s,n,g,f,⟨en,lv,mv,kids,gZ,_,W⟩,hF,T,hS,hz,hn=>by
  have hk:=W.1;clear W;dsimp only[Nd.kids,Nd.b]at hk gZ;subst gZ;rw[j7]at hn;rw[lF]at hz;have F7:=hk.len;have bv:=sU l;have n0:=T.n0;have n1:=T.n1;have aC:gS o.nm:=by
   show (Z8 o.nm)<=maxLen;have:maxLen=9223372036854775807:=I;unfold uS at hz;omega
  refine ret (arB ?_);intro k0 w0 W dL K;have z0:=K.size;have H3:=T.lt;have L:=T.o0 K;have am:je (b+1) w0 s _:=hS.zX K.p0 λ_ _ _ j=>j;have YM:s.n=Z8 n:=by rw[hS.len,List.length_replicate]
  have rW:s.a≠Hg ⟨k0,0,ZQ⟩:=λe=>GX
  refine⟨_,Mn L.blk 0 I,s,Mn L.blk 1 I,?_⟩;dsimp only;rw[YM];refine(aii L aC o.a).mono ?_;rintro _ w1 ⟨rfl,A,M⟩;have z1:=M.size;have SO:=am.zX (G:=λk=>k=b∨k=m) (M.p λk hk=>.inl Mi) λk j _=>J
  have aS:PF (λk=>k=b∨k=m) s w s w1:=(PF.of K R).trans (PF.of M R);obtain⟨y,w2,k1,k3,V,w3,g1,g2,⟨gs,Q,Y⟩,g5⟩:=jy (P:=ar) (t:=44) (ty:=44) (e:=165) (i:=Tryz.t165) (bytes:=48) (size:=5) (r:=AK) (G:=λ_=>False) (v:=ai #[O U 0,ae (aq #[]),O U 0,O U 0,O U 0]) (x:=sp0) D D I I I I Z Z Z ia SO J I I (λ_ j=>j.elim) (by rw[List.length_replicate];omega);have z2:=k3.size;have z3:=Q.size;have z:∀u,u∈gs->b<u/\u<w1.heap.size/\s.a=Hg ⟨u,0,ZQ⟩:=λu E=>⟨by have:=(Y u E).2.1;omega,(Y u E).2.2,(Y u E).1⟩
  have B:Lo w3 b m d s (n++[o.nm]) g _:=(A.o0 k3).only Q (λj=>by have:=z _ j;omega) (λj=>by have:=z _ j;omega) (λj=>by have:=z _ j;omega);refine⟨I,M.same C,s,Mn A.blk 1 I,y,w2,k1,k3.same C,V,w3,g1,Q.same λx H=>?_,b,1,_,_,I,B.blk,R,J,λw4 N pz=>?_⟩
  .simp only[aV]at H;subst H;exact⟨J,λj=>rW (z _ j).2.2⟩
  have z4:=N.size;have bV:=B.gN N pz;have Ls:=by
   have:=je.of g2;rwa[<-List.replicate_succ']at this
  have L1:=Ls.zX (G:=λk=>k=b) (N.p R) λk j _=>J
  have m4:PF (λk=>k=b∨k=m) s w V w4:=by
   refine aS.trans ⟨((k3.AY (Q.p (F:=λk=>(k=b∨k=m)∨s.a=Hg ⟨k,0,ZQ⟩) λu E=>.inl (.inr (z u E).2.2))).trans (N.p (F:=λk=>k=b) R) λk hk=>.inl (.inl (.inl hk))),λk hk=>?_⟩;rcases g5 with e | ⟨u,e,j⟩
   .exact .inl RE
   rw[e]at hk;injection hk with hk;injection hk with hk;exact .inr J
  have n4:∀k,V.a=Hg ⟨k,0,ZQ⟩->k≠k0:=λk hk e=>by
   subst e;rcases g5 with e | ⟨u,e,j⟩
   .exact rW RE
   rw[e]at hk;injection hk with hk;injection hk with hk;omega
  have rL:∀{bY:aw} {q:Sl},PF (λk=>k=b∨k=m) s w q bY->aB (pv aM c) 9 bY F kids l:=λhm=>Rx (ck aM c) Z hk hm.1 λk P _=>by
   have:=hF k P;exact λj=>j.elim J λj=>by have:=(hS.blk j).1;dsimp only at this;omega
  refine⟨λkv aT a=>∃(r:Nat) (q:Sl),aT=(r:Int)/\kv+r=Z8 l/\r<=Z8 l/\Lo a b m d q (n++o.nm::(xM (l.take r)).map λp=>p.1) g (jJ f (wa n ((o.nm,o.a)::xM (l.take r))))/\je (b+1) a q (List.replicate (Z8 n+1+dW (l.take r)) sp0)/\PF (λk=>k=b∨k=m) s w q a/\w4.heap.size<=a.heap.size/\∀k,q.a=Hg ⟨k,0,ZQ⟩->k≠k0,Z8 l,⟨0,V,I,J,bh _,by
   rw[ci,xM,wa,wa,bD];exact bV,by rw[ci,dW,gP];exact L1,m4,aX _,n4⟩,?_⟩
  rintro kv _ w5 ⟨r,q,rfl,vD,xC,t,v,m5,z5,n5⟩;constructor
  .intro hc;have hj:r<Z8 l:=Ro
   obtain⟨y,hy⟩:∃y,l[r]? =Hg y:=⟨_,bH hj⟩
   obtain⟨ad,y',ds,a1,s,a3,a4,a5,a6⟩:=(rL m5).get (bc r) J;rw[aW,hy]at s;injection s with s;subst s;have NX:=a6;obtain⟨b,rfl⟩:∃b,c=b+1:=by
    cases c with
    | zero=>exact a6.elim
    | succ b=>exact⟨b,I⟩
   obtain⟨r7,r9,oe,gY,rfl,_⟩:=NX;have yt:=oG hy;have co:=nK (bA hy);have G:Z8 (n++o.nm::(xM (l.take r)).map λp=>p.1)=Z8 n+1+dW (l.take r):=by
    rw[aP,aY,bQ,O5];omega
   refine⟨ad,a1,_,_,_,_,r7,r9,oe,gY,_,a5,λk6 w6 Zd Yc f=>?_⟩;have z6:=f.size;have cc:=t.o0 f;have Tg:=t.lt;refine(afg (b+1) ((ck aM (b+1)).keep a6 λk _ bT=>f.block k bT R) hF cc (by rw[G];exact v.zX f.p0 λ_ _ _ j=>j) J (by rw[G];omega)).mono ?_;rintro _ w7 ⟨rfl,q7,ce,L4,F⟩;have z7:=F.1.size;have e:l.take (r+1)=l.take r++[y]:=Ux
   have q:xM (l.take (r+1))=xM (l.take r)++Bj y:=by rw[e,Hk,xM,xM,bD]
   refine⟨I,F.1.same λx H=>?_,kv-1,J,r+1,q7,TE,J,J,?_,?_,(m5.trans (PF.of f R)).trans F,J,λk hk e=>?_⟩
   .simp at H;rcases H with rfl | rfl
    .exact⟨J,λj=>j.elim J λj=>n5 _ j I⟩
    refine⟨Yc,λj=>j.elim J λj=>?_⟩;have:=(v.blk j).2;dsimp only at this;omega
   .have e:n++o.nm::(xM (l.take (r+1))).map (λp=>p.1)=(n++o.nm::(xM (l.take r)).map λp=>p.1)++(Bj y).map λp=>p.1:=by
     rw[q,cX,be,bW]
    have k:wa n ((o.nm,o.a)::xM (l.take (r+1)))=wa n ((o.nm,o.a)::xM (l.take r))++wa (n++o.nm::(xM (l.take r)).map λp=>p.1) (Bj y):=by
     rw[q,<-bW,zo];rfl
    rw[e,k,fZ];exact ce
   .rw[G]at L4;rw[e,zm,dW,dW,gP,<-fI];exact L4
   subst e;rcases F.2 _ hk with j | j
   .exact n5 _ j I
   omega
  intro hc;have b:r=Z8 l:=M1
  subst b;rw[br (aX _)]at v t;refine⟨I,q,?_,?_,m5⟩
  .rw[Bj];exact t
  rw[j7,show (Z8 n)+(dW l+1)=Z8 n+1+dW l by omega];exact v
end Go.Proofs.YtccbiehilmhodaaGreatDoor.Con
namespace Go.Kt
open Go Go.RowKit
section
variable {P:Program} {w:aw}
set_option maxRecDepth 20000 in
def abt {t it ty e:TypeId} {i:TypeInfo} {z:Value} (ht:P.underlying t=some (.slice e)) (hit:P.underlying it=some (.int .i64)) (hi:P.info? e=some i) (hz:i.zero=some z)
  {n:Nat} (hn0:0<n) (K5:0<i.size) (h63:n<=9223372036854775807) (hby:n*i.bytes<=281474976710656) (vf:Builtin.nextslicecap n 0*i.bytes<=281474976710656):
  (Builtin.append_ #[t,it] ty #[.slice none 0 0,.int .i64 n]).run P w=
   .ok (.slice (some ⟨w.heap.size,0,none⟩) n (grownCap w n 0 e))
    (w.drew.alloc (.cells (Builtin.zeroCells z.cells n++Builtin.zeroCells z.cells (grownCap w n 0 e-n)) e)):=by
 have hn:¬(n<=0):=zD
 have avc:¬(9223372036854775807<(n:Int)):=zD
 have avd:¬(281474976710656<Builtin.nextslicecap n 0*i.bytes):=zD
 have hwr:IntKind.i64.wrap (n:Int)=n:=eS zD zD;have pw:¬(281474976710656<(n:Int)*(i.bytes:Int)):=by
  have:((n*i.bytes:Nat):Int)<=281474976710656:=Int.ofNat_le.2 hby;rw[Int.natCast_mul]at this;omega
 have acd:¬((n:Int)<0):=zD
 have iw:n≠0:=zD
 have Tx:n*i.size≠0:=by have:=Nat.mul_pos hn0 K5;omega
 simp[Builtin.append_,run_underlying ht,run_underlying hit,sizeOf,typeInfo,zeroValue,hi,hz,asInt,asIntOf,hwr,acd,pw,iw,Tx,avc,avd,Question.forced,run_firstCells_none,newRow,grownCap]
def aen{α}{r:Rp α}{F}{size bytes}{t it ty e}{i}{z}(k:P.underlying t=Hg (.slice e))(a:P.underlying it=Hg (.int .i64))(j:P.info? e=Hg i)(l:i.zero=Hg z)(u:i.size=size)(b:i.bytes=bytes)(Q:z.cells.size=size)
  {n} (h:0<n) (f:0<size) (m:n*bytes<=140737488355328) (d:0<bytes):
  ∃s c,(Builtin.append_ #[t,it] ty #[.slice ZQ 0 0,.int .i64 n]).run P w=.ok (Sl.v s) c/\Own r size e w.heap.size c F (s.cut 0 0 s.c size) []/\Only [] w c/\s.a=Hg ⟨w.heap.size,0,ZQ⟩:=by
 subst u;subst b;have g:=bp (by have:=vu n d;omega) m;refine⟨⟨Hg _,n,grownCap w n 0 e⟩,_,abt k a j l h f J J (growslice_fits h m),?_,(Only.drew w).cn (WJ _ _),I⟩;have p:=grownCap_ge w n 0 e;have y:=grownCap_le_maxLen w n 0 e (by simp[maxLen];omega);refine .inr ⟨w.heap.size,([]),(Builtin.zeroCells z.cells n++Builtin.zeroCells z.cells (grownCap w n 0 e-n)).toList,?_,J,?_,?_,I,?_,?_,trivial⟩
 .simp[Sl.cut,Addr.add]
 .have:=KC w.drew e (Builtin.zeroCells z.cells n++Builtin.zeroCells z.cells (grownCap w n 0 e-n)).toList;exact this
 .rw[Array.toList_append,aP,yH w _ Q,yH w _ Q,<-fj];simp[Sl.cut];congr 1;omega
 .simp[Sl.cut]
 simp[Sl.cut];simp[maxLen]at y;omega
end
end Go.Kt
namespace Go.Proofs.YtccbiehilmhodaaGreatDoor.Con
open Go Go.RowKit Go.Kt Go.Kt.V Go.Proofs.YtccbiehilmhodaaGreatDoor.Vc
structure Lx (w:aw) (b m0 m1:Nat) (F:aK) (s:Sl) (xs:List jo) (vn:List (S)) (f:Ft):Prop where
 lo:Lo w b m0 m1 s (xs.map λx:jo=>x.nm) vn f
 sp:aB AK 5 w F s xs
 fo:Fo xs
 ln:Z8 xs<=64
 nF:∀k,F k->k≠b
section
variable {w w':aw} {b m0 m1:Nat} {F G:aK} {s:Sl} {xs:X jo} {vn:X (S)} {f g:Ft}
def Lx.o0(h:Lx w b m0 m1 F s xs vn f)(O:az [] w w'):Lx w' b m0 m1 F s xs vn f:=⟨h.lo.o0 O,Aw ia Z h.sp O R,h.fo,h.ln,h.nF⟩
def Lx.to(h:Lx w b m0 m1 F s xs vn f)(O:az [b] w w')(l:Lo w' b m0 m1 s (xs.map λx:jo=>x.nm) vn g):Lx w' b m0 m1 F s xs vn g:=
 ⟨l,Aw ia Z h.sp O λk a _ hm=>h.nF k a RD,h.fo,h.ln,h.nF⟩
def nL(h:Lx w b m0 m1 F s xs vn f) ok e a:aA ar 141 #[ah (Hg ⟨b,0,ZQ⟩),ak ok,O U e,O U a] w λr w'=>r=ao (aj #[])/\Lx w' b m0 m1 F s xs vn (jJ f (bad ok e a))/\az [b] w w':=by
 refine(Hr h.lo ok e a).mono ?_;rintro _ w' ⟨rfl,d,c⟩;exact⟨I,h.to c d,c⟩
def agA xs n:iv xs n= -1∨∃j:Nat,iv xs n=j/\j<Z8 xs:=by
 rcases lz xs n with⟨h,_⟩ | ⟨j,x,h,a,_⟩
 .exact .inl h
 exact .inr ⟨j,h,vZ a⟩
def Hs(h:Lx w b m0 m1 F s xs vn f) n:aA ar 193 #[.map (Hg m0),ae (T n)] w λr w'=>r=ao (O U (iv xs n))/\w'=w:=by
 refine ret (arN ?_);refine⟨_,_,w,h.lo.nm.at n,λa=>⟨?_,I⟩,λa=>⟨?_,I⟩⟩
 .have l:=pc.2 (aO a);unfold iv;rw[K l,K (by rwa[bQ]at l)]
 have l:=λh=>aR a (pc.1 h);unfold iv;rw[W (by rwa[bQ]at l)]
def JY(a:Lx w b m0 m1 F s xs vn f){n:Int}(e:n<Z8 xs):aA ar 194 #[ah (Hg ⟨b,0,ZQ⟩),O U n] w λr w'=>r=ao (ak (VM (0<=n)&&!iJ (yd xs n)))/\w'=w:=by
 refine ret (arO ?_);refine⟨λr w'=>r=(VM (0<=n)&&!iJ (yd xs n))/\w'=w,λr w' ⟨c,d⟩=>⟨by rw[c],d⟩,λh=>?_,λh=>⟨?_,I⟩⟩
 .have h:=aO h;obtain⟨j,rfl⟩:∃j:Nat,n=j:=⟨n.toNat,J⟩
  obtain⟨x,b⟩:=lS (xs:=xs) (i:=j) J;obtain⟨ad,f,g,_⟩:=pj a.sp b;refine⟨s,Mn a.lo.blk 1 I,ad,f,x.k,g.dx 0 _ I,(Cp w x.k).mono ?_⟩;rintro _ k ⟨rfl,u⟩;refine⟨_,I,?_,u⟩;rw[ke b,bF h];rfl
 rw[show decide _=aM from h];rfl
def Ht{b k0}(O:az [b] w w')(h:k0≠b):cj (λk=>k=k0) w w':=λk a T=>O.block k T (by subst a;simp[h])
def wk{b}{u v}(h:az [b] w u)(g:az [b] u v):az [b] w v:=h.trans g λx a=>.inl a
def BM{b}(h:az [] w w'):az [b] w w':=h.weaken λx a=>(by simp at a)
def Hu:∀(d:Nat) {w:aw} {x:Ex} {c:aJ} {f:Ft},OU aM d w G x c->(∀k,G k->k≠b)->Lx w b m0 m1 F s xs vn f->
  aA ar 144 #[ah (Hg ⟨b,0,ZQ⟩),ai c.toArray] w λr w'=>r=ao (aj #[])/\Lx w' b m0 m1 F s xs vn (jJ f (U7 xs vn x))/\az [b] w w'
 | 0,_,_,_,_,h,_,_=>h.elim
 | d+1,w,x,c,f,⟨sl,n,z⟩,j,g=>by
  subst n;have z:=z.1;refine ret (arI ?_);intro l m q L h;have t:=h.size;have H:=g.lo.lt;have i:=g.o0 h;have A:=z.len;have p:=z.cap;have Q:=z.big;have o:l≠b:=J
  refine⟨λu=>Lx u b m0 m1 F s xs vn (jJ f (bad (LF xs vn x.k x.s) 23 x.a))/\az [b] w u/\m.heap.size<=u.heap.size,?_,λhk=>?_,λhk=>⟨λa=>?_,λa=>?_⟩⟩
  .rintro X ⟨M,P,T⟩;refine⟨λE N u=>∃v:Nat,N=(v:Int)/\E+v=Z8 x.dK/\v<=Z8 x.dK/\Lx u b m0 m1 F s xs vn (jJ f (bad (LF xs vn x.k x.s) 23 x.a++wb xs vn (x.dK.take v)))/\az [b] w u/\m.heap.size<=u.heap.size,Z8 x.dK,⟨0,I,I,bh _,by rw[ci,wb,bD];exact M,P,T⟩,?_⟩;rintro E _ S ⟨v,rfl,W,V,D,K,Y⟩;refine⟨λB=>?_,λB=>?_⟩
   .have B:=aO B;have s:aB (OU aM d) 6 S G sl x.dK:=Aw (lw aM d) Z z K λk hk _ hm=>j k hk RD;obtain⟨ad,y,ds,F,f,a3,a4,a5,b⟩:=s.get (bc v) J;rw[aW]at f;have w:=b;obtain⟨d',rfl⟩:∃e,d=e+1:=by
     cases d with
     | zero=>exact b.elim
     | succ e=>exact⟨e,I⟩
    obtain⟨sl',rfl,_⟩:=w;refine⟨ad,F,_,_,_,_,_,_,a5,λk3 w3 a tD d=>?_⟩;have z3:=d.size;refine(Hu _ ((lw aM _).keep b λk hk G=>d.block k G R) j (D.o0 d)).mono ?_;rintro _ w4 ⟨rfl,h4,e⟩;have z4:=e.size;have pU:x.dK.take (v+1)=x.dK.take v++[y]:=by rw[bq,f];rfl
    have A0:=D.lo.lt;refine⟨I,e.same C,E-1,J,v+1,TE,J,J,?_,(K.cn d).trans e λx hx=>.inl hx,J⟩;rw[pU,DA,wb,wb,bD,<-be,fZ];exact h4
   have B:=aR B;have b:v=Z8 x.dK:=J
   subst b;rw[br (aX _),<-U8]at D;exact⟨I,D,K⟩
  .have hk:x.k=2:=Mi
   intro w d;have s:=d.size;have e:=i.o0 d;refine⟨_,Mn e.lo.blk 2 I,_,_,w,e.lo.vr.at x.s,WV _ _,(nL e _ 23 x.a).mono ?_⟩;rintro _ k ⟨rfl,f,b⟩;have v:=b.size;refine⟨I,b.same C,?_,wk (BM (h.cn d)) b,J⟩;have:LF xs vn x.k x.s=VM (x.s∈vn):=by unfold LF;rw[hk];simp
   rw[this];exact f
  .have a:x.k=3:=by simpa using a
   intro w f;have G:=f.size;have b:=i.o0 f;refine⟨λk=>k=l,_,Mn b.lo.blk 0 I,I,(Hs b x.s).mono ?_⟩;rintro _ y ⟨rfl,e⟩;obtain rfl:w=y:=e.symm;refine⟨_,I,WV _ _,VX _ _,(JY b (by rcases agA xs x.s with g | ⟨F,g,E⟩<;>omega)).mono ?_⟩;rintro _ v ⟨rfl,e⟩;obtain rfl:w=v:=e.symm;refine⟨_,I,WV _ _,VX _ _,(nL b _ 23 x.a).mono ?_⟩;rintro _ D ⟨rfl,s,d⟩;have B:=d.size;refine⟨I,d.same C,Ht d o,?_,wk (BM (h.cn f)) d,J⟩;have:LF xs vn x.k x.s=JL xs x.s:=by unfold LF;rw[a];simp
   rw[this];exact s
  have E:x.k≠2:=Mi
  have a:x.k≠3:=by simpa using a
  have:LF xs vn x.k x.s=aF:=by unfold LF;simp[E,a]
  rw[this];exact⟨i,BM h,aX _⟩
end
def JZ:Rp Sl:=λ_ _ x c=>c=[x.v]
def uC:JZ.Ok:=⟨λh _=>h,λh=>h,λh _=>h,λh=>by
 subst h;intro v a;simp at a;subst a;rfl⟩
abbrev PG(B:Nat)(w:aw)(G:aK)(s:Sl)(l:X Ac):Prop:=Own (pI aM) 9 78 B w G s l
def aaH w G {n:Nat} (c:n<=20000000):aA ar 95 #[Sl.nil.v,O U n] w λe a=>(∃s,e=ao s.v/\PG w.heap.size a G s [])/\az [] w a:=by
 refine iE (ald ?_);have b:au U (n-(au U (Sl.nil.c-Sl.nil.n)))=n:=by
  rw[eS (x:=((0:Nat))-((0:Nat))) J J,eS J J];omega
 refine⟨λu=>w=u,?_,λh=>?_,λ_=>I⟩
 .rintro _ rfl;rw[b];refine⟨λl u=>PG w.heap.size u G l []/\az [] w u,λl u d=>⟨⟨l,I,d.1⟩,d.2⟩,λh=>?_,λh=>⟨Vf _ _ _ _ _ _,EC _ _⟩⟩;have h:=aO h;obtain⟨s,k,g,f,j,_⟩:=aen (P:=ar) (w:=w) (r:=pI aM) (F:=G) (size:=9) (bytes:=104) (t:=24) (it:=3) (ty:=24) (e:=78) (i:=Tryz.t78) (n:=n) D D D I I I I J Z J Z;exact⟨0,⟨I,aX _⟩,s,k,g,0,⟨I,bh _⟩,f,j⟩
 have:=aO h;omega
def lO(l:X (Sl×X Ac)):X Ac:=l.flatMap λp=>p.2
def wT{l:X _}{j}{p}(h:l[j]? =Hg p):lO (l.take (j+1))=lO (l.take j)++p.2:=by
 rw[bq,h];unfold lO;simp
def ahf{l} j:Z8 (lO (l.take j))<=Z8 (lO l):=by
 have:lO l=lO (l.take j)++lO (l.drop j):=by
  unfold lO;rw[<-lI,fW]
 rw[this,aP];omega
def FE{w}{rows}{F G}{l}(a:aB JZ 1 w F rows (l.map λp=>p.1))(A:∀p,p∈l->aB (pI aM) 9 w G p.1 p.2)(m:Z8 (lO l)<=20000000):
  aA ar 39 #[rows.v] w λe d=>(∃s,e=ao s.v/\PG w.heap.size d (λk=>G k/\k<w.heap.size) s (lO l))/\az [] w d:=by
 refine iE (akN ?_);have b:=a.len;have f:=a.cap;have Q:=a.big;rw[bQ]at b;have row:∀{u:aw} {j:Nat},az [] w u->j<(Z8 l)->∃ad p,cM rows j 1 ad/\l[j]? =Hg p/\aD u ad [p.1.v]/\aB _ 9 u _ p.1 p.2:=fun{u j} hO c=>by
  obtain⟨ad,y,t,n,e,r,s,o,q⟩:=(Aw uC Z a hO R).get (bc j) J;rw[aW,dr,ir]at e;obtain⟨p,l,rfl⟩:=e;subst q;exact⟨ad,p,n,l,o,((A p (bA l)).inHeap (cN aM) Z).keep (cN aM) Z λk _ T=>hO.block k T R⟩
 refine⟨λv n i u=>∃j:Nat,i=j/\n=(Z8 (lO (l.take j)))/\v+j=Z8 l/\j<=Z8 l/\w=u,Z8 l,⟨0,I,I,I,bh _,I⟩,?_⟩;rintro v _ _ _ ⟨j,rfl,rfl,g,c,rfl⟩;refine⟨λh=>?_,λh=>?_⟩
 .have h:=aO h;obtain⟨ad,p,k,e,o,q⟩:=row (EC _ _) (j:=j) J;have s:=q.len;have y:=ahf (l:=l) (j+1);rw[wT e,aP]at y;have t:au U ((Z8 (lO (l.take j)))+p.1.n)=(Z8 (lO (l.take (j+1)))):=by
   rw[eS J J,wT e,aP];omega
  refine⟨λn u=>n=(Z8 (lO _))/\w=u,?_,ad,k,p.1,o,λr=>?_,λ_=>⟨t,I⟩⟩
  .rintro _ _ ⟨rfl,rfl⟩;exact⟨v-1,J,j+1,TE,I,J,J,I⟩
  have:=aO r;omega
 have h:=aR h;have o:j=Z8 l:=J
 subst o;rw[br (aX _)];refine(aaH w (λk=>G k/\k<w.heap.size) m).mono ?_;rintro _ q ⟨⟨s,rfl,S⟩,O⟩;refine⟨s,I,λv t i u=>∃j:Nat,i=j/\v+j=Z8 l/\j<=Z8 l/\PG w.heap.size u (λk=>G k/\k<w.heap.size) t (lO (l.take j))/\az [] w u,Z8 l,⟨0,I,I,bh _,by rw[ci];exact S,O⟩,?_⟩;rintro v t _ x ⟨j,rfl,g,c,T,n⟩;refine⟨λh=>?_,λh=>?_⟩
 .have h:=aO h;obtain⟨ad,p,w,s,y,z⟩:=row n (j:=j) J;have N:=ahf (l:=l) (j+1);rw[wT s,aP]at N;obtain⟨L,M,C,E,V,F,G,_⟩:=tZ (P:=ar) (t:=24) (ty:=24) (e:=78) (i:=Tryz.t78) (bytes:=104) (size:=9) (r:=pI aM) D D I I I I (cN aM) T (z.mono (cN aM) λk K=>⟨K,λe=>by have:=(T.blk e).1;dsimp only at this;omega⟩) n.size J Z;refine⟨ad,w,p.1,y,L,M,C,v-1,J,j+1,TE,J,J,by rw[wT s];exact E,n.trans F λB H=>.inr (G B H).2.1⟩
 have h:=aR h;have o:j=Z8 l:=J
 subst o;rw[br (aX _)]at T;exact⟨⟨t,I,T⟩,n⟩
section
variable {w w':aw} {b m0 m1:Nat} {F G H:aK} {s:Sl} {xs:X jo} {vn:X (S)} {f g:Ft}
def PI{rows}{l}(n:aB JZ 1 w H rows (l.map λp=>p.1))(A:∀p,p∈l->aB (pI aM) 9 w G p.1 p.2)(m:Z8 (lO l)<=20000000)(i:∀k,G k->k≠b)(h:Lx w b m0 m1 F s xs vn f):
  aA ar 143 #[ah (Hg ⟨b,0,ZQ⟩),rows.v] w λr w'=>r=ao (aj #[])/\Lx w' b m0 m1 F s xs vn (jJ f (lM xs vn (lO l)))/\az [b] w w':=by
 refine ret (arH ?_);refine(FE n A m).mono ?_;rintro _ x ⟨⟨t,rfl,T⟩,e⟩;have z:=h.lo.lt;have K:=e.size;generalize lO l=al at*
 have o:=T.len;refine⟨t,I,λv q u=>∃j:Nat,q=j/\v+j=Z8 al/\j<=Z8 al/\Lx u b m0 m1 F s xs vn (jJ f (lM xs vn (al.take j)))/\az [b] x u,Z8 al,⟨0,I,I,bh _,by rw[ci];exact h.o0 e,EC _ _⟩,?_⟩;rintro v _ E ⟨j,rfl,D,B,g,a⟩;have L:=a.size;refine⟨λc=>?_,λc=>?_⟩
 .have c:=aO c;have l:=Aw (cN aM) Z (T.slice (cN aM)) a λk hk _ m=>by
   simp at m;rcases hk with hk | hk
   .exact i k hk.1 m
   omega
  obtain⟨ad,y,ds,Q,H,a3,a4,S,V⟩:=l.get (bc j) J;rw[aW]at H;obtain⟨xc,rfl,N⟩:=V;obtain⟨sl,rfl⟩:=dM N;refine⟨ad,Q,_,_,_,_,_,_,sl,_,_,S,λk2 X mE nT p=>?_⟩;have M:=g.o0 p;have W:lM xs vn (al.take (j+1))=lM xs vn (al.take j)++(bad (VM (y.k≠1)||VM (y.n∈vn)) 23 y.a++U7 xs vn y.x):=by
   rw[bq,H];unfold lM;simp[Kf]
  refine⟨λu=>Lx u b m0 m1 F s xs vn (jJ f (lM xs vn (al.take j)++bad (VM (y.k≠1)||VM (y.n∈vn)) 23 y.a))/\az [b] X u,?_,λhk Y P=>?_,λhk=>?_⟩
  .rintro w3 ⟨h3,y⟩;have z3:=y.size;obtain⟨d,F⟩:=N;have f:∀k,((G k/\k<w.heap.size)∨(w.heap.size<=k/\t.a=Hg ⟨k,0,ZQ⟩))->k≠b:=λk hk=>hk.elim (λh=>i k h.1) λh=>J
   refine(Hu d ((lw aM d).keep ((lw aM d).keep F λk _ s=>p.block k s R) λk hk s=>y.block k s (by simp;exact f k hk)) f h3).mono ?_;rintro _ w4 ⟨rfl,h4,dD⟩;refine⟨I,dD.same C,v-1,J,j+1,TE,J,J,?_,wk (wk (a.cn p) y) dD⟩;rw[W,<-be,fZ];exact h4
  .have hk:=Mi
   have k:=P.size;have b:=M.o0 P;refine⟨_,Mn b.lo.blk 2 I,_,_,Y,b.lo.vr.at y.n,WV _ _,(nL b _ 23 y.a).mono ?_⟩;rintro _ w ⟨rfl,f,d⟩;refine⟨I,d.same C,?_,wk (BM P) d⟩;rw[fZ,hk];exact f
  refine⟨?_,EC _ _⟩;rw[fZ,bF Mi];exact M
 have c:=aR c;have l:j=Z8 al:=J
 subst l;rw[br (aX _)]at g;exact⟨I,g,wk (BM e) a⟩
end
def amz u {a b} (h:rX a) (d:rX b):∃y c,(av 43 2 #[.mk 0 (O U a),.mk 1 (O U b)]).run ar u=.ok (Sl.v y) c/\az [] u c/\aB yI 1 c (λ_=>True) y [a,b]:=by
 have⟨y,c,k,f,k3,_⟩:=kD (P:=ar) (t:=43) (e:=3) (i:=Tryz.t3) (z:=O U 0) (w:=u) (F:=λ_=>False) (vs:=[O U a,O U b]) (parts:=#[.mk 0 _,.mk 1 _]) (len:=2) (xs:=[a,b]) (r:=yI) (size:=1) D D I I Z I I Z Z my ⟨⟨I,I,h⟩,⟨I,I,d⟩,trivial⟩;exact⟨y,c,k,k3,(f.slice my).mono my λ_ _=>trivial⟩
def je.sl{B}{w}{s}{xs}(h:je B w s xs):aB AK 5 w (λk=>B<=k) s xs:=(h.slice ia).mono ia λk a=>a.elim (λh=>h.elim) λh=>h.1
def tup(x:jo):Int×S×Int×Int×Int:=(x.k,x.nm,x.pa,x.dp,x.en)
section
variable {w w':aw} {b m0 m1:Nat} {F G:aK} {s:Sl} {xs:X jo} {vn:X (S)} {f g:Ft}
def AM{n}(h:Ah xs n)(l:Z8 xs<=64):rX n:=⟨by have:=h.1;omega,by have:=h.2;omega⟩
def ai4(h:Lx w b m0 m1 F s xs vn f){n o}(a:Ah xs n)(c:Ah xs o):aA ar 196 #[ah (Hg ⟨b,0,ZQ⟩),O U n,O U o] w λp w'=>p=ao (ak (U6 xs n o))/\az [] w w':=by
 refine ret (arQ ?_);have⟨y,z,u,m,k3⟩:=amz w (AM a h.ln) (AM c h.ln);have g:=h.o0 m;refine⟨s,Mn h.lo.blk 1 I,y,z,u,(afY g.sp h.fo k3).mono ?_⟩;rintro _ C ⟨⟨p,rfl,r⟩,d⟩;have i:=g.o0 d;have Y:=r.anj R λA j=>by
  simp at j;rcases j with rfl | rfl
  .exact a
  exact c
 obtain⟨B,e,v,_⟩:=Y;obtain⟨k,_,x,l,_⟩:=v n R;obtain⟨ad,q,t,_⟩:=pj i.sp l;subst e;refine⟨_,I,s,λ_=>Mn i.lo.blk 1 I,ad,λ_=>q,x.k,λ_=>t.dx 0 _ I,?_,m.cn d⟩;unfold U6;rw[<-h.fo.abn r a c,ke l];congr 1;rw[bL];simp
def afZ{k0 k4}(h:Lx w b m0 m1 F s xs vn f){n o}(e:Ah xs n)(g:Ah xs o)(a:aG w k0 147 [ah (Hg ⟨b,0,ZQ⟩)])(c:aG w k4 3 [O U n]):
  aA ar 195 #[O U o,ah (Hg ⟨k0,0,ZQ⟩),ah (Hg ⟨k4,0,ZQ⟩)] w λr w'=>r=ao (ak (!U6 xs n o))/\az [] w w':=by
 refine ret (arP ?_);refine⟨_,a.cells 0 [_] λj v hj=>Je,_,c.cells 0 [_] λj v hj=>Je,(ai4 h e g).mono ?_⟩;rintro _ i ⟨rfl,d⟩;exact⟨_,I,I,d⟩
def af0{k0 k4}(d:Lx w b m0 m1 F s xs vn f){n}(l:Ah xs n){sN}{ns}(N:aB yI 1 w G sN ns)(T:∀o,o∈ns->Ah xs o)(e:aG w k0 147 [ah (Hg ⟨b,0,ZQ⟩)])(g:aG w k4 3 [O U n]):
  aA ar 127 #[sN.v,.func (.func 195) #[] #[ah (Hg ⟨k0,0,ZQ⟩),ah (Hg ⟨k4,0,ZQ⟩)]] w λr w'=>r=ao (ak (ns.any λo=>!U6 xs n o))/\az [] w w':=by
 refine ret (acX sN ⟨.func _ #[] #[ah _,ah _],I⟩ _ w ?_);refine(acZ sN _ (λv w'=>(∃i,v=O U i/\VM (i>=0)=ns.any λo=>!U6 xs n o)/\az [] w w') w ?_).mono (by
  rintro _ w' ⟨v,rfl,⟨i,rfl,b⟩,h⟩;exact⟨i,I,by rw[b],h⟩)
 have t:=N.len;have p:=N.cap;have m:=N.big;refine⟨λk i u=>∃j:Nat,i=j/\k+j=Z8 ns/\j<=Z8 ns/\((ns.take j).any λo=>!U6 xs n o)=aM/\az [] w u,Z8 ns,⟨0,I,J,J,I,EC _ _⟩,?_⟩;rintro k _ u ⟨j,rfl,x,q,a,h⟩;refine⟨λc=>?_,λc=>?_⟩
 .have c:=aO c;have⟨ad,y,A,v,b,B,C,w,z⟩:=(Aw my Z N h R).get (bc j) J;rw[aW]at b;obtain⟨rfl,E⟩:=z;have s:=bA b;refine⟨ad,v,y,w,195,[],[ah _,ah _],I,jB D,(afZ (d.o0 h) l (T y s) (h.blk e R) (h.blk g R)).mono ?_⟩;rintro _ F ⟨rfl,n⟩;refine⟨_,I,λf=>⟨⟨j,I,?_⟩,h.cn n⟩,λf=>⟨k-1,J,j+1,TE,J,J,?_,h.cn n⟩⟩
  .exact(List.any_eq_true.2 ⟨y,s,f⟩).symm
  rw[bq,b,CI,a];simpa using f
 have c:=aR c;rw[br J]at a;exact⟨⟨-1,I,by rw[a];rfl⟩,h⟩
def PJ(F:Fo xs){n}(a:¬iv xs n<1):Ah xs (Hj xs n):=by
 rcases lz xs n with⟨e,_⟩ | ⟨j,x,e,h,_⟩
 .omega
 have l:=vZ h;rw[Hj];rw[e,ke h,wc h];split
 .have _:=F.par h J;exact⟨J,J⟩
 exact⟨J,J⟩
def wj.kp{B}{w w'}{s}{l}(h:wj B w s l)(O:az [] w w'):wj B w' s l:=Own.keep my h λk _ b=>O.block k b R
def adt w0 {u} {s} {is} (h:wj w0.heap.size u s is) (o:az [] w0 u) n (A:rX n) (E:Z8 is<=20000000):
  ∃y w,(av 43 1 #[.mk 0 (O U n)]).run ar u=.ok (Sl.v y) w/\az [] u w/\∃b a,(Builtin.append_ #[43,43] 43 #[Sl.v s,Sl.v y]).run ar w=.ok (Sl.v b) a/\wj w0.heap.size a b (is++[n])/\az [] w0 a/\w.heap.size<=a.heap.size/\
   (∀k,k<u.heap.size->s.a≠Hg ⟨k,0,ZQ⟩->a.heap[k]? =w.heap[k]?)/\∀k,k<u.heap.size->s.a≠Hg ⟨k,0,ZQ⟩->b.a≠Hg ⟨k,0,ZQ⟩:=by
 have⟨y,w,B,k3,b,a,p,q,⟨C,d,m⟩,z⟩:=jy (P:=ar) (t:=43) (ty:=43) (e:=3) (i:=Tryz.t3) (bytes:=8) (size:=1) (r:=yI) (G:=λ_=>False) (v:=O U n) (x:=n) D D I I I I Z Z Z my h o.size I ⟨I,A⟩ (λ_ h=>h.elim) J;have H:=k3.size;refine⟨y,w,B,k3,b,a,p,wj.of q,((o.cn k3).AY (d.p (F:=λk=>w0.heap.size<=k) λg f=>.inl (m g f).2.1)).only λk j=>j,d.size,λk j l=>d.block k J λf=>l (m k f).1,λk j l e=>?_⟩;rcases z with c | ⟨g,c,h⟩
 .exact l (by rw[<-c,e])
 rw[c]at e;injection e with e;injection e with e;omega
def J8 l n r:O3 xs l (n::r)=if iv xs n<1 then aM else if(l.any λo=>!U6 xs (Hj xs n) o)=aF then aM else O3 xs (l++[Hj xs n]) r:=rfl
def abJ(h:Lx w b m0 m1 F s xs vn f){sT}{t:X _}(T:aB ju 1 w G sT t)(M:Z8 t<=20000000):aA ar 145 #[ah (Hg ⟨b,0,ZQ⟩),sT.v] w λz w'=>z=ao (ak (O3 xs [] t))/\az [] w w':=by
 refine ret (arJ ?_);intro m A Q L n;have H:=h.lo.lt;have r:=T.len;refine⟨λv l i q u=>∃(j:Nat) (al:X Int),i=j/\v+j=Z8 t/\j<=Z8 t/\q=Hg _/\wj w.heap.size u l al/\(∀o,o∈al->Ah xs o)/\Z8 al<=j/\O3 xs [] t=O3 xs al (t.drop j)/\az [] w u/\A.heap.size<=u.heap.size/\l.a≠Hg ⟨m,0,ZQ⟩,Z8 t,
  ⟨0,[],I,I,J,I,Vf _ _ _ _ _ _,R,aX _,I,n,J,by intro e;cases e⟩,?_⟩
 rintro v l _ _ B ⟨j,al,rfl,N,E,rfl,hS,a,D,p,c,P,g⟩;refine⟨λd=>?_,λd=>?_⟩
 .have d:=aO d;have⟨ad,y,cs,g1,V,g3,g4,g5,g6⟩:=(Aw cx Z T c R).get (bc j) J;rw[aW]at V;subst g6;have Y:=h.o0 c;have s:t.drop j=y::t.drop (j+1):=by
   have⟨G,e⟩:=bd.1 V;rw[<-e,BU]
  rw[s,J8]at p;refine⟨ad,g1,_,g5,_,I,_,Mn Y.lo.blk 0 I,(Hs Y y).mono ?_⟩;rintro _ w2 ⟨rfl,F⟩;obtain rfl:B=w2:=F.symm;refine⟨_,I,WV _ _,λf k3 w3 _ _ db=>⟨?_,c.cn db⟩,λf k4 w4 pV xA S=>?_⟩
  .have f:=aO f;rw[p,K f]
  have f:=aR f;rw[W f]at p;have Ig:=PJ h.fo f;have o4:=c.cn S;have L1:wj w.heap.size w4 l al:=hS.kp S;have am:l.a≠Hg ⟨k4,0,ZQ⟩:=λe=>GX
  refine⟨λq i u=>q=Hg ⟨b,0,ZQ⟩/\i=Hj xs y/\az [] w u/\wj w.heap.size u l al/\w4.heap.size<=u.heap.size,?_,_,I,λw9 fm=>?_⟩
  .rintro _ _ w5 ⟨rfl,rfl,q,yy,z5⟩ rZ pz;refine(af0 (h.o0 q) Ig (yy.slice my) a rZ pz).mono ?_;rintro _ w6 ⟨rfl,b⟩;have z6:=b.size;have x:=q.cn b;refine⟨_,I,_,b.blk rZ R,_,b.blk pz R,λe=>⟨?_,x⟩,λe=>?_⟩
   .rw[p,K e]
   rw[W (by rw[e];decide)]at p;have aC:wj w.heap.size w6 l al:=yy.kp b;obtain⟨y1,w7,p1,p3,s',w8,q1,q2,q3,z8,q4,q5⟩:=adt w aC x (Hj xs y) (AM Ig h.ln) J;have z7:=p3.size;refine⟨y1,w7,p1,p3.same C,s',w8,q1,λk hk=>?_,v-1,J,j+1,al++[Hj xs y],TE,J,J,I,q2,λo ho=>?_,RC,p,q3,J,q5 m J g⟩
   .simp at hk;rcases hk with rfl | rfl
    .exact q4 _ J g
    exact q4 _ J am
   rcases dc.1 ho with ho | ho
   .exact a o ho
   simp at ho;subst ho;exact Ig
  have z9:=fm.size;have q:=o4.cn fm;have w:=h.o0 q;obtain⟨e,_⟩ | ⟨jx,x,e,b,_⟩:=lz xs y
  .omega
  have⟨Lu,b1,b2,b3,_⟩:=pj w.sp b;rw[e]at f⊢;refine⟨_,Mn w.lo.blk 1 I,Lu,b1,x.k,b2.dx 0 _ I,(Cp w9 x.k).mono ?_⟩;rintro _ dk ⟨rfl,F⟩;obtain rfl:w9=dk:=F.symm;refine⟨_,I,WV _ _,λhh=>⟨_,I,λdz y=>?_⟩,λhh=>⟨I,?_,q,L1.kp fm,J⟩⟩
  .have CA:=y.size;have Zh:=q.cn y;have L0:=h.o0 Zh;have⟨Zj,c1,_,c3,_⟩:=pj L0.sp b;refine⟨_,Mn L0.lo.blk 1 I,Zj,c1,x.pa,c3,λeF dV=>⟨I,?_,Zh.trans dV λk hk=>.inr Z2,?_,by have:=dV.size;omega⟩⟩
   .rw[Hj];rw[e,ke b,wc b,K hh]
   refine Own.keep my ((L1.kp fm).kp y) λk hk G=>dV.block k G ?_;simp;rintro rfl;exact hk.elim (λh=>h) λh=>am h.2
  rw[Hj];rw[e,ke b,W Gn]
 have d:=aR d;have b:j=Z8 t:=J
 subst b;rw[dJ (aX _)]at p;exact⟨by rw[p];rfl,c⟩
end
section
variable {w w':aw} {b m0 m1:Nat} {F G:aK} {s:Sl} {xs:X jo} {vn:X (S)} {f g:Ft}
def DL{l:X Nd}{j}{y}(h:l[j]? =Hg y):Es (l.take (j+1))=Es (l.take j)+if iJ y.b.k=aF then 0 else 1:=by
 unfold Es;rw[bq,h,mr,aP];simp[Option.toList,tL,fz];cases iJ y.b.k<;>simp
def adD l:Es l<=Z8 l:=List.length_filter_le _ _
def xYL{D:Nat}{bb}{ks}{cs}(g:pv aM (D+1) w G (.mk bb ks) cs)(P:∀k,G k->k≠b)(h:Lx w b m0 m1 F s xs vn f){n:Nat}(t:n<Z8 xs):
  aA ar 142 #[ah (Hg ⟨b,0,ZQ⟩),ai cs.toArray,O U (n:Int)] w λE w'=>E=ao (aj #[])/\Lx w' b m0 m1 F s xs vn (jJ f (xN xs bb ks n))/\az [b] w w':=by
 obtain⟨N,V,mv,kids,l,_,Q⟩:=g;have d:=Q.1;dsimp[Nd.kids,Nd.b]at d l;subst l;refine ret (arG ?_);intro m H Q M i;have Y:=i.size;have L:=h.lo.lt;have q:=d.len;have r:=d.cap;have B:=d.big;have z:m≠b:=J
 refine⟨λv c bg A u=>∃j:Nat,A=(j:Int)/\v+j=Z8 ks/\j<=Z8 ks/\c=(Es (ks.take j):Nat)/\bg=zq bb.ini (ks.take j)/\az [] w u/\H.heap.size<=u.heap.size,Z8 ks,⟨0,I,J,bh _,I,I,i,aX _⟩,?_⟩;rintro v _ _ _ o ⟨j,rfl,X,S,rfl,rfl,p,z1⟩;refine⟨λa=>?_,λa=>?_⟩
 .have a:=aO a;obtain⟨ad,y,F,n,f,w,x,s,k⟩:=(Aw (ck aM D) Z d p R).get (bc j) J;rw[aW]at f;obtain⟨b,rfl⟩:∃b,D=b+1:=by
   cases D with
   | zero=>exact k.elim
   | succ b=>exact⟨b,I⟩
  obtain⟨r7,r9,oe,gY,rfl,_⟩:=k;have ky:=adD (ks.take j);have zY:Z8 (ks.take j)<=j:=Zo
  refine⟨ad,n,_,_,_,_,r7,r9,oe,gY,_,s,λk3 G yw tD T=>?_⟩;have z2:=T.size;refine⟨λc u=>c=(Es (ks.take (j+1)):Nat)/\az [] G u,?_,(Cp G y.b.k).mono ?_⟩
  .rintro _ e ⟨rfl,c⟩;have y:=c.size;refine⟨v-1,J,j+1,TE,J,J,I,?_,(p.cn T).cn c,J⟩;unfold zq;rw[bq,f,CI,iC];simp
  rintro _ y ⟨rfl,c⟩;obtain rfl:G=y:=c.symm;refine⟨_,I,WV _ _,λhh=>⟨?_,EC _ _⟩,λhh=>⟨?_,EC _ _⟩⟩
  .rw[eS J J,DL f,W (by intro e;rw[e]at hh;cases hh)];rfl
  rw[DL f,K Nv];rfl
 have a:=aR a;have lD:j=Z8 ks:=J
 subst lD;rw[br (aX _)];have y:=h.o0 p;have q0:∀u,((T u).toList==(aq #[]).toList)=VM (u=[]):=λu=>iC u [];refine(Cp o bb.k).mono ?_;rintro _ w5 ⟨rfl,c⟩;obtain rfl:o=w5:=c.symm;refine⟨_,I,WV _ _,λhh w6 G=>?_,λhh=>⟨λhp=>?_,λhp=>⟨λe=>?_,λe=>?_⟩⟩⟩
 .have z6:=G.size;have o6:=p.cn G;have h6:=h.o0 o6;have NY:xN xs bb ks n=bad (JL xs bb.dft&&AH xs (iv xs bb.dft) (U5 xs n)) 26 bb.a:=by unfold xN;rw[K hh]
  refine⟨_,Mn h6.lo.blk 0 I,(Hs h6 bb.dft).mono ?_⟩;rintro _ w7 ⟨rfl,c⟩;obtain rfl:w6=w7:=c.symm;refine⟨_,I,WV _ _,λu=>Lx u b m0 m1 F s xs vn (jJ f _)/\az [b] w u,λu h=>⟨I,h.1,h.2⟩,λw9 fm=>?_⟩;have z9:=fm.size;have o9:=o6.cn fm;have T:=h.o0 o9;refine⟨λk=>k=m,I,(JY T (by rcases agA xs bb.dft with h | _<;>omega)).mono ?_⟩;rintro _ dk ⟨rfl,c⟩;obtain rfl:w9=dk:=c.symm;obtain⟨x,g⟩:=lS t;obtain⟨ad,a1,a2,a3,_⟩:=pj T.sp g;refine⟨_,I,WV _ _,VX _ _,λhb=>⟨s,Mn T.lo.blk 1 I,s,Mn T.lo.blk 1 I,ad,a1,x.pa,a3,(exR T.sp T.fo _ x.pa).mono ?_⟩,λhb=>(nL T aM 26 bb.a).mono ?_⟩
  .rintro _ f ⟨rfl,c⟩;obtain rfl:w9=f:=c.symm;refine⟨_,I,WV _ _,VX _ _,(nL T _ 26 bb.a).mono ?_⟩;rintro _ F ⟨rfl,n,b⟩;refine⟨I,b.same C,Ht b z,?_,wk (BM o9) b⟩;have k:aaD xs (iv xs bb.dft) x.pa=AH xs (iv xs bb.dft) x.pa:=by rw[bL,DK,abr]
   rw[NY,wc g,<-k,show JL xs bb.dft=aF from hb,cr];exact n
  rintro _ f ⟨rfl,b,F⟩;refine⟨I,F.same C,Ht F z,?_,wk (BM o9) F⟩;rw[NY,show JL xs bb.dft=aM from hb,di];exact b
 .have hp:=UL
  have k:xN xs bb ks n=bad (VM (bb.ini=[])&&VM (1<Es ks)) 25 bb.a:=by unfold xN;rw[W Gn,K hp]
  rw[q0,show VM ((Es ks:Int)>1)=VM (1<Es ks)from tK.2 J];refine(nL y _ 25 bb.a).mono ?_;rintro _ s ⟨rfl,f,b⟩;exact⟨I,b.same C,I,by rw[k];exact f,wk (BM p) b⟩
 .have hp:=UL
  have e:=aO e;have k:xN xs bb ks n=bad (zq bb.ini ks) 25 bb.a:=by unfold xN;rw[W Gn,W hp,K J]
  refine(nL y _ 25 bb.a).mono ?_;rintro _ s ⟨rfl,f,b⟩;exact⟨I,b.same C,I,by rw[k];exact f,wk (BM p) b⟩
 have hp:=UL
 have e:=aR e;have s:xN xs bb ks n=bad (VM (bb.ini=[])) 25 bb.a++bad (VM (Z8 ks=0)) 26 bb.a:=by unfold xN;rw[W Gn,W hp,W J]
 rw[q0];refine(nL y _ 25 bb.a).mono ?_;rintro _ T ⟨rfl,b,f⟩;have x:=f.size;have w:((kids.n:Int)==0)=VM (Z8 ks=0):=by rw[q,bL];simp
 rw[w];refine⟨I,f.same C,(nL b _ 26 bb.a).mono ?_⟩;rintro _ iz ⟨rfl,F,k⟩;exact⟨I,k.same C,I,by rw[s,fZ];exact F,wk (wk (BM p) f) k⟩
def adu u l:∃y a,(av 72 1 #[.mk 0 l.v]).run ar u=.ok (Sl.v y) a/\az [] u a/\aB JZ 1 a (λ_=>True) y [l]:=by
 obtain⟨y,a,k,b,k3,_⟩:=kD (P:=ar) (t:=72) (e:=24) (i:=Tryz.t24) (z:=Sl.nil.v) (w:=u) (F:=λ_=>False) (vs:=[l.v]) (parts:=#[.mk 0 l.v]) (len:=1) (xs:=[l]) (r:=JZ) (size:=1) D D I I Z I I Z Z uC ⟨⟨I,I⟩,trivial⟩;exact⟨y,a,k,k3,(b.slice uC).mono uC λ_ _=>trivial⟩
def adv u l m:∃y a,(av 72 2 #[.mk 0 l.v,.mk 1 m.v]).run ar u=.ok (Sl.v y) a/\az [] u a/\aB JZ 1 a (λ_=>True) y [l,m]:=by
 obtain⟨y,a,k,b,k3,_⟩:=kD (P:=ar) (t:=72) (e:=24) (i:=Tryz.t24) (z:=Sl.nil.v) (w:=u) (F:=λ_=>False) (vs:=[l.v,m.v]) (parts:=#[.mk 0 l.v,.mk 1 m.v]) (len:=2) (xs:=[l,m]) (r:=JZ) (size:=1) D D I I Z I I Z Z uC ⟨⟨I,I⟩,⟨I,I⟩,trivial⟩;exact⟨y,a,k,k3,(b.slice uC).mono uC λ_ _=>trivial⟩
def VD:∀D {w:aw} {x:Nd} {c:aJ} {f:Ft} {n:Nat},pv aM D w G x c->(∀k,G k->k≠b)->Lx w b m0 m1 F s xs vn f->n+j7 x<=(Z8 xs)->lF x<=8388608->
  aA ar 82 #[ah (Hg ⟨b,0,ZQ⟩),ai c.toArray,O U n] w λr w'=>r=ao (O U ((n+j7 x:Nat):Int))/\Lx w' b m0 m1 F s xs vn (jJ f (S2 xs vn n x))/\az [b] w w'
 | 0,_,_,_,_,_,h,_,_,_,_=>h.elim
 | D+1,w,.mk h i,c,f,n,M,hG,j,hn,N=>by
  have E:=M;obtain⟨A,H,mv,kids,L,⟨x,B,q⟩,Q⟩:=M;have hk:=Q.1;have x:=x.1;have B:=B.1;have q:=q.1;clear Q;dsimp only[Nd.kids,Nd.b]at hk L x B q;subst L;rw[j7]at hn;rw[lF]at N;have Y:=N;unfold uS at Y;have am:=fh h.en;have xP:=fh h.lv;have F7:=hk.len;have Ez:=q.len;have Aj:=j.ln;have S:=q.cap;have V:=q.big;have W:=sU i;refine ret (arC ?_);intro k0 P Q dL m;have z0:=m.size;have H3:=j.lo.lt;have yz:k0≠b:=J
  have tr:∀{u v:aw},az [b] w u->az [b] u v->az [b] w v:=λj g=>wk j g;refine(xYL ((ck aM (D+1)).keep E λk hk T=>m.block k T R) hG (j.o0 m) (n:=n) J).mono ?_;rintro _ w1 ⟨rfl,h1,z⟩;have z1:=z.size;have o1:=tr (BM m) z;obtain⟨y,w2,p1,t,p3⟩:=adv w1 A H;have z2:=t.size;have K:=o1.cn t;have row:∀{u:aw} {sl:Sl} {o:X Ac},aB (pI aM) 9 w G sl o->az [b] w u->aB (pI aM) 9 u G sl o:=λhs hO=>Aw (cN aM) Z hs hO λk hk _ hm=>hG k hk RD;refine⟨I,z.same C,y,w2,p1,t.same C,(PI (l:=[(A,h.en),(H,h.lv)]) p3 (λp l=>?_) ?_ hG (h1.o0 t)).mono ?_⟩
  .simp only[aZ,bB,cE]at l;rcases l with rfl | rfl
   .exact row x K
   exact row B K
  .unfold lO;simp;omega
  rintro _ w3 ⟨rfl,h3,db⟩;have z3:=db.size;have o3:=tr K db;have G:lO [(A,h.en),(H,h.lv)]=h.en++h.lv:=by unfold lO;simp
  rw[G]at h3;refine⟨I,db.same C,λkv aC u=>∃g:Nat,aC=(g:Int)/\kv+g=Z8 h.mv/\g<=Z8 h.mv/\Lx u b m0 m1 F s xs vn (jJ f (xN xs h i n++(lM xs vn (h.en++h.lv)++(h.mv.take g).flatMap (EP xs vn))))/\az [b] w u/\P.heap.size<=u.heap.size,Z8 h.mv,
   ⟨0,I,J,bh _,by rw[ci,tP,bD,fZ];exact h3,o3,J⟩,?_⟩
  rintro kv _ w4 ⟨g,rfl,vD,hj,h4,o4,z4⟩;refine⟨λv=>?_,λv=>?_⟩
  .have v:=aO v;obtain⟨ad,a,ds,a1,y,a3,a4,a5,a6⟩:=(Aw (iL aM) Z q o4 λk hk _ hm=>hG k hk RD).get (bc g) J;rw[aW]at y;obtain⟨gc,F,tg,rfl,e,w,pO⟩:=a6;obtain⟨gs,rfl⟩:=dM e;have w:=w.1;have pO:=pO.1;have aT:=qG (bA y);unfold BL at aT;have bV:=fh a.acts;have K6:=Cn a.tg;have Y9:=h4.lo.lt;refine⟨ad,a1,_,_,_,_,_,_,_,_,gs,_,F,tg,_,a5,λk3 w5 yw tD s=>?_⟩;have z5:=s.size;have h5:=h4.o0 s;have aS:k3≠b:=J
   refine(nL h5 (JM a) 28 a.a).mono ?_;rintro _ w6 ⟨rfl,h6,f⟩;have z6:=f.size;obtain⟨d,bv⟩:=e;refine⟨I,f.same C,(Hu d ((lw aM d).keep bv λk hk T=>?_) hG h6).mono ?_⟩
   .exact(f.block k J Kv).trans (s.block k T R)
   rintro _ w7 ⟨rfl,h7,ga⟩;have z7:=ga.size;obtain⟨y8,w8,q1,d,q3⟩:=adu w7 F;have z8:=d.size;have s7:az [b] w5 w7:=wk f ga;have s8:az [b] w4 w8:=(wk (BM s) s7).cn d;refine⟨I,ga.same C,y8,w8,q1,d.same C,(PI (l:=[(F,a.acts)]) q3 (λp l=>?_) ?_ hG (h7.o0 d)).mono ?_⟩
   .simp only[aV]at l;subst l;exact Aw (cN aM) Z w s8 λk hk _ hm=>hG k hk RD
   .unfold lO;simp only[yE,tP,bD];omega
   rintro _ w9 ⟨rfl,h9,fm⟩;have z9:=fm.size;have G:lO [(F,a.acts)]=a.acts:=by unfold lO;simp
   rw[G]at h9;refine⟨I,fm.same C,λdk dS=>⟨λk=>k=k3,I,?_⟩⟩;have EW:=dS.size;have Ey:az [b] w4 dk:=(wk s8 fm).cn dS;refine(abJ (h9.o0 dS) (Aw cx Z pO Ey λk hk _ hm=>hG k hk RD) J).mono ?_;rintro _ dz ⟨rfl,p⟩;have CA:=p.size;refine⟨_,I,p.same C,VI p,(nL ((h9.o0 dS).o0 p) _ 27 a.a).mono ?_⟩;rintro _ eF ⟨rfl,xi,dV⟩;have bY:=dV.size;refine⟨I,dV.same C,Ht dV aS,kv-1,J,g+1,TE,J,J,?_,tr o4 (wk (Ey.cn p) dV),J⟩;have e1:(h.mv.take (g+1)).flatMap (EP xs vn)=(h.mv.take g).flatMap (EP xs vn)++EP xs vn a:=by
    rw[bq,y,lI];simp
   have e2:xN xs h i n++(lM xs vn (h.en++h.lv)++((h.mv.take g).flatMap (EP xs vn)++EP xs vn a))=(xN xs h i n++(lM xs vn (h.en++h.lv)++(h.mv.take g).flatMap (EP xs vn)))++EP xs vn a:=by simp only[be]
   rw[e1,e2,fZ,EP,fZ,fZ,fZ];exact xi
  have v:=aR v;have lD:g=Z8 h.mv:=J
  subst lD;rw[br (aX _)]at h4;refine⟨λkv a aC u=>∃g:Nat,aC=(g:Int)/\kv+g=Z8 i/\g<=Z8 i/\a=((n+1+dW (i.take g):Nat):Int)/\Lx u b m0 m1 F s xs vn (jJ f (xN xs h i n++(lM xs vn (h.en++h.lv)++(h.mv.flatMap (EP xs vn)++rR xs vn (n+1) (i.take g)))))/\az [b] w u/\P.heap.size<=u.heap.size,Z8 i,
   ⟨0,I,J,bh _,TE,by rw[ci,rR,bD];exact h4,o4,z4⟩,?_⟩
  rintro kv _ _ eM ⟨g,rfl,vD,hj,rfl,p,d,Tu⟩;refine⟨λv=>?_,λv=>?_⟩
  .have v:=aO v;obtain⟨ad,y,ds,w,b,a3,a4,F,f⟩:=(Aw (ck aM D) Z hk d λk hk _ hm=>hG k hk RD).get (bc g) J;rw[aW]at b;have s:=f;obtain⟨a,rfl⟩:∃a,D=a+1:=by
    cases D with
    | zero=>exact f.elim
    | succ a=>exact⟨a,I⟩
   obtain⟨r7,r9,oe,gY,rfl,_⟩:=s;have yt:=oG b;have cC:=nK (bA b);refine⟨ad,w,_,_,_,_,r7,r9,oe,gY,_,F,λk7 fR co ce eH=>?_⟩;have dO:=eH.size;have cc:=p.lo.lt;refine(VD (a+1) ((ck aM (a+1)).keep f λk _ T=>eH.block k T R) hG (p.o0 eH) (n:=n+1+dW (i.take g)) J J).mono ?_;rintro _ gV ⟨rfl,xh,jt⟩;have el:=jt.size;have e:i.take (g+1)=i.take g++[y]:=by rw[bq,b];rfl
   refine⟨_,I,jt.same C,kv-1,J,g+1,TE,J,J,?_,?_,tr (d.cn eH) jt,J⟩
   .have:dW (i.take (g+1))=dW (i.take g)+j7 y:=by rw[e,zm,dW,dW];omega
    omega
   have k:xN xs h i n++(lM xs vn (h.en++h.lv)++(h.mv.flatMap (EP xs vn)++(rR xs vn (n+1) (i.take g)++S2 xs vn (n+1+dW (i.take g)) y)))=(xN xs h i n++(lM xs vn (h.en++h.lv)++(h.mv.flatMap (EP xs vn)++rR xs vn (n+1) (i.take g))))++S2 xs vn (n+1+dW (i.take g)) y:=by simp only[be]
   rw[e,DB,rR,rR,bD,k,fZ];exact xh
  have v:=aR v;have lD:g=Z8 i:=J
  subst lD;rw[br (aX _)]at p⊢;refine⟨?_,by rw[S2];exact p,d⟩;rw[j7];congr 2;omega
end
def sZ(c:Ch):Ft:=if(kf c).2≠0 then((kf c).2, -1)else jJ (0,0) (Fx c)
def agQ{w}{F}{D}{c}{vs}{cs}(i:ChR aM (D+1) w F c vs cs)(M:Ga c)(N:jZ c.vars+lF c.root<=8388608)(H:Er w)(L:Tb w):
  aA ar 34 #[ai (vs.v::cs).toArray] w λe V=>e=ao (ai #[O U (sZ c).1,O U (sZ c).2])/\az [] w V:=by
 have r:=i.root;obtain⟨o,z,mv,kids,E,_⟩:=i.root;subst E;refine ret (ary ?_);intro Q S w0 Y X ki ik j;have z0:=j.size;have keep:∀{u:aw},az [] w u->ChR aM (D+1) u F c vs (rz c.root.b.k c.root.b.nm c.root.b.ini c.root.b.dft o z mv kids c.root.b.a):=λs=>⟨i.vars.keep ec Z λk _ d=>s.block k d R,(ck aM _).keep i.root λk _ d=>s.block k d R⟩
 refine(afX (keep j) M N (H.only j) (L.only j)).mono ?_;rintro _ a ⟨⟨t,rfl,m,_⟩,l⟩;have z1:=l.size;have A:=j.cn l;refine⟨_,_,I,l.same C,λhc w2 B=>?_,λhc=>?_⟩
 .have hc:(kf c).2≠0:=R0
  unfold sZ;rw[K hc];exact⟨I,A.trans B λk hk=>.inr Mo⟩
 have hc:(kf c).2=0:=R0
 have ce:sZ c=jJ (0,0) (Fx c):=by unfold sZ;rw[W (λh=>h hc)]
 rw[ce];have m:=m hc;have dO:=agV hc;obtain⟨r3,bv,db⟩:=MapV.make (P:=ar) (mty:=149) (kv:=kS) (g:=gS) a;have fd:=bv.lt;refine⟨_,_,r3,db.same C,?_⟩;generalize a.alloc (.map #[] 0)=w3 at*
 obtain⟨r4,bV,dD⟩:=MapV.make (P:=ar) (mty:=149) (kv:=kS) (g:=gS) w3;have f5:=bV.lt;have z3:=db.size;refine⟨_,_,r4,dD.same C,?_⟩;intro b w5 hb pw dP vi;have z5:=dP.size;have o5:=((A.cn db).cn dD).cn dP;have cC:Lo w5 b a.heap.size w3.heap.size Sl.nil [] [] (0,0):=⟨vi,(((bv.only dD R).only dP R).ext λk=>I).le (aX _),((bV.only dP R).ext λk=>I).le (aX _),J,J⟩
 have cc:pv aM (D+1) w (λk=>k<w.heap.size) c.root (rz c.root.b.k c.root.b.nm c.root.b.ini c.root.b.dft o z mv kids c.root.b.a):=(ck aM _).mono ((ck aM _).inHeap r) λk hk=>hk.2;have bY:aB MR 3 w (λk=>k<w.heap.size) vs c.vars:=(i.vars.1.inHeap ec Z).mono ec λk hk=>hk.2;refine(afg (D+1) ((ck aM _).keep cc λk hk d=>o5.block k d R) (λk hk=>J) cC (Vf _ _ _ _ _ _) J TU).mono ?_;rintro _ w6 ⟨rfl,s6,am,eQ,m6⟩;have z6:=m6.1.size;rw[cb]at am;have co:=(O4 0 (-1) 0 c.root).symm;rw[co]at am;have p6:aE (λk=>a.heap.size<=k) w w6:=(o5.p0).trans m6.1 λk hk=>.inl (hk.elim (λh=>J) λh=>Rl);have el:cF [Q,S] w5 w6:=m6.1.same λx i=>by
  simp at i;rcases i with rfl | rfl
  .exact⟨J,λh=>h.elim J λh=>Rl⟩
  exact⟨J,λh=>h.elim J λh=>Rl⟩
 have ge:=bY.len;have gE:=zC c.vars;refine⟨I,el,_,s6,_,_,_,am.blk,λkv gG p gO q x y u=>∃(e:Nat) (f:Ft),gG=(e:Int)/\kv+e=Z8 c.vars/\e<=Z8 c.vars/\p=Hg a.heap.size/\q=Hg w3.heap.size/\f=(x,y)/\Lo u b a.heap.size w3.heap.size gO ((od c).map λx:jo=>x.nm) ((O6 c).take e) f/\f=jJ (0,0) (wa [] (Bj c.root)++wa [] ((c.vars.take e).map λv=>(v.n,v.a)))/\aE (λk=>a.heap.size<=k) w u/\aE (λk=>k=b∨k=w3.heap.size) w6 u,Z8 c.vars,
  ⟨0,_,I,J,bh _,I,I,I,am,by rw[ci,gQ,wa,bD],p6,Jk _ _⟩,?_⟩
 rintro kv _ _ l2 _ _ _ w7 ⟨e,f,rfl,vD,hj,rfl,rfl,hf,aC,aS,p7,aT⟩;have z7:=aT.size;refine⟨λd=>?_,λpf=>?_⟩
 .have d:=aO d;obtain⟨ad,v,y,w,f,a3,a4,x,n⟩:=(Rx ec Z bY p7 λk hk _=>J).get (bc e) J;rw[aW]at f;have n:y=[ae (T v.n),O U v.v,O U v.a]:=n;subst n;have zZ:=wi (bA f);have p:gS v.n:=by
   show (Z8 v.n)<=maxLen;have:maxLen=9223372036854775807:=I;omega
  have P:Z8 ((O6 c).take e)=e:=by rw[cf];unfold O6;rw[bQ];omega
  refine⟨ad,w,_,_,_,x,λk5 w8 mo Ae t re=>?_⟩;have z8:=t.size;have G:=aC.lt;have q:=abN (aC.o0 t) p v.a;rw[P]at q;refine q.mono ?_;rintro _ w9 ⟨rfl,h,g⟩;have z9:=g.size;have ev:(O6 c).take (e+1)=(O6 c).take e++[v.n]:=by
   rw[bq];unfold O6;rw[dr,f];rfl
  refine⟨I,g.same C,_,_,_,_,_,h.blk,kv-1,J,e+1,_,TE,J,J,I,I,I,by rw[ev];exact h,?_,(p7.cn t).trans (g.p (F:=λk=>a.heap.size<=k) λk hk=>.inl Z2) λk hk=>.inl hk,(aT.cn t).trans (g.p (F:=λk=>k=b∨k=w3.heap.size) λk hk=>.inl Mi) λk hk=>.inl hk⟩;rw[aS,<-fZ];have D:wa [] ((c.vars.take (e+1)).map λv=>(v.n,v.a))=wa [] ((c.vars.take e).map λv=>(v.n,v.a))++bad (!VM (v.n∈(O6 c).take e)) 24 v.a:=by
   rw[bq,f,cX,zo,cb];simp only[Option.toList,cu,gQ,wa,bD,mw];unfold O6;rw[<-lh];rfl
  rw[D,be]
 have pf:=aR pf;have lD:e=Z8 c.vars:=J
 subst lD;intro q g nS n0 n1;have EW:=g.size;have O:(O6 c).take (Z8 c.vars)=O6 c:=br (by unfold O6;rw[bQ];exact aX _);rw[O]at aC;rw[br (aX _)]at aS;have v:Lo q b a.heap.size w3.heap.size t ((od c).map λx:jo=>x.nm) (O6 c) f:=aC.gN g (by subst hf;exact nS);have p:=p7.trans (g.p (F:=λk=>a.heap.size<=k) λk hk=>.inl Mo) λk hk=>.inl hk;have D:aB AK 5 q (λk=>k<a.heap.size) t (od c):=by
  have n:az [] a w5:=(db.cn dD).cn dP;have b:=Aw ia Z ((m.sl.inHeap ia Z).mono ia (G:=λk=>k<a.heap.size) λk hk=>hk.2) n R;have c:=Rx ia Z (Rx ia Z b m6.1 λk hk _ h=>h.elim J λh=>Rl) aT λk hk _ h=>J
  exact Aw ia Z c g λk hk _ f=>by simp at f;omega
 have hX:Lx q b a.heap.size w3.heap.size (λk=>k<a.heap.size) t _ _ f:=⟨v,D,O2 c,by unfold od;rw[uz];exact dO,λk hk=>J⟩
 refine(VD (n:=0) _ ((ck aM _).keep cc λk hk d=>p.block k d J) (λk hk=>J) hX (by unfold od;rw[uz];omega) J).mono ?_;rintro _ dz ⟨rfl,T,y⟩;have CA:=y.size;have hg:jJ f (S2 (od c) (O6 c) 0 c.root)=jJ (0,0) (Fx c):=by
  rw[aS,<-fZ,be];rfl
 rw[hg]at T;refine⟨_,I,y.same C,_,_,_,_,_,T.lo.blk,λeF dV _=>⟨I,?_⟩⟩;have P:=(p.mono λk _ hk=>J).trans (y.p (F:=λk=>w.heap.size<=k) λk hk=>.inl Z2) λk hk=>.inl hk;exact(P.only λk hk=>hk).trans dV λk hk=>.inr Z2
def kJ(l:S):Ft:=if(fg l).2.1=0 then sZ (fg l).1 else(fg l).2
def oK(l:S):Ch:=if(kJ l).1=0 then(fg l).1 else ch0
def zE{w} l (B:Ga (fg l).1) (F:jZ (fg l).1.vars+lF (fg l).1.root<=8388608) (E:Er w) (A:Tb w):aA ar 6 #[ae (T l)] w λe r=>
  ∃(s:Sl) (d:aJ),e=ao (aj #[ai (s.v::d).toArray,ai #[O U (kJ l).1,O U (kJ l).2]])/\ChR aF 15 r (Fr w.heap.size) (oK l) s d/\az [] w r:=by
 refine iE (arx ?_);intro j m i Q N V P h;have z0:=h.size;refine(JR l (E.only h)).mono ?_;rintro _ t ⟨s,d,rfl,g,p⟩;have z1:=p.size;have o:=h.cn p;obtain⟨H,L,M,J,rfl,_⟩:=g.root;refine⟨s,_,_,_,_,H,L,M,J,_,_,_,I,p.same C,λS k3 G X Y yw tD c=>?_⟩;have z2:=c.size;have q:=o.cn c;have n:∀{u:aw},az [] t u->ChR aF 15 u (Fr i.heap.size) (fg l).1 s _:=fun{u} hO=>
  ⟨g.vars.keep ec Z λk _ b=>hO.block k b R,(ck aF 15).keep g.root λk _ b=>hO.block k b R⟩
 have f:∀{u v:aw},az [] w u->az [m,j] u v->az [] w v:=λy z=>y.trans z λx hx=>.inr Vv;refine⟨λa b u=>(a,b)=kJ l/\az [] t u/\G.heap.size<=u.heap.size,?_,λhc=>?_,λhc=>⟨?_,c,aX _⟩⟩
 .rintro a b w3 ⟨he,v,z3⟩;have e:(kJ l).1=a:=by rw[<-he]
  have e2:(kJ l).2=b:=by rw[<-he]
  refine⟨λhc w4 dD n1 n2 D n4 O n6=>⟨λk=>k=k3,I,?_,?_,λw5 dP=>⟨Sl.nil,_,by rw[e,e2],?_,f ((o.cn v).cn dD) dP⟩⟩,λhc w6 T n1 n2 D n4 O n6=>⟨λk=>k=k3,I,?_,?_,λw7 x=>⟨s,_,by rw[e,e2],?_,f ((o.cn v).cn T) x⟩⟩⟩
  .exact λa=>D a
  .exact λa=>O a
  .have hc:a≠0:=R0
   rw[oK];rw[e,W hc];exact⟨TG _ _ _ _ _ _,Ve Z w5 _⟩
  .exact λa=>D a
  .exact λa=>O a
  have hc:=R0
  rw[oK];rw[e,K hc];have a:=n (v.cn T);have ap:∀k,Fr i.heap.size k->k∉[m,j]:=λk b=>C
  have lo:=λk (b:i.heap.size<=k)=>(by omega:w.heap.size<=k)
  exact⟨(a.vars.keep ec Z λk b l=>x.block k l (ap k b)).mono ec lo,(ck aF 15).mono ((ck aF 15).keep a.root λk b l=>x.block k l (ap k b)) lo⟩
 .have hc:(fg l).2.1=0:=R0
  refine(agQ (D:=14) (n c).off B F (E.only q) (A.only q)).mono ?_;rintro _ w ⟨rfl,a⟩;have k:=a.size;refine⟨_,_,I,a.same C,λe b=>⟨?_,?_,by have:=b.size;omega⟩⟩
  .rw[kJ];rw[K hc]
  exact(c.cn a).trans b λx hx=>.inr IG
 rw[kJ];rw[W R0]
def VF:S:=[99,104,97,114,116,32,99,32,123,32,115,116,97,116,101,32,97,32,123,32,125,32,125]
def VG:S:=[99,104,97,114,116,32,99,32,123,32,105,110,105,116,105,97,108,32,97,59,32,115,116,97,116,101,32,97,32,123,32,111,110,32,120,32,45,62,32,99,59,32,125,32,125]
def J9:S:=[99,104,97,114,116,32,99,32,123,32,105,110,105,116,105,97,108,32,97,59,32,115,116,97,116,101,32,97,32,123,32,111,110,32,120,32,45,62,32,97,59,32,125,32,125]
def VH(l:S):L:=Qj (fg l).1&&atb (fg l).1
def amA:L:=VM (kJ VF=(25,6))&&VM (kJ VG=(27,31))&&VM ((kJ J9).1=0)&&VM ((fg J9).1.root.b.nm=[99])&&(VH VF&&VH VG&&VH J9)
def aaI:amA=aF:=D
def M2{l}(h:VH l=aF):Ga (fg l).1/\jZ (fg l).1.vars+lF (fg l).1.root<=8388608:=by
 rw[VH]at h;rw[H]at h;exact⟨ata h.1,aO h.2⟩
def aiT(w:aw)(E:Er w)(l:Tb w):aA ar 5 #[] w λe G=>e=ao (ak aF)/\az [] w G:=by
 refine ret (asT ?_);have p:=aaI;unfold amA at p;simp only[H]at p;obtain⟨⟨⟨⟨f,g⟩,h⟩,i⟩,⟨a,b⟩,c⟩:=p;have f:=aO f;have g:=aO g;have h:=aO h;have i:=aO i;have a:=M2 a;have b:=M2 b;have c:=M2 c;refine(zE VF a.1 a.2 E l).mono ?_;rintro _ w0 ⟨F,W,rfl,x,n⟩;obtain⟨J,M,N,L,rfl,_⟩:=x.root;have z0:=n.size;refine⟨F,_,_,_,_,J,M,N,L,_,_,_,I,λk0 k1 w1 Y X ki Z q=>?_⟩;have z1:=q.size;have o:=n.cn q;refine(zE VG b.1 b.2 (E.only o) (l.only o)).mono ?_;rintro _ w2 ⟨v,t,rfl,j,O⟩;obtain⟨Q,S,U,R,rfl,_⟩:=j.root;have z2:=O.size;refine⟨v,_,_,_,_,Q,S,U,R,_,_,_,I,O.same C,λk2 k3 w3 mE nT yw tD r=>?_⟩;have z3:=r.size;have m:=(o.cn O).cn r;refine(zE J9 c.1 c.2 (E.only m) (l.only m)).mono ?_;rintro _ w4 ⟨s,u,rfl,k,d⟩;obtain⟨z,B,D,A,rfl,_⟩:=k.root;have z4:=d.size;refine⟨s,_,_,_,_,z,B,D,A,_,_,_,I,d.same C,λk4 k5 w5 pV xA mo V P=>⟨?_,(m.cn d).cn P⟩⟩;have y:(oK J9).root.b.nm=[99]:=by unfold oK;rw[K h];exact i
 rw[y,show aq #[99]=T [99]from rfl,iC,f,g,h];rfl
end Go.Proofs.YtccbiehilmhodaaGreatDoor.Con
