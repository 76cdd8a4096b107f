import Derived.Test.YtfemabakfkliiaaGreatDoorQg7
set_option linter.defProp false
set_option linter.unusedSectionVars false
set_option linter.unusedSimpArgs false
set_option linter.unusedVariables false
set_option maxHeartbeats 4000000
set_option maxRecDepth 100000
open Bool renaming true->L,false->aL
open Option renaming some->aM,none->aaf
open List renaming length->I
open Go.Value renaming int->O,string->K,pointer->ae,agg->ah,tuple->ai,bool->aj
open Go.IntKind renaming i64->U,wrap->ar
open Go.Ending renaming returned->ak
open _root_.ByteArray renaming mk->ao
open _root_.Go.Proofs.Tryz renaming prog->Q
open Go.Instr renaming buildSlice->au
open Go renaming World->M,Value->aw,Calls->az
open Go.Kt renaming Only->Z,SliceF->aA,Cells->aB,OnlyP->aD,Blk->aF
open Go renaming World->M,Value->aw
namespace Go.Proofs.YtfemabakfkliiaaGreatDoor.Con
open Go Go.RowKit Go.Kt Go.Kt.V Go.Proofs.YtfemabakfkliiaaGreatDoor.Vc
section
def Up.bad{st d:St}{c b:Bool}{n g:Nat}(j:Up st c n d)(e:d.1=L)(k:b=L->c=L)(l:n<=g):Up st b g d:=by
 refine⟨?_,λf=>by rw[e]at f;cases f⟩;rw[e];refine Eq.symm (bT λhk=>?_);obtain⟨h,i,a⟩:=or3 (eF.2 hk).symm;have a:=aQ a;have:=j.w;rw[e,h,k i,bD (show ¬400<st.2+(n:Int) by omega)]at this;cases this
def zg:∀(l m:List Ac),jF (l++m)=jF l+jF m
 | [],m=>by rw[cb];show _=0+_;omega
 | a::l,m=>by rw[ca,jF,jF,zg l m];omega
def afL(a:Ac):ne (Ek a)=L:=by
 have:Ek a≠[]:=by unfold Ek;split<;>simp
 unfold ne;rw[bD this];rfl
def VB:∀l:List Ac,Lib.joinTail [32] ((l.map Ek).filter ne)=Ak l
 | []=>rfl
 | a::l=>by rw[bQ,gK (afL a),gJ,VB l,Ak]
def afM(x y:List (aH)):Lib.joinTail [32] (x++y)=Lib.joinTail [32] x++Lib.joinTail [32] y:=by
 unfold Lib.joinTail;rw[cp,Iv]
def al8(l:List Ac):ij ([123]::(l.map Ek++[[125]]))=A1 l:=by
 rw[rH X,gZ,afM,VB];rfl
def adu{d:M}{B:Nat}{s:Sl}{f:List (aH)}(n:Own ke 1 9 B d (λ_=>True) s f)(x:aH)(o:B<=d.heap.size)(q:I f<=1073741824):
  ∃y w,(au 32 1 #[.mk 0 (K (T x))]).run Q d=.ok (Sl.v y) w/\Z [] d w/\∃c a,(Builtin.append_ #[32,32] 32 #[Sl.v s,Sl.v y]).run Q w=.ok (Sl.v c) a/\
   Own ke 1 9 B a (λ_=>True) c (f++[x])/\∃b,Z b w a/\∀g,g∈b->s.a=aM ⟨g,0,aaf⟩/\B<=g:=by
 obtain⟨y,w,l,E,c,a,m,p,⟨b,R,j⟩,_⟩:=jV (P:=Q) (t:=32) (ty:=32) (e:=9) (i:=Tryz.t9) (bytes:=16) (size:=1) (v:=K (T x)) (x:=x) (G:=λ_=>False) aaz aaz rfl rfl rfl rfl X X X cY n o rfl rfl (λk hk _=>hk.elim) J;exact⟨y,w,l,E,c,a,m,p.mono cY λk _=>trivial,b,R,λg h=>⟨(j g h).1,(j g h).2.1⟩⟩
def _root_.Go.Kt.Own.Xs{w d:M}{B b:Nat}{s:Sl}{f:List (aH)}(h:Own ke 1 9 B w (λ_=>True) s f)(r:Z [b] w d)(t:b<B):Own ke 1 9 B d (λ_=>True) s f:=by
 rcases h with⟨rfl,rfl⟩ | ⟨g,a,tail,i,j,l,m,n,o,q,p⟩
 ·exact .inl ⟨rfl,rfl⟩
 have e:∀{b:List (aH)} {a:List (aI)},qf ke 1 w (λk=>True/\k≠g) b a->qf ke 1 d (λk=>True/\k≠g) b a:=fun{b}=>by
  induction b with
  | nil=>intro a h;cases a with | nil=>trivial | cons _ _=>exact h
  | cons x b e=>intro a h;cases a with | nil=>exact h | cons c a=>exact⟨h.1,e h.2⟩
 exact .inr ⟨g,a,tail,i,j,r.blk l aba,m,n,o,q,e p⟩
def VC{a:Type}{p:a->Bool}{s:List a}{j:Nat}(h:s.all p=L):(s.take j).all p=L:=by
 rw[dF]at h⊢;exact λx b=>h x (List.mem_of_mem_take b)
def Kv(w:List (aH))(x:aH):((w++[x]).map λl=>I l+1).sum=(w.map λl=>I l+1).sum+(I x+1):=by
 rw[cp,YN];simp
section
variable {w0 w:M} {b:Nat} {l:aH} {st:St}
def Hx(h:Qz w0 b w l st){F:aJ}{s:Sl}{c:List Ac}(hx:aA (qv aL) 9 w F s c)(g:∀k,F k->k<w0.heap.size)(m:∀a,a∈c->Vm a)(o:jF c<=16777216)(E:Er w0)(j:Tb w0):
  az Q 176 #[rp b,s.v] w λe f=>∃t d,e=ak (K (T t))/\I t<=16405*jF c/\(d.1=aL->t=if c=[]then[]else A1 c)/\Up st (c.all kQ) (I c) d/\Qz w0 b f l d/\Mw L b w f:=by
 refine iW (alx _ _ ?_);have i:=hx.len;have z:=gI c;refine⟨λhc=>?_,λhc=>?_⟩
 ·have hc:s.n=0:=by have:((s.n:Int))=0:=abv;omega
  have:c=[]:=bP J;subst this;exact⟨[],st,rfl,bm _,λ_=>(aV rfl).symm,h.up0,h,Mw.refl _ _ _⟩
 have D:c≠[]:=λe=>by
  subst e;have:s.n=0:=i;rw[this]at hc;exact absurd hc X
 obtain⟨q,sl,C,N⟩:=h.set;refine⟨st.2,Blk.dM C 3 rfl,b,3,_,_,Vz b 3,C,aaV,λw1 P H=>⟨_,Blk.dM H 3 rfl,(PT (q:=q) (sl:=sl) (wr:=st.1) (ac:=ar U (st.2+(s.n:Int))) H _).mono ?_⟩⟩;rintro _ p ⟨rfl,R,W⟩;have r:Up st L (I c) (st.1||!decide (ar U (st.2+(s.n:Int))<=400),ar U (st.2+(s.n:Int))):=by
  cases e:st.1
  ·have:=h.i e;have b:ar U (st.2+(s.n:Int))=st.2+I c:=by rw[i];exact fe J J
   rw[b];refine⟨?_,λ_=>rfl⟩;rw[e];by_cases a:st.2+(I c:Int)<=400
   ·rw[bE a,bD J];rfl
   rw[bD a,bE J];rfl
  exact⟨by rw[e];rfl,λa=>by cases a⟩
 obtain⟨v,yu⟩:=N p _ (P.trans R λx hx=>.inl hx) W λe=>r.le (λe=>(h.i e).1) e;generalize (st.1||!decide (ar U (st.2+(s.n:Int))<=400),ar U (st.2+(s.n:Int)))=xC at*
 have t:=v.lb;have u:∀k,Bu p b k->k<p.heap.size:=λk hk=>(v.bu hk).2;obtain⟨q3,w3,V,S,B,_⟩:=Fy p [[123]] (n:=1) (parts:=#[.mk 0 (K (T [123]))]) rfl rfl X X X;have Y:=(v.z L).q S;refine⟨rfl,q3,w3,V,λA f=>∃w d,Own ke 1 9 p.heap.size f (λ_=>True) A w/\I w<=16777217/\(w.map λl=>I l+1).sum<=2+16401*jF c/\(d.1=aL->w=[123]::c.map Ek)/\Up xC (c.all kQ) 0 d/\Zq L w0 p b f l d [],?_,?_⟩
 ·rintro A w4 ⟨w,G,a,aS,aT,n,l,q⟩;have z4:=q.m.o.size;obtain⟨y,w5,e5,eW,s6,w6,e6,b,gs,dY,xG⟩:=adu a [125] z4 J;refine⟨y,w5,e5,s6,w6,e6,?_⟩;have t6:=(q.q eW).row t u (dY.p (F:=λk=>p.heap.size<=k) λx hx=>.inl (xG x hx).2);have S7:=Kv w [125];have mf:=j8 (w++[[125]]);have am:I ([125]:aH)=1:=rfl;refine(Dx b J ab8).mono ?_;rintro _ w7 ⟨rfl,T⟩;have s:=t6.row t u T;have aC:1<=jF c:=by
   have:1<=I c:=lS.2 D;omega
  refine⟨_,rfl,ij (w++[[125]]),G,rfl,J,λe=>?_,(r.tr l).cg aaV aaV,s.toQz,yu.trans s.m⟩;rw[aR D,n e];exact al8 c
 refine⟨λnv A co f=>∃(n:Nat) (w:List (aH)) (d:St),co=n/\n<=I c/\nv=(I c)-n/\Own ke 1 9 p.heap.size f (λ_=>True) A w/\I w<=n+1/\(w.map λl=>I l+1).sum<=2+16401*jF (c.take n)/\(d.1=aL->w=[123]::(c.take n).map Ek)/\Up xC ((c.take n).all kQ) 0 d/\Zq L w0 p b f l d [],
  (I c),⟨0,[[123]],xC,rfl,bm _,rfl,B,aX _,aX _,λ_=>rfl,v.up0,Y⟩,?_⟩
 rintro nv l4 _ w7 ⟨n,w,T,rfl,hj,rfl,q,cc,bY,bV,Rh,t7⟩;have z7:=t7.m.o.size;have Xu:jF c=jF (c.take n)+jF (c.drop n):=by rw[<-zg,fb]
 refine⟨λhc=>?_,λhc=>?_⟩
 ·have bW:(n:Int)<s.n:=aN hc;have eQ:aA (qv aL) 9 w7 F s c:=SliceF.keep (dy aL) hx X λk hk _=>h.arg t7.toQz (g k hk);obtain⟨ad,a,cs,g1,g2,g3,g4,g5,g6⟩:=eQ.get (aZ n) bW;rw[aW]at g2;have ha:=bB g2;have nY:c.take (n+1)=c.take n++[a]:=by
   rw[bq,g2];rfl
  have dO:jF (c.take (n+1))=jF (c.take n)+FC a:=by
   rw[nY,zg];show _+(FC a+0)=_;omega
  have fd:jF c=jF (c.take (n+1))+jF (c.drop (n+1)):=by rw[<-zg,fb]
  obtain⟨xc,rfl,cC⟩:=g6;obtain⟨xl,rfl⟩:=fp cC;refine⟨ad,g1,_,_,_,_,_,_,_,_,_,g5,λk5 w8 rk Eb fy=>?_⟩;have t8:=t7.al fy rk Eb;obtain⟨q8,f7,xE,_⟩:=t8.toQz.set;refine⟨T.1,Blk.dM xE 2 rfl,λhw=>?_,λhw=>?_⟩
  ·have a:Zq L w0 p b w8 l T []:=⟨t8.toQz,t8.m,λk hk=>agF⟩
   have s:=q.keep cY λk hk bW=>fy.block k bW aaV;exact⟨w,T,s,J,J,λe=>absurd (hw.symm.trans e) X,Rh.bad hw VC (aX _),a⟩
  refine(al7 t8.toQz ((dy aL).keep ⟨_,rfl,cC⟩ λk _ bW=>fy.block k bW aaV) g (m a ha) (by have:=qR ha;omega) E j).mono ?_;rintro _ w9 ⟨tx,iN,rfl,iS,gO,s,h9,b⟩;have t9:=t8.nx h9 b;have gT:∀gG,l4.a=aM ⟨gG,0,aaf⟩->p.heap.size<=gG/\gG<w7.heap.size:=λgG l=>by
   rcases q with⟨rfl,_⟩ | ⟨y,x,G,a,e,k,_⟩
   ·cases l
   rw[a]at l;injection l with l;injection l with l;subst l;exact⟨e,k.lt⟩
  have ip:Own ke 1 9 p.heap.size w9 (λ_=>True) l4 w:=by
   have a:=q.keep cY (w':=w8) λk hk bW=>fy.block k bW aaV;refine(a.mono (G:=λ_=>True) cY λ_ _=>trivial).Xs b.only1 t
  obtain⟨y,dA,iD,dR,D5,dL,iF,Yj,gs,eh,xG⟩:=adu ip tx (bH z7 (bH fy.size b.o.size)) J;have f8:=t9.q dR;have gE:=f8.row t u (eh.p (F:=λk=>p.heap.size<=k) λx hx=>.inl (xG x hx).2);have D5:cr [k5] dA dL:=eh.same λx hx=>by
   have:=(f8.k x ab5).1;refine⟨this,λa=>?_⟩;have:=(gT x (xG x a).1).2;simp only[aP]at hx;omega
  have S7:=Kv w tx;refine⟨_,rfl,t8.sm b aaV,y,dA,iD,t9.sq dR aaV,_,dL,iF,D5,(I c)-(n+1),J,n+1,w++[tx],iN,aaA,J,rfl,Yj,ab8,?_,λe=>?_,(Rh.tr s).cg ?_ rfl,⟨gE.toQz,gE.m,λk hk=>agF⟩⟩
  ·rw[S7,dO];have:16400+I a.n+1<=16401*FC a:=by unfold FC;omega
   omega
  ·obtain⟨a,k,_⟩:=s.ok e;rw[bV a,gO k,nY,cp];rfl
  rw[nY,iK];simp
 have a:¬(n:Int)<s.n:=aQ hc;have l:n=I c:=J
 subst l;rw[bp (aX _)]at bY bV Rh;exact⟨w,T,q,J,bY,bV,Rh,t7⟩
end
def ar8{w:M}{F:aJ}{s:Sl}{a:List (aH)}(h:aA ke 1 w F s a)(p:aH)(l:I (Lib.join a p)<=140737488355328)(n:I a<=140737488355328):
  az Q 204 #[s.v,K (T p)] w λe c=>e=ak (K (T (Lib.join a p)))/\Z [] w c:=by
 have f:=h.len;have q:=h.cap;obtain⟨b,sn,sc⟩:=s;dsimp only at f q;subst f;cases a with
 | nil=>
  refine(Tryz.strings_Join_none b sc (T p) w).mono ?_;rintro _ d ⟨rfl,rfl⟩;exact⟨rfl,Only.refl _ _⟩
 | cons x a=>
  obtain⟨s,t,g,u,A,j,i⟩:=h.at_ 0 x rfl;have g:b=aM s:=g;unfold ke at i;subst i g;have d:=j 0 _ rfl;have S:s.spot=aaf:=by
   unfold World.cell? at d;split at d
   ·split at d
    ·cases d
    rename_i x;have e:((s.add (0*1)).add 0).spot=s.spot:=rfl;rw[e]at x;rcases hb:s.spot with _|v
    ·rfl
    rw[hb]at x;simp at x
   cases d
  obtain⟨k,o,sp⟩:=s;dsimp only at S;subst S;have W:k<w.heap.size:=by
   have e:((Addr.add ⟨k,o,aaf⟩ (0*1)).add 0:Addr)=⟨k,o,aaf⟩:=by simp[Addr.add]
   rw[e]at d;refine bT λn=>?_;unfold World.cell? at d;rw[fI abQ]at d;cases d
  have:=Tryz.strings_Join k o sc ((x::a).map T) (T p) w (λm y r=>by
   rw[cN,gz]at r;obtain⟨z,v,rfl⟩:=r;obtain⟨s,t,g,u,A,j,i⟩:=h.at_ m z v;unfold ke at i;subst i;cases g;have:=j 0 _ rfl;have e:((Addr.add ⟨k,o,aaf⟩ (m*1)).add 0:Addr)=⟨k,o+m,aaf⟩:=by simp[Addr.add]
   rw[e]at this;exact this) W aee aee (by
   rw[fW];have:((λx:aK=>x.data.toList)∘T)=id:=rfl;rw[this,Th];exact l)
  rw[bJ]at this;refine this.mono ?_;rintro _ C ⟨rfl,B⟩;refine⟨?_,Only.below B⟩;rw[fW];have:((λx:aK=>x.data.toList)∘T)=id:=rfl;rw[this,Th]
def PX:∀l:List (aH),Lib.joinTail [44,32] l=PC l
 | []=>rfl
 | s::l=>by
  unfold Lib.joinTail;rw[bQ,eV];show[44,32]++s++Lib.joinTail [44,32] l=_;rw[PX l];rfl
def PY(s:aH)(l:List (aH)):I (Lib.join (s::l) [44,32])<=2*Ku (s::l):=by
 have h:∀l:List (aH),I (PC l)<=2*Ku l:=λl=>by
  induction l with
  | nil=>exact bm _
  | cons s l i=>
   unfold Ku at i⊢;rw[bQ,dc,PC,ba,ba,aO];omega
 rw[Lib.join_cons,PX,aO];have:=h l;have e:Ku (s::l)=(I s+1)+Ku l:=by unfold Ku;rw[bQ,dc]
 omega
def uw(l:List (aH)):I l<=Ku l:=by
 unfold Ku
 induction l with
 | nil=>exact bm _
 | cons s l i=>rw[bQ,dc,ba];omega
def Hy{s:aH}{l:List (aH)}(h:s∈l):I s+1<=Ku l:=by
 unfold Ku
 induction l with
 | nil=>simp at h
 | cons x l i=>
  rw[bQ,dc];rcases aY.1 h with rfl | h
  ·omega
  have:=i h;omega
def hdM(m:Mv):aH:=if m.k=1 then ij [JY,m.ev]else if m.k=3 then ij [mo,Lib.itoa m.wt]else lX
def gdM(m:Mv):aH:=if m.gd then 91::(A6 m.g++[93])else[]
def Tn(m:Mv):aH:=match m.tg with
 | []=>[]
 | s::l=>45::62::32::(s++PC l)
def Kw{n:Int}(h:ub n):I (Lib.itoa n)<=21:=Lib.itoa_length_le n h.1 h.2
def aaH(n:Int):ne (Lib.itoa n)=L:=by
 have:Lib.itoa n≠[]:=by
  unfold Lib.itoa;split
  ·simp
  rw[Lib.decDigits];split<;>simp
 unfold ne;rw[bD this];rfl
def VD{m:Mv}(h:pU m=L):ij [hdM m,gdM m,(if m.acts=[]then[]else A1 m.acts),Tn m]++[59]=Fs m:=by
 unfold pU at h;simp only[aU]at h;obtain⟨⟨⟨⟨⟨c,a⟩,d⟩,f⟩,g⟩,i⟩:=h;have b:hdM m=hdT m/\ne (hdM m)=L:=by
  unfold hdM hdT;by_cases k:m.k=1
  ·rw[aV k]at a;rw[aV k,aV k,rH X,gK (uv a),ff,gJ,oJ,bG];exact⟨rfl,rfl⟩
  rw[aR k,aR k];by_cases k3:m.k=3
  ·rw[aV k3,aV k3,rH X,gK (aaH _),ff,gJ,oJ,bG];exact⟨rfl,rfl⟩
  rw[aR k3,aR k3];exact⟨rfl,X⟩
 rw[rH b.2,b.1];unfold Fs;rw[bC];congr 1;have e:Lib.joinTail [32] ([gdM m,(if m.acts=[]then[]else A1 m.acts),Tn m].filter ne)=gdT m++((if m.acts=[]then[]else 32::A1 m.acts)++(match m.tg with
  | []=>[]
  | s::l=>32::45::62::32::(s++PC l))):=by
  have k:∀w:List (aH),Lib.joinTail [32] ((gdM m::w).filter ne)=gdT m++Lib.joinTail [32] (w.filter ne):=λw=>by
   unfold gdM gdT;cases m.gd
   ·simp only[qB,mc];rw[VA];rfl
   simp only[Gb];rw[gK (by rfl),gJ];rfl
  have j:∀w:List (aH),Lib.joinTail [32] (((if m.acts=[]then[]else A1 m.acts)::w).filter ne)=(if m.acts=[]then[]else 32::A1 m.acts)++Lib.joinTail [32] (w.filter ne):=λw=>by
   by_cases l:m.acts=[]
   ·rw[aV l,aV l,VA];rfl
   rw[aR l,aR l,gK (by rfl),gJ];rfl
  rw[k,j];congr 2;unfold Tn;cases m.tg with
  | nil=>rfl
  | cons s l=>
   rw[gK (by rfl),gJ,ff,oJ,bG]
 rw[e];simp only[bC]
 all_goals rfl
def mvB(m:Mv):((((if m.k=1 then dP m.ev else if m.k=3 then decide (0<=m.wt)else decide (m.k=2))&&((decide (m.ev=[])||(m.k==1))&&((m.wt==0)||(m.k==3))))&&(if m.gd then vU m.g else tj m.g))&&(m.tg.all dP&&m.acts.all kQ))=pU m:=by
 unfold pU;generalize (if m.gd then vU m.g else tj m.g)=A;generalize m.tg.all dP=B;generalize m.acts.all kQ=C;generalize dP m.ev=D;by_cases k:m.k=1
 ·rw[aV k,aV k,k];cases D<;>cases A<;>cases B<;>cases C<;>by_cases h:m.wt=0<;>simp[h]
 rw[aR k,aR k];by_cases k3:m.k=3
 ·rw[aV k3,k3];cases A<;>cases B<;>cases C<;>by_cases h:m.ev=[]<;>by_cases w:m.wt=0<;>by_cases p:0<m.wt<;>simp[w,h,p]<;>omega
 rw[aR k3];by_cases a:m.k=2
 ·rw[a];cases A<;>cases B<;>cases C<;>by_cases h:m.ev=[]<;>by_cases w:m.wt=0<;>simp[w,h]
 have:¬(1<=m.k/\m.k<=3):=J
 rw[bD this,bD a];simp
section
variable {w0 w:M} {b:Nat} {l:aH} {st:St}
def afO(h:Qz w0 b w l st){j:aJ}{m:Mv}{p:aI}(H:Iz aL w j m p)(F:∀k,j k->k<w0.heap.size)(f:mvN m)(G:El m<=16777216)(v:Er w0)(q:Tb w0):
  az Q 177 #[rp b,ah p.toArray] w λe a=>∃t d,e=ak (K (T t))/\I t<=16450*El m/\(d.1=aL->t=Fs m)/\Up st (pU m) (I m.acts) d/\Qz w0 b a l d/\Mw L b w a:=by
 obtain⟨R,V,i,rfl,r,B,o⟩:=H;obtain⟨S,rfl⟩:=fp r;have B:=B.1;have o:=o.1;have z:=G;unfold El at z;refine iW (aly _ _ _ _ _ _ _ _ _ _ _ _ _ _ ?_);intro g W D C A;have c:=(h.z L).al A D C;have u:=o.len;have P:=uw m.tg;refine⟨λN a=>∃hd d,N=T hd/\I hd<=30+I m.ev/\(d.1=aL->hd=hdM m)/\Up st (if m.k=1 then dP m.ev else if m.k=3 then decide (0<=m.wt)else decide (m.k=2)) 0 d/\Zq L w0 w b a l d [g],?_,λhc=>?_,λhc=>⟨λE=>?_,λE=>?_⟩⟩
 ·rintro _ w2 ⟨hd,uZ,rfl,yr,aS,am,t2⟩;refine(ma t2.toQz _).mono ?_;rintro _ w3 ⟨rfl,QO,u1,u2,u3⟩;have t:=t2.nx u2 u3;have aC:=am.tr u1;rw[show ao #[]=T []from rfl,iV]at aC;refine⟨rfl,t2.sm u3 aaV,λs1 a=>∃gt d,s1=T gt/\I gt<=16386/\(d.1=aL->gt=gdM m)/\Up QO (if m.gd then vU m.g else tj m.g) 0 d/\Zq L w0 w b a l d [g],?_,λY=>?_,λY=>?_⟩
  ·rintro _ w4 ⟨gt,Oi,rfl,dO,co,cc,t4⟩;refine⟨λnv eQ a=>∃(aT:Nat) (d:St),eQ=aT/\aT<=I m.tg/\nv=(I m.tg)-aT/\Up Oi ((m.tg.take aT).all dP) 0 d/\Zq L w0 w b a l d [g],I m.tg,⟨0,Oi,rfl,bm _,rfl,t4.toQz.up0,t4⟩,?_⟩;rintro nv _ w5 ⟨aT,cC,rfl,hj,rfl,bV,t5⟩;have bY:aA ke 1 w5 j i m.tg:=SliceF.keep cY o X λk hk _=>h.arg t5.toQz (F k hk);refine⟨λhc=>?_,λhc=>?_⟩
   ·have l:(aT:Int)<i.n:=aN hc;obtain⟨ad,x,p,n,b,g3,g4,w,e⟩:=bY.get (aZ aT) l;rw[aW]at b;unfold ke at e;subst e;have y:=Hy (bB b);refine⟨ad,n,_,w,(pj t5.toQz x J).mono ?_⟩;rintro _ w6 ⟨rfl,s,T,v2,k⟩;refine⟨_,rfl,t5.sm k aaV,(I m.tg)-(aT+1),J,aT+1,s,aaA,J,rfl,(bV.tr T).cg ?_ rfl,t5.nx v2 k⟩;rw[bq,b,iK];simp
   have nA:¬(aT:Int)<i.n:=aQ hc;have x:aT=I m.tg:=J
   subst x;rw[bp (aX _)]at bV;refine⟨λs4 a=>s4=T (Tn m)/\Zq L w0 w b a l cC [g],?_,λhc=>?_,λhc=>?_⟩
   ·rintro _ w7 ⟨rfl,t7⟩;refine(Hx t7.toQz (SliceF.keep (dy aL) B X λk hk _=>h.arg t7.toQz (F k hk)) F f.a J v q).mono ?_;rintro _ w8 ⟨w,f7,rfl,gE,fd,b,v2,v3⟩;have t8:=t7.nx v2 v3;have f8:I (Tn m)<=3+2*Ku m.tg:=by
     unfold Tn;cases hm:m.tg with
     | nil=>exact bm _
     | cons s l=>
      have:=PY s l;rw[Lib.join_cons,PX]at this;rw[ba,ba,ba];omega
    have mf:=j8 [hd,gt,w,Tn m];simp only[bQ,ft,dc,jU]at mf;have Q0:El m=(jF m.acts+Di m.g)+(Ku m.tg+(I m.ev+1)):=rfl;obtain⟨q9,w9,e9,s,_,gG⟩:=Fy w8 [hd,gt,w,Tn m] (n:=4) (parts:=#[.mk 0 (K (T hd)),.mk 1 (K (T gt)),.mk 2 (K (T w)),.mk 3 (K (T (Tn m)))]) rfl rfl X X J;have z9:=s.size;refine⟨_,rfl,t7.sm v3 aaV,q9,w9,e9,t8.sq s aaV,gG.mono ?_⟩;rintro _ dA ⟨rfl,k⟩;have l:=t8.q (vZ s k);have hU:=(aC.tr cc).tr (bV.tr b);refine⟨_,rfl,t8.sj z9 k aaV,abN,ij [hd,gt,w,Tn m]++[59],f7,adp,ab8,λe=>?_,hU.cg ?_ J,l.toQz,l.m⟩
    ·obtain⟨x5,x8,_⟩:=b.ok e;obtain⟨T,iD,_⟩:=bV.ok x5;obtain⟨x3,ip,_⟩:=cc.ok T;obtain⟨n,gT,_⟩:=u1.ok x3;obtain⟨x1,gO,_⟩:=am.ok n;rw[aS n,co T,fd e];refine VD ?_;obtain⟨_,y,_⟩:=hU.ok e;exact(mvB m).symm.trans y
    exact mvB m
   ·have b:m.tg≠[]:=λe=>by
     rw[e]at u;have:i.n=0:=u;rw[this]at hc;exact absurd hc X
    have w:I (Lib.join m.tg [44,32])<=2*Ku m.tg:=by
     cases k:m.tg with
     | nil=>exact absurd k b
     | cons s l=>exact PY s l
    refine(ar8 bY [44,32] J J).mono ?_;rintro _ y ⟨rfl,n⟩;refine⟨_,rfl,t5.sq n aaV,abN,?_,t5.q n⟩;rw[show ao #[45,62,32]=T [45,62,32]from rfl,fm];congr 1;unfold Tn;cases k:m.tg with
    | nil=>exact absurd k b
    | cons s l=>
     rw[Lib.join_cons,PX];rfl
   have b:m.tg=[]:=bP abO;refine⟨?_,t5⟩;unfold Tn;rw[b]
  ·refine(PU t.toQz ((jp aL).keep r λk hk _=>h.arg t.toQz (F k hk)) f.g J v q).mono ?_;rintro _ w ⟨rfl,e,n,s,b⟩;have l:=t.nx s b;have:=Hw m.g;refine⟨_,rfl,t.sm b aaV,abN,?_,91::(A6 m.g++[93]),e,?_,aba,λ_=>by unfold gdM;rw[aV Y],by rw[aV Y];exact n,l⟩
   ·rw[show ao #[91]=T [91]from rfl,fm,cJ,aO,bI];omega
   rw[show ao #[91]=T [91]from rfl,show ao #[93]=T [93]from rfl,fm,fm];rfl
  refine(PV t.toQz ((jp aL).keep r λk hk _=>h.arg t.toQz (F k hk))).mono ?_;rintro _ w ⟨rfl,e,l,n,b⟩;exact⟨rfl,t.sm b aaV,[],e,rfl,bm _,λ_=>by unfold gdM;rw[aR (by rw[Y];decide)],by rw[aR (by rw[Y];decide)];exact l,t.nx n b⟩
 ·have hk:m.k=1:=abv
  refine(pj c.toQz m.ev J).mono ?_;rintro _ y ⟨rfl,uZ,w,x,k⟩;have t:=c.nx x k;have s:=j8 [JY,m.ev];simp only[bQ,ft,dc,jU]at s;have hw:I JY=2:=rfl;obtain⟨q3,w3,l,b,_,Y⟩:=Fy y [JY,m.ev] (n:=2) (parts:=#[.mk 0 (K (T JY)),.mk 1 (K (T m.ev))]) rfl rfl X X J;have z3:=b.size;refine⟨_,rfl,c.sm k aaV,q3,w3,l,t.sq b aaV,Y.mono ?_⟩;rintro _ w4 ⟨rfl,e⟩;exact⟨_,rfl,t.sj z3 e aaV,_,uZ,rfl,J,λ_=>by unfold hdM;rw[aV hk],by rw[aV hk];exact w,t.q (vZ b e)⟩
 ·have w:m.k≠1:=abv
  have hk:m.k=3:=by simpa using E
  refine(ma c.toQz _).mono ?_;rintro _ w2 ⟨rfl,uZ,v1,v2,x⟩;have t:=c.nx v2 x;refine⟨rfl,c.sm x aaV,(BW m.wt f.w (q.only t.o)).mono ?_⟩;rintro _ w3 ⟨rfl,s⟩;have l:=t.q s;have Y:=j8 [mo,Lib.itoa m.wt];simp only[bQ,ft,dc,jU]at Y;have hw:I mo=5:=rfl;have L7:=Kw f.w;obtain⟨q4,w4,y,e,_,k⟩:=Fy w3 [mo,Lib.itoa m.wt] (n:=2) (parts:=#[.mk 0 (K (T mo)),.mk 1 (K (T (Lib.itoa m.wt)))]) rfl rfl X X J;have z4:=e.size;refine⟨_,rfl,t.sq s aaV,q4,w4,y,l.sq e aaV,k.mono ?_⟩;rintro _ w5 ⟨rfl,b⟩;exact⟨_,rfl,l.sj z4 b aaV,_,uZ,rfl,J,λ_=>by unfold hdM;rw[aR w,aV hk],by rw[aR w,aV hk];exact v1,l.q (vZ e b)⟩
 have b:m.k≠1:=abv
 have x:m.k≠3:=by simpa using E
 refine(ma c.toQz _).mono ?_;rintro _ w ⟨rfl,uZ,k,l,e⟩;have t:=c.nx l e;refine⟨rfl,c.sm e aaV,lX,uZ,rfl,by show 6<=_;omega,λ_=>by unfold hdM;rw[aR b,aR x],by rw[aR b,aR x];exact k,t⟩
end
def VE{w:M}{b:Nat}{q:Option Addr}{v c d:aw}(g:q=aaf∨q=aM ⟨b,0,aaf⟩)(h:aF w b 216 [ae q,v,c,d]):
  az Q 201 #[ae (aM ⟨b,0,aaf⟩)] w λe f=>e=ak (ai #[])/\Z [b] w f/\aF f b 216 [ae (aM ⟨b,0,aaf⟩),v,c,d]:=by
 refine ret (adg _ ?_);have a:w.shape? b=aM (216,4):=by
  unfold World.shape?;unfold aF at h;rw[h];rfl
 refine⟨q,Blk.dM h 0 rfl,λn=>?_,λn=>⟨q,Blk.dM h 0 rfl,?_⟩⟩
 ·have r:=Lib.run_to_unsafe (P:=Q) (src:=212) (dst:=293) w ⟨b,0,aaf⟩ (t:=214) (j:=Tryz.t214) aaz aaz aaz X a (by decide:(0:Nat)<4);have e:=Lib.run_from_unsafe (P:=Q) (src:=293) (dst:=212) w ⟨b,0,aaf⟩ (u:=214) (j:=Tryz.t214) aaz aaz aaz a aaz;exact⟨⟨ae (aM ⟨b,0,aaf⟩),rfl⟩,w,r,⟨ae (aM ⟨b,0,aaf⟩),rfl⟩,w,adk _ w,aM ⟨b,0,aaf⟩,w,e,b,0,_,_,rfl,h,aaV,λk i B=>⟨rfl,i,B⟩⟩
 rcases g with rfl | rfl
 ·cases n
 exact⟨aL,w,Lib.run_neq_ptr_same w _ (te:=214) (j:=Tryz.t214) aaz aaz,λe=>ad2,λ_=>⟨rfl,Only.refl _ _,h⟩⟩
section
variable {w0 w:M} {b:Nat} {l:aH} {st:St}
def aaI(h:Qz w0 b w l st)(m:aH)(p:I l+I m<=274877906944):az Q 170 #[ae (aM ⟨b,0,aaf⟩),K (T m)] w λe i=>
  e=ak (ai #[O U (I m:Int),.nilIface])/\Qz w0 b i (l++m) st/\Mw aL b w i:=by
 refine ret (adb _ _ ?_);obtain⟨q,sl,r,B,a⟩:=h.ex;refine(VE r B).mono ?_;rintro _ A ⟨rfl,c,z⟩;have D:=c.size;have C:=B.lt;have zO:Bf A (b+1) sl l:=a.keep λg hg d=>c.block g d (by have:=(a.lt hg).1;simp;omega);obtain⟨s,j,t,u,k3,f⟩:=BX zO m J J;have E:=k3.size;have v:aF j b 216 [ae (aM ⟨b,0,aaf⟩),sl.v,aj st.1,O U st.2]:=k3.blk z λe=>afc
 have F4:∀g,s.a=aM ⟨g,0,aaf⟩->b<g:=λg hg=>by
  rcases f with e | e
  ·rw[e]at hg;exact(zO.lt hg).1
  rw[e]at hg;injection hg with hg;injection hg with hg;omega
 refine⟨rfl,sl,Blk.dM z 1 rfl,s,j,t,b,1,_,_,rfl,v,aaV,λo R n=>?_⟩;have n:aF o b 216 [ae (aM ⟨b,0,aaf⟩),s.v,aj st.1,O U st.2]:=n;have y:aD (λk=>k=b∨(aL=aL/\Bu w b k)) w o:=((c.p (F:=λk=>k=b∨(aL=aL/\Bu w b k)) λx hx=>.inl (.inl ab5)).trans k3 λk hk=>.inl (.inr ⟨rfl,Ks B hk⟩)).trans (R.p (F:=λk=>k=b) λx hx=>.inl ab5) λk hk=>.inl (.inl hk);refine⟨by rw[cJ],⟨?_,h.lo,⟨_,_,.inr rfl,n,u.keep λg hg d=>R.block g d adW⟩,h.i,by rw[aO];exact p⟩,y,λk hk=>?_⟩
 ·refine⟨y.os.trans h.o.os,y.tape.trans h.o.tape,y.output.trans h.o.output,bH h.o.size y.size,λk hk _=>(y.block k (cH hk h.o.size) ?_).trans (h.o.block k hk aaV)⟩;rintro(e | ⟨_,e⟩)
  ·have:=h.lo;omega
  have:=(h.bu e).1;have:=h.lo;omega
 have e:=PS n hk;rcases f with b | b
 ·exact .inl (Ks B (b▸e))
 rw[b]at e;injection e with e;injection e with e;exact .inr ⟨rfl,J⟩
def Zq.sl{f g:Bool}{i d c:M}{a s:List Nat}(t:Zq f w0 i b w l st a)(e:Z [] w d)(m:Mw g b w c)(hk:∀k,k∈s->k∈a):cr s d c:=λx h=>
 (t.sm m hk x h).trans (t.sq e hk x h).symm
def PZ:∀d,Lib.repeatL [32,32] d=vV d
 | 0=>rfl
 | d+1=>by rw[Lib.repeatL,PZ d];rfl
def P0:∀d,I (vV d)=2*d
 | 0=>rfl
 | d+1=>by rw[vV,ba,ba,P0 d];omega
def A9(h:Qz w0 b w l st)(s:List (aH)){n:Nat}{parts:Array (Nat×aw)}(p:parts=(((s.map λx=>Value.string (T x)).zipIdx 0).map λx=>(x.2,x.1)).toArray)(o:I s=n)(j:0<n)(v:n*1<=16777216)(d:Nat)(hd:d<=12)(y:I (ij s)<=274877889536):
  ∃(q:Sl) (a:M),(au 32 n parts).run Q w=.ok q.v a/\Z [] w a/\az Q 132 #[rp b,O U (d:Int),q.v] a λe f=>e=ak (ai #[])/\Qz w0 b f (if st.1 then l else lA l (d,ij s)) st/\Mw aL b w f:=by
 obtain⟨q,a,g,u,E⟩:=kl w s p o j v;refine⟨q,a,g,E,?_⟩;have t:=(h.z L).q E;have m:=h.lb;have c:∀k,Bu w b k->k<w.heap.size:=λk hk=>(h.bu hk).2;refine ret (ak4 _ _ _ ?_);refine(PW t.toQz).mono ?_;rintro _ A ⟨rfl,rfl⟩;obtain⟨z,sl,B,_⟩:=t.toQz.set;refine⟨_,rfl,st.1,λ_=>Blk.dM B 2 rfl,λhc r i=>?_,λhc=>?_⟩
 ·simp only[aU,dr,dS]at hc;obtain⟨n,F⟩:=hc;have w:=t.q i;refine(Tryz.strings_Repeat (T [32,32]) d r J (by show 2*d<=_;omega)).mono ?_;rintro _ C ⟨rfl,q⟩;have W:=Only.below q;have x:=w.q W;have G:=u.keep cY (w':=C) λk hk l=>(i.cn W).block k l aaV;have H:=P0 d;refine⟨T (vV d),by rw[show(T [32,32]).data.toList=[32,32]from rfl,PZ],(Dx G J J).mono ?_⟩;rintro _ D ⟨rfl,P⟩;have e:=x.row m c P;refine⟨_,rfl,by rw[cJ,cJ];omega,by rw[fm,cJ,aO];omega,?_⟩;rw[show ao #[10]=T [10]from rfl,fm,fm,show(Addr.add ⟨b,0,aaf⟩ 0:Addr)=⟨b,0,aaf⟩from rfl];refine(aaI e.toQz _ ?_).mono ?_
  ·simp only[aO,ba,bK];omega
  rintro _ k ⟨rfl,b,d⟩;refine⟨_,⟨.nilIface,rfl⟩,rfl,rfl,?_,e.m.up.trans d⟩;rw[F,aR X];unfold lA lnT;rw[aR n];dsimp only;rw[bC]at b;exact b
 refine⟨rfl,?_,t.m.up⟩;have:(if st.1 then l else lA l (d,ij s))=l:=by
  cases e:st.1
  ·rw[e]at hc;have hc:16384<I l:=abv
   rw[aR X];unfold lA;rw[aV hc]
  rfl
 rw[this];exact t.toQz
def DB(h:Qz w0 b w l st)(d:Nat)(hd:d<=12)(word t:aH)(f:I word<=100)(c:I t<=274877880000):
  az Q 175 #[rp b,O U (d:Int),K (T word),K (T t)] w λe a=>e=ak (ai #[])/\Qz w0 b a (if st.1||decide (t=[])then l else lA l (d,ij [word,t])) st/\Mw aL b w a:=by
 refine ret (alw _ _ _ _ ?_);rw[show ao #[]=T []from rfl,iV];refine⟨λhc=>?_,λhc=>?_⟩
 ·have hc:t≠[]:=abv
  have g:=j8 [word,t];simp only[bQ,ft,dc,jU]at g;obtain⟨q,w,e,E,j⟩:=A9 h [word,t] (n:=2) (parts:=#[.mk 0 (K (T word)),.mk 1 (K (T t))]) rfl rfl X X d hd J;refine⟨q,w,e,j.mono ?_⟩;rintro _ i ⟨rfl,b,m⟩;refine⟨rfl,rfl,?_,m⟩;rw[bD hc,IV];exact b
 have hc:t=[]:=abv
 refine⟨rfl,?_,Mw.refl _ _ _⟩;rw[bE hc,oV,aV rfl];exact h
end
def wa:List Mv->Nat
 | []=>0
 | m::l=>El m+wa l
def wO(b:Nb):Nat:=((I b.nm+I b.ini)+(I b.dft+1))+((jF b.en+jF b.lv)+wa b.mv)
mutual
def lf:Nd->Nat
 | .mk b l=>wO b+iZ l
def iZ:List Nd->Nat
 | []=>0
 | x::l=>lf x+iZ l
end
def nR{m:Mv}:∀{l:List Mv},m∈l->El m<=wa l
 | [],h=>abS
 | x::l,h=>by
  rw[wa];rcases aY.1 h with rfl | h
  ·omega
  have:=nR h;omega
def kR:∀(l:List Mv),I l<=wa l
 | []=>bm _
 | m::l=>by
  have:=kR l;rw[wa,ba];unfold El;omega
def mH{x:Nd}:∀{l:List Nd},x∈l->lf x<=iZ l
 | [],h=>abS
 | y::l,h=>by
  rw[iZ];rcases aY.1 h with rfl | h
  ·omega
  have:=mH h;omega
def aaJ(x:Nd):1<=lf x:=by
 obtain⟨b,l⟩:=x;rw[lf];unfold wO;omega
def pG:∀(l:List Nd),I l<=iZ l
 | []=>bm _
 | x::l=>by
  have:=pG l;have:=aaJ x;rw[iZ,ba];omega
def zh{x:Nd}:∀{l:List Nd},EF l->x∈l->Fv x
 | [],_,h=>abS
 | y::l,n,h=>by
  rw[EF]at n;rcases aY.1 h with rfl | h
  ·exact n.1
  exact zh n.2 h
def xV(d:Nat)(x:Nd):∀l:List Nd,jP d (l++[x])=(jP d l&&lY d x)
 | []=>by simp[jP]
 | y::l=>by rw[ca,jP,jP,xV d x l,rq]
def Am(x:Nd):∀l:List Nd,rS (l++[x])=rS l+A7 x
 | []=>by simp[rS]
 | y::l=>by rw[ca,rS,rS,Am x l];omega
def An(d:Nat)(x:Nd):∀l:List Nd,qQ d (l++[x])=qQ d l++Fu d x
 | []=>by simp[qQ]
 | y::l=>by rw[ca,qQ,qQ,An d x l,bC]
def DC(x:Nb)(k:List Nd)(d:Nat):Bool:=(decide (x.ini=[])||dP x.ini)&&(x.en.all kQ&&(x.lv.all kQ&&(x.mv.all pU&&jP d k)))
def oK(l:aH)(p:Ln):dX l [p]=lA l p:=rfl
def VF(l:List Ac):A1 l≠[]:=by unfold A1;simp
def zi{d:St}{l f g:aH}{a b:List Ln}{xC:St}{c:Bool}{n:Nat}(j:Up xC c n d)(h:xC.1=aL->f=dX l a)(i:d.1=aL->g=dX f b):d.1=aL->g=dX l (a++b):=λe=>by
 rw[i e,h (j.ok e).1,gx]
def VG(D:Nat):Prop:=∀(w a:M) (b:Nat) (l:aH) (st:St) (F:aJ) (x:Nd) (s:aI) (d:Nat),Qz w b a l st->mz aL D a F x s->(∀k,F k->k<w.heap.size)->Fv x->lf x<=8388608->d<=12->Er w->Tb w->
 az Q 178 #[rp b,ah s.toArray,O U (d:Int)] a λe g=>e=ak (ai #[])/\∃c f,Up st (lY d x) (A7 x) c/\(c.1=aL->f=dX l (Fu d x))/\Qz w b g f c/\Mw aL b a g
section
variable {w0 w:M} {b:Nat} {l:aH} {st:St}
def VH{D:Nat}(N:VG D)(g:Qz w0 b w l st){F:aJ}{x:Nb}{r v mv kids:Sl}{s:List Nd}(G:Hj aL w F x r v mv)(hk:kx aL (mz aL D) 9 27 w F kids s)(h:∀k,F k->k<w0.heap.size)(m:nbN x)(p:EF s)(H:wO x+iZ s<=8388608)(d:Nat)(hd:d<=12)(E:Er w0)(i:Tb w0):
  az Q 135 #[rp b,ah (od x.k x.nm x.ini x.dft r v mv kids x.a).toArray,O U (d:Int)] w λe f=>e=ak (ai #[])/\∃a c,Up st (DC x s d) (PB x+rS s) a/\(a.1=aL->c=dX l (Ho d x++qQ d s))/\Qz w0 b f c a/\Mw aL b w f:=by
 have Y:=H;unfold wO at Y;have R:=kR x.mv;have P:=pG s;obtain⟨j,C,o⟩:=G;have j:=j.1;have C:=C.1;have o:=o.1;have hk:=hk.1;refine ret (ak6 _ _ _ _ _ _ _ _ _ _ _ ?_);intro q S B A z;have t:=(g.z aL).al z B A;rw[show ao #[]=T []from rfl,iV];refine⟨λf=>∃xC u,Up st (decide (x.ini=[])||dP x.ini) 0 xC/\(xC.1=aL->u=dX l (xS d x))/\Zq aL w0 w b f u xC [q],?_,λhc=>?_,λhc=>?_⟩
 ·rintro w2 ⟨uZ,l2,am,ye,t2⟩;refine(Hx t2.toQz (SliceF.keep (dy aL) j X λk hk _=>g.arg t2.toQz (h k hk)) h m.en J E i).mono ?_;rintro _ w3 ⟨l,QO,rfl,aS,aC,W,q3,m3⟩;have t3:=t2.nx q3 m3.up;refine⟨_,rfl,t2.sm m3 aaV,(DB t3.toQz d hd lJ l X J).mono ?_⟩;rintro _ w4 ⟨rfl,q4,m4⟩;have t4:=t3.nx q4 m4;have Zw:QO.1=aL->(if QO.1||decide (l=[])then l2 else lA l2 (d,ij [lJ,l]))=dX l2 (RY d x):=λe=>by
   rw[e,aC e];unfold RY;by_cases V:x.en=[]
   ·rw[aV V,aV V];rfl
   rw[aR V,aR V,bD (VF _),aR X,oK,rH X,gK (by rfl),ff,gJ,oJ,bG]
  generalize (if QO.1||decide (l=[])then l2 else lA l2 (d,ij [lJ,l]))=l4 at*
  refine⟨rfl,t3.sm m4 aaV,(Hx t4.toQz (SliceF.keep (dy aL) C X λk hk _=>g.arg t4.toQz (h k hk)) h m.lv J E i).mono ?_⟩;rintro _ w5 ⟨bY,bV,rfl,gG,f8,co,q5,m5⟩;have t5:=t4.nx q5 m5.up;refine⟨_,rfl,t4.sm m5 aaV,(DB t5.toQz d hd lK bY X J).mono ?_⟩;rintro _ w6 ⟨rfl,q6,m6⟩;have t6:=t5.nx q6 m6;have fd:bV.1=aL->(if bV.1||decide (bY=[])then l4 else lA l4 (d,ij [lK,bY]))=dX l4 (Tm d x):=λe=>by
   rw[e,f8 e];unfold Tm;by_cases V:x.lv=[]
   ·rw[aV V,aV V];rfl
   rw[aR V,aR V,bD (VF _),aR X,oK,rH X,gK (by rfl),ff,gJ,oJ,bG]
  generalize (if bV.1||decide (bY=[])then l4 else lA l4 (d,ij [lK,bY]))=l6 at*
  have eQ:=zi W ye Zw;have Oj:=zi co eQ fd;refine⟨rfl,t5.sm m6 aaV,λnv f7 f=>∃(aT:Nat) (a:St) (c:aH),f7=aT/\aT<=I x.mv/\nv=(I x.mv)-aT/\Up bV ((x.mv.take aT).all pU) ((x.mv.take aT).map λcc=>I cc.acts).sum a/\(a.1=aL->c=dX l6 ((x.mv.take aT).map λcc=>(d,Fs cc)))/\Zq aL w0 w b f c a [q],
   (I x.mv),⟨0,bV,l6,rfl,bm _,rfl,t6.toQz.up0,λ_=>rfl,t6⟩,?_⟩
  rintro nv _ w7 ⟨aT,cC,l7,rfl,hj,rfl,Rh,Mc,t7⟩;have gE:=o.len;have dO:aA (Iz aL) 13 w7 F mv x.mv:=SliceF.keep (mr aL) o X λk hk _=>g.arg t7.toQz (h k hk);refine⟨λhc=>?_,λhc=>?_⟩
  ·have bW:(aT:Int)<mv.n:=aN hc;obtain⟨ad,cc,cs,g1,g2,g3,g4,g5,g6⟩:=dO.get (aZ aT) bW;rw[aW]at g2;have Yd:=bB g2;have iS:=nR Yd;have nY:x.mv.take (aT+1)=x.mv.take aT++[cc]:=by
    rw[bq,g2];rfl
   have D9:=g6;obtain⟨gc,rM,tg,rfl,r1,r2,r3⟩:=D9;obtain⟨gl,rfl⟩:=fp r1;refine⟨ad,g1,_,_,_,_,_,_,_,_,_,_,_,_,_,g5,λk3 w8 xF sA fy=>?_⟩;have t8:=t7.al fy xF sA;refine(afO t8.toQz ((mr aL).keep g6 λk _ bW=>fy.block k bW aaV) h (m.mv cc Yd) J E i).mono ?_;rintro _ w9 ⟨w,iF,rfl,lE,iN,y,q9,m9⟩;have t9:=t8.nx q9 m9.up;have mf:=j8 [w];simp only[bQ,ft,dc,jU]at mf;obtain⟨Zh,dA,ip,dR,gT⟩:=A9 t9.toQz [w] (n:=1) (parts:=#[.mk 0 (K (T w))]) rfl rfl X X d hd J;refine⟨_,rfl,t8.sm m9 aaV,Zh,dA,ip,t9.sq dR aaV,gT.mono ?_⟩;rintro _ dL ⟨rfl,iD,gO⟩;have b:=t9.nx iD gO;refine⟨rfl,t9.sl dR gO aaV,(I x.mv)-(aT+1),J,aT+1,iF,_,aaA,J,rfl,(Rh.tr y).cg ?_ ?_,λe=>?_,⟨b.toQz,b.m,λk hk=>b.k k aeA⟩⟩
   ·rw[nY,iK];simp
   ·rw[nY,cp,YN];simp
   rw[e,aR X,Mc (y.ok e).1,nY,cp,gx,iN e];show _=lA _ (d,Fs cc);have:ne (Fs cc)=L:=by
    have:Fs cc≠[]:=by unfold Fs;simp
    unfold ne;rw[bD this];rfl
   rw[rH this,ff,oJ,bG]
  have nA:¬(aT:Int)<mv.n:=aQ hc;have lc:aT=I x.mv:=J
  subst lc;rw[bp (aX _)]at Rh Mc;have xb:=zi Rh Oj Mc;refine⟨λnv f7 f=>∃(aT:Nat) (a:St) (c:aH),f7=aT/\aT<=I s/\nv=(I s)-aT/\Up cC (jP d (s.take aT)) (rS (s.take aT)) a/\(a.1=aL->c=dX l7 (qQ d (s.take aT)))/\Zq aL w0 w b f c a [q],
   (I s),⟨0,cC,l7,rfl,bm _,rfl,by rw[ci,jP,rS];exact t7.toQz.up0,λ_=>by rw[ci,qQ];rfl,t7⟩,?_⟩
  rintro nv _ dL ⟨aT,mt,rZ,rfl,hj,rfl,n,lT,T⟩;have nO:=hk.len;have mK:aA (mz aL D) 9 dL F kids s:=SliceF.keep (cA aL D) hk X λk hk _=>g.arg T.toQz (h k hk);refine⟨λhc=>?_,λhc=>?_⟩
  ·have b:(aT:Int)<kids.n:=aN hc;obtain⟨ad,y,cs,g1,w,g3,g4,g5,g6⟩:=mK.get (aZ aT) b;rw[aW]at w;have rj:=bB w;have Ri:=mH rj;have x:s.take (aT+1)=s.take aT++[y]:=by
    rw[bq,w];rfl
   have D9:=g6;cases D with
   | zero=>exact D9.elim
   | succ D=>
   obtain⟨tT,tU,qk,iE,rfl,_⟩:=D9;refine⟨ad,g1,_,_,_,_,tT,tU,qk,iE,_,g5,λk7 ez pP Ym eM=>?_⟩;have y:=T.al eM pP Ym;refine(N _ _ _ _ _ _ _ _ d y.toQz ((cA aL _).keep g6 λk _ b=>eM.block k b aaV) h (zh p rj) J hd E i).mono ?_;rintro _ fj ⟨rfl,pi,zK,oN,pm,rx,oR⟩;have oF:=y.nx rx oR;refine⟨rfl,y.sm oR aaV,(I s)-(aT+1),J,aT+1,pi,zK,aaA,J,rfl,(n.tr oN).cg ?_ ?_,λe=>?_,⟨oF.toQz,oF.m,λk hk=>oF.k k aeA⟩⟩
   ·rw[x,xV]
   ·rw[x,Am]
   rw[pm e,lT (oN.ok e).1,x,An,gx]
  have nA:¬(aT:Int)<kids.n:=aQ hc;have lc:aT=I s:=J
  subst lc;rw[bp (aX _)]at n lT;have b:=zi n xb lT;refine⟨rfl,mt,rZ,(am.tr (W.tr (co.tr (Rh.tr n)))).cg rfl ?_,λe=>?_,T.toQz,T.m⟩
  ·unfold PB;omega
  rw[b e];unfold Ho mvL;simp only[bC]
 ·have hc:x.ini≠[]:=abv
  refine(pj t.toQz x.ini J).mono ?_;rintro _ W ⟨rfl,uZ,b,V,n⟩;have k:=t.nx V n.up;refine⟨_,rfl,t.sm n aaV,abN,?_⟩;rw[show ao #[59]=T [59]from rfl,fm];refine(DB k.toQz d hd ir (x.ini++[59]) X ab8).mono ?_;rintro _ w3 ⟨rfl,q3,w⟩;refine⟨rfl,k.sm w aaV,uZ,_,b.cg (by rw[bD hc,qc]) rfl,λe=>?_,k.nx q3 w⟩;have l:x.ini++[59]≠[]:=aaV
  have y:ne (x.ini++[59])=L:=by unfold ne;rw[bD l];rfl
  rw[e,bD l,aR X,rH X,gK y,ff,gJ,oJ,bG];unfold xS;rw[aR hc];rfl
 have hc:x.ini=[]:=abv
 refine⟨st,l,g.up0.cg (by rw[bE hc];rfl) rfl,λ_=>by unfold xS;rw[aV hc];rfl,t⟩
end
def Up.more{st d:St}{c:Bool}{n:Nat}(h:Up st c 0 d)(a:c=L->n=0):Up st c n d:=by
 cases c
 ·refine⟨?_,λe=>?_⟩
  ·rw[h.w];simp
  have:=h.w;rw[e]at this;simp at this
 rw[a rfl];exact h
def adw:List (aH):=[[],Dd,sY,vQ,JZ]
def al9{k:Int}(h:1<=k)(a:k<=4):adw[k.toNat]? =aM (kW k):=by
 have:k=1∨k=2∨k=3∨k=4:=J
 rcases this with rfl | rfl | rfl | rfl<;>rfl
def adx(k:Int):ne (kW k)=L:=by
 unfold kW;split
 ·rfl
 split
 ·rfl
 split
 ·rfl
 rfl
def afP(k:Int):I (kW k)<=8:=by
 unfold kW;split
 ·decide
 split
 ·decide
 split
 ·decide
 decide
def P1{d:Nat}{b:Nb}{l:List Nd}(hk:b.k=1∨b.k=2)(hd:d<12):((decide (b.dft=[])&&dP b.nm)&&DC b l (d+1))=lY d (.mk b l):=by
 have h:iu b.k=aL:=ad7
 rw[lY,bE hd,cm];unfold uq DC;rw[h,aR X];have:decide ((b.k=1∨b.k=2)/\b.dft=[])=decide (b.dft=[]):=by simp[hk]
 rw[this];generalize decide (b.dft=[])=A;generalize dP b.nm=B;generalize (decide (b.ini=[])||dP b.ini)=C;generalize b.en.all kQ=D;generalize b.lv.all kQ=E;generalize b.mv.all pU=G;generalize jP (d+1) l=H;cases A<;>cases B<;>cases C<;>cases D<;>cases E<;>cases G<;>cases H<;>rfl
def P2{d:Nat}{b:Nb}{l:List Nd}(hk:b.k=3∨b.k=4)(hd:d<12):(((decide (b.ini=[])&&decide (b.en=[]/\b.lv=[]/\b.mv=[]/\l=[]))&&dP b.nm)&&dP b.dft)=lY d (.mk b l):=by
 have a:iu b.k=L:=by unfold iu;exact bE hk
 rw[lY,bE hd,cm];unfold uq;rw[a,aV rfl];by_cases h:l=[]
 ·subst h;have:decide (b.ini=[]/\b.en=[]/\b.lv=[]/\I b.mv=0/\I ([]:List Nd)=0)=(decide (b.ini=[])&&decide (b.en=[]/\b.lv=[]/\b.mv=[]/\([]:List Nd)=[])):=by
   rw[bM];simp
  rw[this,jP];generalize decide (b.ini=[])=A;generalize decide (b.en=[]/\b.lv=[]/\b.mv=[]/\([]:List Nd)=[])=B;cases A<;>cases B<;>cases dP b.nm<;>cases dP b.dft<;>rfl
 have d:decide (b.en=[]/\b.lv=[]/\b.mv=[]/\l=[])=aL:=bD λc=>h c.2.2.2;have e:decide (b.ini=[]/\b.en=[]/\b.lv=[]/\I b.mv=0/\I l=0)=aL:=bD λc=>h (bP c.2.2.2.2);rw[d,e];simp
def P3{d:Nat}{b:Nb}{l:List Nd}(h:¬(1<=b.k/\b.k<=4)∨12<=d):lY d (.mk b l)=aL:=by
 rw[lY];rcases h with h | h
 ·have a:iu b.k=aL:=ad7
  have:decide ((b.k=1∨b.k=2)/\b.dft=[])=aL:=bD J;unfold uq;rw[a,aR X,this];simp
 rw[bD J];rfl
def P4:∀D,VG D
 | 0=>by
  intro e w b l st F x c d a h;exact h.elim
 | D+1=>by
  intro z h b l st A x j d r C F u y hd R S;obtain⟨a,s⟩:=x;have W:=C;obtain⟨m,v,mv,kids,rfl,i,H⟩:=C;have i:Hj aL h A a m v mv:=i;have H:kx aL (mz aL D) 9 27 h A kids s:=H;show az Q 178 #[rp b,ah (od a.k a.nm a.ini a.dft m v mv kids a.a).toArray,O U (d:Int)] h _;rw[Fv]at u;rw[lf]at y;have Y:=y;unfold wO at Y;refine ret (alB _ _ _ _ _ _ _ _ _ _ _ ?_);intro p V P N G;have g:=(r.z aL).al G P N;obtain⟨q,sl,B,_⟩:=g.toQz.set;have bad:∀{w:M} {c:St} {o:aH},c.1=L->Zq aL z h b w o c [p]->(st.1=L∨lY d (.mk a s)=aL)->∃c E,Up st (lY d (.mk a s)) (A7 (.mk a s)) c/\(c.1=aL->E=dX l (Fu d (.mk a s)))/\Qz z b w E c/\Mw aL b h w:=by
   intro w c o e t hc;refine⟨c,o,⟨?_,λb=>absurd (e.symm.trans b) X⟩,λb=>absurd (e.symm.trans b) X,t.toQz,t.m⟩;rw[e];rcases hc with hc | hc
   ·rw[hc];rfl
   rw[hc];simp
  refine⟨st.1,Blk.dM B 2 rfl,λhc=>?_,λhc=>?_⟩
  ·refine(ma g.toQz aL).mono ?_;rintro _ f ⟨rfl,uZ,d,e,b⟩;refine⟨rfl,g.sm b aaV,rfl,bad (by rw[d.w];simp) (g.nx e b.up) ?_⟩;rw[cu]at hc;rcases hc with hc | hc
   ·exact .inl hc
   exact .inr (P3 (.inr abL))
  rw[dq]at hc;have am:d<12:=by have:=aQ hc.2;omega
  obtain⟨q2,w2,q,j,e2,cR,aT,bV,nj,uG⟩:=Vy V adw (n:=5) (parts:=#[.mk 0 (K (ao #[])),.mk 1 (K (ao #[115,116,97,116,101])),.mk 2 (K (ao #[112,97,114,97,108,108,101,108])),.mk 3 (K (ao #[104,105,115,116,111,114,121])),.mk 4 (K (ao #[100,101,101,112]))]) rfl rfl X X;have t2:=g.al cR aT bV;have aC:1<=a.k/\a.k<=4->cT q2 a.k 1 ⟨q,a.k.toNat,aaf⟩/\∀w,aF w q 9 j->aB w ⟨q,a.k.toNat,aaf⟩ [K (T (kW a.k))]:=λhk=>by
   have:=uG _ _ (al9 hk.1 hk.2);rwa[jL J]at this
  have ET:=afP a.k;have z2:∀{w3:M},Z [] w2 w3->aF w3 q 9 j:=λhO=>hO.blk nj aaV;have aS:∀{w3 w4:M} {o:aH} {sx:St} {f:Bool},Zq aL z h b w3 o sx [q,p]->Mw f b w3 w4->aF w3 q 9 j->aF w4 q 9 j:=λt bY B=>(t.sm (ks':=[q]) bY aaV q aaV).trans B;refine⟨q2,w2,e2,g.sq cR aaV,λb1 w3=>w2=w3/\b1=decide (a.k=1∨a.k=2),?_,λpO=>⟨rfl,?_⟩,λpO=>⟨rfl,?_⟩⟩
  ·rintro b1 _ ⟨rfl,rfl⟩;refine⟨λb=>?_,λb=>?_⟩
   ·have hk:=aN b;have eQ:1<=a.k/\a.k<=4:=J
    obtain⟨y1,y2⟩:=aC eQ;rw[show ao #[]=T []from rfl,iV];refine(ma t2.toQz _).mono ?_;rintro _ w4 ⟨rfl,Oi,u1,u2,u3⟩;have t4:=t2.nx u2 u3.up;refine⟨rfl,t2.sm u3 aaV,λw5 eW=>⟨λk=>k∈[p,q],aaV,_,y1,aaV,_,y2 w5 (eW.blk (aS t2 u3 nj) aaV),?_⟩⟩;have t5:=t4.q eW;refine(pj t5.toQz a.nm J).mono ?_;rintro _ w6 ⟨rfl,t,v1,v2,v3⟩;have f:=t5.nx v2 v3.up;have mf:=j8 [kW a.k,a.nm,[123]];simp only[bQ,ft,dc,jU,ba,bK]at mf;obtain⟨q7,w7,e7,gq,dO⟩:=A9 f.toQz [kW a.k,a.nm,[123]] (n:=3) (parts:=#[.mk 0 (K (T (kW a.k))),.mk 1 (K (T a.nm)),.mk 2 (K (T [123]))]) rfl rfl X X d hd J;refine⟨_,rfl,t5.sm v3 aaV,bR.of (t5.sm v3 aaV),q7,w7,e7,f.sq gq aaV,bR.of (f.sq gq aaV),dO.mono ?_⟩;rintro _ w8 ⟨rfl,x1,x2⟩;have t8:=f.nx x1 x2;have Zx:t.1=aL->(if t.1 then l else lA l (d,ij [kW a.k,a.nm,[123]]))=dX l [(d,kW a.k++32::(a.nm++[32,123]))]:=λe=>by
     rw[e,aR X,oK,rH (adx _),gK (uv (v1.ok e).2.1),gK (by rfl),ff,gJ,gJ,oJ];rfl
    generalize (if t.1 then l else lA l (d,ij [kW a.k,a.nm,[123]]))=l8 at*
    have ed:ar U ((d:Int)+1)=((d+1:Nat):Int):=aaA
    rw[ed];refine⟨rfl,f.sl gq x2 aaV,bR.of (f.sl gq x2 aaV),(VH (P4 D) t8.toQz (i.keep λk hk _=>r.arg t8.toQz (F k hk)) (H.keep (cA aL D) X λk hk _=>r.arg t8.toQz (F k hk)) F u.1 u.2 y (d+1) J R S).mono ?_⟩;rintro _ w9 ⟨rfl,f7,l9,x,fd,y3,y4⟩;have t9:=t8.nx y3 y4;obtain⟨Zh,dA,cC,dR,co⟩:=A9 t9.toQz [[125]] (n:=1) (parts:=#[.mk 0 (K (T [125]))]) rfl rfl X X d hd X;refine⟨rfl,t8.sm y4 aaV,Zh,dA,cC,t9.sq dR aaV,co.mono ?_⟩;rintro _ dL ⟨rfl,x3,x4⟩;have cc:=t9.nx x3 x4;refine⟨rfl,t9.sl dR x4 aaV,rfl,f7,_,((u1.tr v1).tr x).cg (P1 hk am) (by rw[A7];omega),λe=>?_,cc.toQz,cc.m⟩;have hh:iu a.k=aL:=ad7
    rw[Fu,hh,e];simp only[qB,mc];rw[fd e,Zx (x.ok e).1,<-gx];have e1:ij [[125]]=[125]:=X
    rw[e1,<-oK,<-gx];simp only[bC,ca,cb]
   have f8:=aQ b;refine⟨λt ez=>w2=ez/\t=decide (a.k=3∨a.k=4),?_,λf=>⟨rfl,?_⟩,λf=>⟨rfl,?_⟩⟩
   ·rintro t _ ⟨rfl,rfl⟩;refine⟨λgE=>?_,λgE=>?_⟩
    ·have hk:=aN gE;have lE:1<=a.k/\a.k<=4:=J
     obtain⟨y1,y2⟩:=aC lE;have n4:=i.1.1.len;have n5:=i.2.1.1.len;have n6:=i.2.2.1.len;have n7:=H.1.len;have a4:=gI a.en;have a5:=gI a.lv;have a6:=kR a.mv;have a7:=pG s;have iD:(ar U ((ar U ((ar U ((m.n:Int)+(v.n:Int)))+(mv.n:Int)))+(kids.n:Int))==0)=decide (a.en=[]/\a.lv=[]/\a.mv=[]/\s=[]):=by
      rw[fe (x:=(m.n:Int)+(v.n:Int)) J J,fe (x:=(m.n:Int)+(v.n:Int)+(mv.n:Int)) J J,fe J J,bM];simp only[db,bF];refine⟨λe=>?_,λ⟨d,e2,k,n⟩=>?_⟩
      ·exact⟨bP J,bP J,bP J,bP J⟩
      rw[n4,n5,n6,n7,d,e2,k,n];rfl
     rw[show ao #[]=T []from rfl,iV,iD];refine(ma t2.toQz _).mono ?_;rintro _ fj ⟨rfl,nO,u1,u2,u3⟩;have mt:=t2.nx u2 u3.up;refine⟨rfl,t2.sm u3 aaV,λfU eS=>⟨λk=>k∈[p,q],aaV,_,y1,aaV,_,y2 fU (eS.blk (aS t2 u3 nj) aaV),aaV,?_⟩⟩;have gO:=mt.q eS;refine(pj gO.toQz a.nm J).mono ?_;rintro _ gC ⟨rfl,mK,v1,v2,v3⟩;have gT:=gO.nx v2 v3.up;refine⟨_,rfl,gO.sm v3 aaV,bR.of (gO.sm v3 aaV),(pj gT.toQz a.dft J).mono ?_⟩;rintro _ iQ ⟨rfl,iF,x1,x2,x3⟩;have gG:=gT.nx x2 x3.up;have mf:=j8 [kW a.k,a.nm,[45,62],a.dft++[59]];simp only[bQ,ft,dc,jU,ba,bK,aO]at mf;obtain⟨lT,im,iS,iz,iN⟩:=A9 gG.toQz [kW a.k,a.nm,[45,62],a.dft++[59]] (n:=4) (parts:=#[.mk 0 (K (T (kW a.k))),.mk 1 (K (T a.nm)),.mk 2 (K (T [45,62])),.mk 3 (K (T (a.dft++[59])))]) rfl rfl X X d hd J;refine⟨T a.dft,rfl,gT.sm x3 aaV,bR.of (gT.sm x3 aaV),abN,lT,im,by rw[show ao #[59]=T [59]from rfl,fm];exact iS,gG.sq iz aaV,bR.of (gG.sq iz aaV),iN.mono ?_⟩;rintro _ iR ⟨rfl,y3,y4⟩;have ip:=gG.nx y3 y4;have hU:=((u1.tr v1).tr x1).cg (P2 hk am) rfl;refine⟨rfl,gG.sl iz y4 aaV,bR.of (gG.sl iz y4 aaV),rfl,iF,_,hU.more λkH=>?_,λe=>?_,ip.toQz,ip.m⟩
     ·rw[<-P2 hk am]at kH;simp only[aU,bF]at kH;obtain⟨⟨⟨_,e,e2,d,k⟩,_⟩,_⟩:=kH;rw[A7,k,rS];unfold PB;rw[e,e2,d];rfl
     have d:iu a.k=L:=by unfold iu;exact bE hk
     have n:ne (a.dft++[59])=L:=by
      have:a.dft++[59]≠[]:=aaV
      unfold ne;rw[bD this];rfl
     rw[Fu,d,aV rfl,e,aR X,oK,rH (adx _),gK (uv (v1.ok (x1.ok e).1).2.1),gK (by rfl),gK n,ff,gJ,gJ,gJ,oJ,bG];rfl
    have n:=aQ gE;refine(ma t2.toQz aL).mono ?_;rintro _ fj ⟨rfl,x,T,u2,e⟩;have d:=t2.nx u2 e.up;exact⟨rfl,t2.sm e aaV,rfl,bad (by rw[T.w];simp) ⟨d.toQz,d.m,λk hk=>d.k k aeA⟩ (.inr (P3 (.inl J)))⟩
   ·have:a.k=3:=by simpa using f
    rw[f,bE (.inl this)]
   have:a.k≠3:=by simpa using f
   rw[bM];simp[this]
  ·have:a.k=1:=by simpa using pO
   rw[pO,bE (.inl this)]
  have:a.k≠1:=by simpa using pO
  rw[bM];simp[this]
mutual
def VI:∀x:Nd,iB x<=lf x
 | .mk b l=>by
  rw[iB,lf];have:=B4 l;unfold wO;omega
def B4:∀l:List Nd,dx l<=iZ l
 | []=>by rw[dx];exact bm _
 | x::l=>by
  rw[dx,iZ];exact me (VI x) (B4 l)
end
mutual
def afQ:∀x:Nd,Dm x<=lf x
 | .mk b l=>by
  rw[Dm,lf];have:=zj l;have:=kR b.mv;unfold wO;omega
def zj:∀l:List Nd,uW l<=iZ l
 | []=>by rw[uW];exact bm _
 | x::l=>by
  rw[uW,iZ];exact me (afQ x) (zj l)
end
def tw x:∀l,dx (l++[x])=dx l+iB x
 | []=>by simp[dx]
 | y::l=>by rw[ca,dx,dx,tw x l];omega
def wP x:∀l,uW (l++[x])=uW l+Dm x
 | []=>by simp[uW]
 | y::l=>by rw[ca,uW,uW,wP x l];omega
def Kx:∀l m,iZ (l++m)=iZ l+iZ m
 | [],m=>by rw[cb,iZ];omega
 | y::l,m=>by rw[ca,iZ,iZ,Kx l m];omega
def P5:∀D w F x c,mz aL D w F x c->lf x<=8388608->az Q 130 #[ah c.toArray] w λe b=>e=ak (ai #[O U (iB x),O U (Dm x)])/\Z [] w b
 | 0,w,F,x,c,h,_=>h.elim
 | D+1,w,F,x,c,i,f=>by
  obtain⟨e,s⟩:=x;obtain⟨q,v,mv,kids,rfl,p,H⟩:=i;have S:=p.2.2.1;have hk:aA _ 9 w F kids s:=H.1;refine ret (ak2 _ _ _ _ _ _ _ _ _ ?_);have C:=B4 s;have G:=zj s;have N:=kR e.mv;rw[lf]at f;unfold wO at f;have t:=hk.len;have P:=pG s;intro m u T g E z R;refine⟨λn a o l b=>∃j:Nat,l=j/\j<=I s/\n=(I s)-j/\a=(1+dx (s.take j):Nat)/\o=(I e.mv+uW (s.take j):Nat)/\m<b.heap.size/\Z [] w b,I s,⟨0,rfl,bm _,rfl,by rw[ci,dx];rfl,by rw[ci,uW,S.len];rfl,cH g R.size,E.cn R⟩,?_⟩;rintro n _ _ _ A ⟨j,rfl,r,rfl,rfl,rfl,B,d⟩;refine⟨λh=>?_,λh=>?_⟩
  ·have W:(j:Int)<kids.n:=aN h;obtain⟨ad,y,c,g1,a,g3,g4,g5,V⟩:=(SliceF.only (cA aL D) X hk d aaV).get (aZ j) W;rw[aW]at a;have Ri:=mH (bB a);have Y:s.take (j+1)=s.take j++[y]:=by
    rw[bq,a];rfl
   have am:iZ s=iZ (s.take (j+1))+iZ (s.drop (j+1)):=by rw[<-Kx,fb]
   have y3:dx (s.take j)+iB y<=iZ (s.take (j+1)):=by rw[<-tw,<-Y];exact B4 _
   have y4:uW (s.take j)+Dm y<=iZ (s.take (j+1)):=by rw[<-wP,<-Y];exact zj _
   have x:=V;cases D with
   | zero=>exact x.elim
   | succ D=>
   obtain⟨tT,tU,qk,iE,rfl,_⟩:=x;refine⟨ad,g1,_,_,_,_,tT,tU,qk,iE,_,g5,λk3 w4 sA aC dW=>?_⟩;refine(P5 _ w4 F y _ ((cA aL _).keep V λk _ W=>dW.block k W aaV) J).mono ?_;rintro _ w5 ⟨rfl,eW⟩;refine⟨_,_,rfl,eW.same (by have:=dW.size;simp;omega),(I s)-_,J,j+1,aaA,J,rfl,?_,?_,?_,(d.cn dW).cn eW⟩
   ·rw[Y,tw,fe J J];omega
   ·rw[Y,wP,fe J J];omega
   have:=dW.size;have:=eW.size;omega
  have k:¬(j:Int)<kids.n:=aQ h;have a:j=I s:=J
  subst a;rw[bp (aX _)];refine⟨?_,d⟩;rw[iB,Dm,fV]
structure Pt4 (w:M) (b:Nat) (sl:Sl) (l:aH) (v2 v3:aw):Prop where
 blk:∃q:Option Addr,aF w b 216 [ae q,sl.v,v2,v3]
 len:sl.n=I l
 aM:l≠[]->∃g,sl.a=.some ⟨g,0,aaf⟩/\b<g/\sl.c≠0/\(∃n,w.shape? g=.some (5,n)/\I l<=n)/\aB w ⟨g,0,aaf⟩ (l.map iA)
 cap:sl.a=aaf∨sl.c≠0
 big:I l<=9223372036854775807
section
variable {w:M} {b:Nat} {sl:Sl} {l:aH} {v2 v3:aw}
def Pt4.only{w'}(j:Pt4 w b sl l v2 v3)(h:Z [] w w'):Pt4 w' b sl l v2 v3:=by
 obtain⟨⟨q,k⟩,m,o,p,r⟩:=j;refine⟨⟨q,h.blk k aaV⟩,m,λt=>?_,p,r⟩;obtain⟨g,c,d,e,⟨n,a,f⟩,i⟩:=o t;have s:g<w.heap.size:=by
  refine bT λn=>?_;unfold World.shape? at a;rw[fI J]at a;cases a
 have hk:=h.block g s aaV;exact⟨g,c,d,e,⟨n,(Dc hk).trans a,f⟩,i.keep hk⟩
def Qz.pt{w0}{st}(a:Qz w0 b w l st):∃sl,Pt4 w b sl l (aj st.1) (O U st.2)/\∀k,sl.a=aM ⟨k,0,aaf⟩->Bu w b k:=by
 obtain⟨q,sl,d,B,h⟩:=a.ex;refine⟨sl,⟨⟨_,B⟩,h.len,λc=>?_,?_,?_⟩,λk hk=>Ks B hk⟩
 ·rcases h with⟨_,e⟩ | ⟨g,tail,f,i,b,j,k,l,m,n⟩
  ·exact absurd e c
  refine⟨g,f,i,J,⟨_,by unfold World.shape?;unfold aF at b;rw[b],aaV⟩,b.cells 0 _ λe v hj=>acW⟩
 ·rcases h with⟨e,_⟩ | _
  ·exact .inl (by rw[e])
  exact .inr J
 rcases h with⟨_,e⟩ | _
 ·subst e;simp
 omega
def P6(g:Pt4 w b sl l v2 v3):az Q 137 #[ae (aM ⟨b,0,aaf⟩)] w λe d=>e=ak (K (T l))/\Pt4 d b sl l v2 v3/\aD (λk=>b<k/\sl.a=aM ⟨k,0,aaf⟩) w d:=by
 refine ret (ac9 _ ?_);intro c D;obtain⟨⟨q,h⟩,f,G,z,r⟩:=g.only D;refine⟨λk=>k=b,sl,Blk.dM h 1 rfl,rfl,sl,Blk.dM h 1 rfl,sl.a,c,?_,λk _ _=>rfl,?_⟩
 ·obtain⟨s,E,sc⟩:=sl;rcases s with _|a
  ·exact Lib.run_unsafeSliceData_nil _ _ _ _ _
  rcases z with e | e
  ·cases e
  exact Lib.run_unsafeSliceData_row _ _ _ _ _ _ e
 by_cases a:l=[]
 ·subst a;refine⟨T [],c,?_,λk _ _=>rfl,rfl,⟨⟨q,h⟩,f,G,z,r⟩,D.p0⟩;rw[f];exact Lib.run_unsafeString_none _ _ _ _ _
 obtain⟨b,e,S,o,⟨n,t,m⟩,y⟩:=G a;have F:=vL c ⟨b,0,aaf⟩ (I l);refine⟨T l,c.freeze _ (I l),?_,λk hk W=>F.block k W abQ,rfl,⟨⟨q,F.blk h abQ⟩,f,λ_=>⟨b,e,S,o,⟨n,(yQ _ _ _ _).trans t,m⟩,λi v j=>by rw[vK];exact y i v j⟩,z,r⟩,D.oQ (F.mono λk _ hk=>by dsimp only at hk;exact⟨J,by rw[hk];exact e⟩)⟩;rw[e,f];exact Lib.run_unsafeString_row _ _ _ _ 5 aaz aaz b n t l a m r λi x j=>y i _ (by rw[cN,j];rfl)
end
def iH(c:Ch):aH×Int:=
 if rl c=L then(if 16384<I (dX [] (Kj c)) then([],2)else if(fM (dX [] (Kj c))).2.1≠0 then([],22)else(dX [] (Kj c),0))else([],22)
def nr:List Vr->Nat
 | []=>0
 | v::l=>(I v.n+1)+nr l
def wb{v}:∀{l:List Vr},v∈l->I v.n+1<=nr l
 | [],h=>abS
 | x::l,h=>by
  rw[nr];rcases aY.1 h with rfl | h
  ·omega
  have:=wb h;omega
def wc:∀l,I l<=nr l
 | []=>bm _
 | v::l=>by
  have:=wc l;rw[nr,ba];omega
def xp(v:Vr):Bool:=dP v.n&&decide (v.v≠ -9223372036854775808)
def aaK c:((((((decide (c.root.b.k=1)&&decide (c.root.b.dft=[]))&&decide (I c.vars<=16))&&decide (iB c.root<=64))&&decide (Dm c.root<=200))&&dP c.root.b.nm)&&(c.vars.all xp&&DC c.root.b c.root.kids 1)&&decide (A7 c.root<=400))=rl c:=by
 obtain⟨v,⟨b,l⟩⟩:=c;show((((((decide (b.k=1)&&decide (b.dft=[]))&&decide _)&&decide _)&&decide _)&&dP b.nm)&&(v.all xp&&DC b l 1)&&decide _)=(v.all xp&&lY 0 _&&decide (b.k=1/\I v<=16/\iB _<=64/\Dm _<=200/\A7 _<=400))
 by_cases hk:b.k=1
 ·rw[<-P1 (d:=0) (.inl hk) X];have:decide (b.k=1/\I v<=16/\iB (.mk b l)<=64/\Dm (.mk b l)<=200/\A7 (.mk b l)<=400)=(decide (I v<=16)&&decide (iB (.mk b l)<=64)&&decide (Dm (.mk b l)<=200)&&decide (A7 (.mk b l)<=400)):=by
   rw[bM];simp[hk,and_assoc]
  rw[this,bE hk];generalize decide (b.dft=[])=A;generalize decide (I v<=16)=B;generalize decide (iB _<=64)=C;generalize decide (Dm _<=200)=D;generalize dP b.nm=G;generalize v.all xp=H;generalize DC b l _=a;cases A<;>cases B<;>cases C<;>cases D<;>cases G<;>cases H<;>cases a<;>rfl
 have:decide (b.k=1/\I v<=16/\iB (.mk b l)<=64/\Dm (.mk b l)<=200/\A7 (.mk b l)<=400)=aL:=bD λh=>hk h.1;rw[this,bD hk];simp
def aaL{w:M}{F:aJ}{D:Nat}{c:Ch}{i:Sl}{g:aI}(h:ChR aL D w F c i g)(m:Mb c)(j:nr c.vars+lf c.root<=8388608)(E:Er w)(l:Tb w):
  az Q 95 #[ah (i.v::g).toArray] w λe f=>e=ak (ai #[K (T (iH c).1),O U (iH c).2])/\Z [] w f:=by
 obtain⟨a,⟨d,s⟩⟩:=c;cases D with
 | zero=>exact h.root.elim
 | succ D=>
 have F8:mz aL (D+1) w F (.mk d s) g:=h.root;have Bz:aA M0 3 w F i a:=h.vars.1;obtain⟨en,lv,mv,kids,rfl,xa,Y⟩:=(cA aL _).inHeap F8;have xa:Hj aL w (λk=>F k/\k<w.heap.size) d en lv mv:=xa;have Y:kx aL (mz aL D) 9 27 w (λk=>F k/\k<w.heap.size) kids s:=Y;have r:=m.r;have r:Fv (.mk d s):=r;have Rj:∀v,v∈a->ub v.v:=m.v;rw[Fv]at r;have j:nr a+lf (.mk d s)<=8388608:=j;have N:lf (.mk d s)=wO d+iZ s:=by rw[lf]
 have LY:=j;rw[N]at LY;unfold wO at LY;have o:=aaK ⟨a,.mk d s⟩;generalize P:iH ⟨a,.mk d s⟩=am;unfold iH at P;rw[<-o]at P;clear o;have P:(if((((((decide (d.k=1)&&decide (d.dft=[]))&&decide _)&&decide _)&&decide _)&&dP d.nm)&&(a.all xp&&DC d s 1)&&decide (A7 (.mk d s)<=400))=L then(if 16384<I (dX [] (Kj ⟨a,.mk d s⟩)) then([],2)else if(fM (dX [] (Kj ⟨a,.mk d s⟩))).2.1≠0 then([],22)else(dX [] (Kj ⟨a,.mk d s⟩),0))else([],22))=am:=P;show az Q 95 #[ah (i.v::od d.k d.nm d.ini d.dft en lv mv kids d.a).toArray] w _;refine ret (akH _ _ _ _ _ _ _ _ _ _ ?_);intro B b w1 fT dZ hb oh cE;have z:=Bz.len;have A:=wc a;refine(P5 (D+1) w1 F (.mk d s) _ ((cA aL _).keep F8 λk _ bW=>cE.block k bW aaV) J).mono ?_;rintro _ p ⟨rfl,R⟩;have z2:=R.size;refine⟨_,_,rfl,R.same aba,λnj ik=>?_⟩;have q2:Qz w b p [] (aL,0):=⟨cE.cn R,hb,⟨aaf,Sl.nil,.inl rfl,nj,.inl ⟨rfl,rfl⟩⟩,λ_=>⟨jm 0,X⟩,bm _⟩
 have W:Zq aL w p b p [] (aL,0) [B]:=⟨q2,Mw.refl _ _ _,λk hk=>by
  simp only[aP]at hk;subst hk;exact⟨J,ik,λb=>by have:=PS nj b;cases this⟩⟩
 have hF:∀k,(λk=>F k/\k<w.heap.size) k->k<w.heap.size:=λk hk=>hk.2;have hw:=q2.o;rw[show ao #[]=T []from rfl,iV,z];refine(ma W.toQz _).mono ?_;rintro _ w3 ⟨rfl,QO,u1,u2,u3⟩;have u:=W.nx u2 u3.up;have Ec:((((d.k==1)&&decide (d.dft=[]))&&decide ((I a:Int)<=16))&&decide ((iB (.mk d s):Int)<=64)&&decide ((Dm (.mk d s):Int)<=200))=((((decide (d.k=1)&&decide (d.dft=[]))&&decide (I a<=16))&&decide (iB (.mk d s)<=64))&&decide (Dm (.mk d s)<=200)):=by
  rw[bM];simp only[aU,db,bF];constructor
  ·rintro⟨⟨⟨⟨b,e⟩,k⟩,n⟩,q⟩;exact⟨⟨⟨⟨b,e⟩,J⟩,J⟩,J⟩
  rintro⟨⟨⟨⟨b,e⟩,k⟩,n⟩,q⟩;exact⟨⟨⟨⟨b,e⟩,J⟩,J⟩,J⟩
 rw[Ec]at u1;obtain⟨G,H,_,tN,_⟩:=u.ex;refine⟨rfl,W.sm u3 aaV,G,H,_,_,tN,(pj u.toQz d.nm J).mono ?_⟩;rintro _ w4 ⟨rfl,c,v1,v2,v3⟩;have t:=u.nx v2 v3.up;obtain⟨S,V,_,sE,_⟩:=t.ex;have C:=j8 [gA,d.nm,[123]];simp at C;have aC:I gA=5:=rfl;obtain⟨q5,w5,e5,eW,y⟩:=A9 t.toQz [gA,d.nm,[123]] (n:=3) (parts:=#[.mk 0 (K (T gA)),.mk 1 _,.mk 2 (K (T [123]))]) rfl rfl X X 0 X J;refine⟨_,rfl,u.sm v3 aaV,S,V,_,_,sE,q5,w5,e5,?_,y.mono ?_⟩
 ·refine eW.same λx h=>⟨?_,aaV⟩
  simp at h;rcases h with rfl | rfl
  ·exact(t.k x aaV).1
  exact t.toQz.lb
 rintro _ w6 ⟨rfl,x1,x2⟩;have t6:=t.nx x1 x2;have aT:=u1.tr v1;have bV:c.1=aL->(if c.1 then([]:aH)else lA [] (0,ij [gA,d.nm,[123]]))=dX [] [(0,gA++32::(d.nm++[32,123]))]:=λe=>by
  rw[e];simp only[qB,mc];rw[oK,rH X,gK (uv (v1.ok e).2.1),gK (by rfl),ff,gJ,gJ,oJ];rfl
 generalize (if c.1 then([]:aH)else lA [] (0,ij [gA,d.nm,[123]]))=l6 at*
 obtain⟨bY,cc,_,Ra,_⟩:=t6.ex;refine⟨rfl,t.sl eW x2 aaV,bY,cc,_,_,Ra,λnv co q l' wr ac f=>∃(aS:Nat) (dk:St) (l':aH),co=aS/\aS<=I a/\nv=(I a)-aS/\Up c ((a.take aS).all xp) 0 dk/\(dk.1=aL->l'=dX l6 ((a.take aS).map λv=>(1,vrT v)))/\Zq aL w p b f l' dk [B],
  (I a),⟨0,c,l6,rfl,bm _,rfl,t6.toQz.up0,λ_=>rfl,t6⟩,?_⟩
 rintro nv _ qa la wr ac w7 ⟨aS,cC,l7,rfl,hj,rfl,Rh,Mc,t7⟩;refine⟨λhc=>?_,λhc=>?_⟩
 ·have bW:(aS:Int)<I a:=aN hc;obtain⟨ad,v,g,g1,g2,g3,g4,g5,g6⟩:=(SliceF.only fh X Bz t7.o aaV).get (aZ aS) J;rw[aW]at g2;have eQ:=bB g2;have A:=wb eQ;have nY:a.take (aS+1)=a.take aS++[v]:=by
   rw[bq,g2];rfl
  unfold M0 at g6;subst g6;refine⟨ad,g1,_,_,_,g5,λk4 w8 uT AN fy _=>?_⟩;have t8:=t7.al fy uT AN;refine(ma t8.toQz _).mono ?_;rintro _ w9 ⟨rfl,lE,y1,y2,y3⟩;have t9:=t8.nx y2 y3.up;obtain⟨iF,iN,_,ip,_⟩:=t9.ex;refine⟨rfl,t8.sm y3 aaV,iF,iN,_,_,ip,λdA dR _=>⟨λk=>k∈[k4],aaV,?_⟩⟩;have dO:=t9.q dR;refine(pj dO.toQz v.n J).mono ?_;rintro _ dL ⟨rfl,fd,y4,y5,y6⟩;have q:=dO.nx y5 y6.up;obtain⟨gG,gO,_,EV,_⟩:=q.ex;refine⟨_,rfl,dO.sm y6 aaV,gG,gO,_,_,EV,bR.of (dO.sm y6 aaV),(BW v.v (Rj v eQ) (l.only q.o)).mono ?_⟩;rintro _ ez ⟨rfl,eM⟩;have b:=q.q eM;obtain⟨f7,f8,_,It,_⟩:=b.ex;have L7:=Kw (Rj v eQ);have C:=j8 [Hc,v.n,[61],Lib.itoa v.v++[59]];simp only[bQ,ft,dc,jU,ba,bK,aO]at C;have iS:I Hc=3:=rfl;obtain⟨iD,fj,gT,dV,gE⟩:=A9 b.toQz [Hc,v.n,[61],Lib.itoa v.v++[59]] (n:=4) (parts:=#[.mk 0 (K (T Hc)),.mk 1 (K (T v.n)),.mk 2 (K (T [61])),.mk 3 (K (T (Lib.itoa v.v++[59])))]) rfl rfl X X 1 X J;refine⟨T (Lib.itoa v.v),rfl,q.sq eM aaV,f7,f8,_,_,It,bR.of (q.sq eM aaV),abN,iD,fj,by rw[show ao #[59]=T [59]from rfl,fm];exact gT,?_,bR.of (b.sq dV aaV),gE.mono ?_⟩
  ·refine dV.same λx h=>⟨?_,aaV⟩
   simp only[aY,bA,cf]at h;rcases h with rfl | rfl | rfl
   ·exact(b.k x aaV).1
   ·exact b.toQz.lb
   exact(b.k x aaV).1
  rintro _ fU ⟨rfl,y7,y8⟩;have n:=b.nx y7 y8;obtain⟨x,T,_,LD,_⟩:=n.ex;refine⟨rfl,b.sl dV y8 aaV,x,T,_,_,LD,bR.of (b.sl dV y8 aaV),(I a)-(aS+1),J,aS+1,fd,_,aaA,J,rfl,((Rh.tr y1).tr y4).cg ?_ rfl,λe=>?_,⟨n.toQz,n.m,λk hk=>n.k k aeA⟩⟩
  ·rw[nY,iK];have:(v.v != -9223372036854775808)=decide (v.v≠ -9223372036854775808):=by rw[bM];simp
   rw[this];unfold xp;simp only[List.all_cons,List.all_nil,dK];rw[rq,Bool.and_comm (decide _) (dP _)]
  have k:ne (Lib.itoa v.v++[59])=L:=by
   have:Lib.itoa v.v++[59]≠[]:=aaV
   unfold ne;rw[bD this];rfl
  rw[e];simp only[qB,mc];rw[Mc (y1.ok (y4.ok e).1).1,nY,cp,gx,rH X,gK (uv (y4.ok e).2.1),gK (by rfl),gK k,ff,gJ,gJ,gJ,oJ,bG];rfl
 have nA:=aQ hc;have lc:aS=I a:=J
 subst lc;rw[bp (aX _)]at Rh Mc;refine(VH (P4 D) t7.toQz (xa.keep λk hk _=>t7.o.block k hk.2 aaV) (Y.keep (cA aL D) X λk hk _=>t7.o.block k hk.2 aaV) hF r.1 r.2 J 1 X E l).mono ?_;rintro _ w8 ⟨rfl,q,l8,lT,Zx,y1,y2⟩;have v:=t7.nx y1 y2;obtain⟨mK,nO,_,xE,_⟩:=v.ex;obtain⟨q9,w9,e9,gp,mt⟩:=A9 v.toQz [[125]] (n:=1) (parts:=#[.mk 0 (K (T [125]))]) rfl rfl X X 0 X X;refine⟨rfl,t7.sm y2 aaV,mK,nO,_,_,xE,q9,w9,e9,?_,mt.mono ?_⟩
 ·refine gp.same λx h=>⟨?_,aaV⟩
  simp only[aY,bA,cf]at h;rcases h with rfl | rfl
  ·exact(v.k x aaV).1
  exact v.toQz.lb
 rintro _ dA ⟨rfl,x3,x4⟩;have n:=v.nx x3 x4;have hU:=aT.tr (Rh.tr lT);have pm:q.1=aL->(if q.1 then l8 else lA l8 (0,ij [[125]]))=dX [] (Kj ⟨a,.mk d s⟩):=λe=>by
  obtain⟨b,_⟩:=lT.ok e;obtain⟨x,_⟩:=Rh.ok b;rw[e];simp;rw[Zx e,Mc b,bV x];have k:ij [[125]]=[125]:=X
  rw[k,<-oK,<-gx,<-gx,<-gx];unfold Kj;rw[bC (Ho 1 d)];exact rfl
 obtain⟨oR,pi,_,oT,_⟩:=n.ex;have oF:((((((decide (d.k=1)&&decide (d.dft=[]))&&decide (I a<=16))&&decide (iB (.mk d s)<=64))&&decide (Dm (.mk d s)<=200))&&dP d.nm)&&(a.all xp&&DC d s 1)&&decide (A7 (.mk d s)<=400))=!q.1:=by
  have b:=hU.w;have e:decide (400<(0:Int)+((0+0+(0+(PB d+rS s)):Nat):Int))=!decide (A7 (.mk d s)<=400):=by
   rw[A7];by_cases h4:PB d+rS s<=400
   ·rw[bE h4,bD J];rfl
   rw[bD h4,bE J];rfl
  have b:q.1=((aL||!(_&&(a.all xp&&DC d s 1)))||decide _):=b;rw[e]at b;rw[b];generalize (_&&(a.all xp&&DC d s 1))=k;generalize decide (A7 (.mk d s)<=400)=x;cases k<;>cases x<;>rfl
 rw[oF]at P;have fin:∀{f:M},Z [] p f->Z [] w f:=λT=>hw.cn T;have oN:Z [] w dA:=n.o;refine⟨rfl,v.sl gp x4 aaV,oR,pi,_,_,oT,λe=>?_,λe=>(PW n.toQz).mono ?_⟩
 ·rw[aR (by rw[e];decide)]at P;subst P;exact⟨rfl,oN⟩
 rw[aV (by rw[e];rfl),<-pm e]at P;rintro _ _ ⟨rfl,rfl⟩;obtain⟨pP,ut,rx⟩:=n.toQz.pt;have tO:=λk hk=>n.toQz.bu (rx k hk);refine⟨_,rfl,λ_ _=>rfl,oR,pi,_,_,oT,λe2=>?_,λe2=>(P6 ut).mono ?_⟩
 ·rw[aV (aN e2)]at P;subst P;exact⟨rfl,oN⟩
 rw[aR (aQ e2)]at P;rintro _ dL ⟨rfl,uP,eh⟩;have Cj:=eh.size;have AC:=n.toQz.lb;have e:=n.k B aaV;have ko:∀k,(b<k/\pP.a=aM ⟨k,0,aaf⟩)->w.heap.size<=k:=λk hk=>by have:=n.lo;omega
 have wd:Z [] w dL:=(oN.oQ eh).only ko;obtain⟨As,EV⟩:=uP.blk;refine⟨_,rfl,eh.same λx h=>?_,As,pP,_,_,EV,(Kr _ (E.only wd)).mono ?_⟩
 ·simp only[aP]at h;subst h;exact⟨e.1,λT=>e.2.2 (rx _ T.2)⟩
 rintro _ ez ⟨Bv,By,rfl,hC,eM⟩;obtain⟨xe,xl,xm,xk,rfl,_⟩:=hC.root;have b:=uP.only eM;obtain⟨AT,It⟩:=b.blk;have k:=wd.cn eM;have Cc:=eM.size;refine⟨Bv,_,_,_,_,xe,xl,xm,xk,_,_,_,rfl,eM.same aba,AT,pP,_,_,It,λe3 k6 k7 fj _ _ _ _ dV _=>?_,λe3 k8 k9 fU BV XK BY AS eS _=>?_⟩
 ·rw[aV (by simpa using e3)]at P;subst P;exact⟨rfl,k.cn dV⟩
 rw[aR (by simpa using e3)]at P;subst P;refine(P6 (b.only eS)).mono ?_;rintro _ gC ⟨rfl,Do,iy⟩;obtain⟨DO,CC⟩:=Do.blk;have XN:=eS.size;refine⟨_,rfl,iy.same λx h=>?_,DO,pP,_,_,CC,rfl,((k.cn eS).oQ iy).only ko⟩;simp only[aY,bA,cf]at h;rcases h with rfl | rfl | rfl
 ·exact⟨J,λT=>e.2.2 (rx _ T.2)⟩
 ·exact⟨XK,λT=>by have:=(tO _ T.2).2;omega⟩
 exact⟨AS,λT=>by have:=(tO _ T.2).2;omega⟩
def inB(n:Int):Bool:=decide (-9223372036854775808<=n/\n<=9223372036854775807)
def VJ{n:Int}(h:inB n=L):ub n:=by
 have h:=aN h;exact⟨h.1,h.2⟩
mutual
def nXb:Ex->Bool
 | .mk _ n _ _ l _=>inB n&&aaM l
def aaM:List Ex->Bool
 | []=>L
 | x::l=>nXb x&&aaM l
end
def P7{y:Ex}:∀{l:List Ex},aaM l=L->y∈l->nXb y=L
 | [],_,h=>abS
 | x::l,h,y=>by
  rw[aaM,aU]at h;rcases aY.1 y with rfl | y
  ·exact h.1
  exact P7 h.2 y
def afR:∀(d:Nat) {x:Ex},nXb x=L->lI d x
 | 0,_,_=>trivial
 | d+1,.mk k n s op l a,h=>by
  rw[nXb,aU]at h;exact⟨VJ h.1,λy b=>afR d (P7 h.2 b)⟩
def nAb(a:Ac):Bool:=nXb a.x
def nMb(m:Mv):Bool:=nXb m.g&&m.acts.all nAb&&inB m.wt
def nNb(b:Nb):Bool:=b.en.all nAb&&b.lv.all nAb&&b.mv.all nMb
mutual
def nDb:Nd->Bool
 | .mk b l=>nNb b&&aaN l
def aaN:List Nd->Bool
 | []=>L
 | x::l=>nDb x&&aaN l
end
def VK{l:List Ac}(h:l.all nAb=L):∀a,a∈l->Vm a:=λa b d=>afR d ((dF.1 h) a b)
def asb{m:Mv}(h:nMb m=L):mvN m:=by
 unfold nMb at h;simp only[aU]at h;exact⟨λd=>afR d h.1.1,VK h.1.2,VJ h.2⟩
def asc{b:Nb}(h:nNb b=L):nbN b:=by
 unfold nNb at h;simp only[aU]at h;exact⟨VK h.1.1,VK h.1.2,λa m=>asb ((dF.1 h.2) a m)⟩
mutual
def ama:∀(x:Nd),nDb x=L->Fv x
 | .mk b l,h=>by
  rw[nDb,aU]at h;rw[Fv];exact⟨asc h.1,ady l h.2⟩
def ady:∀(l:List Nd),aaN l=L->EF l
 | [],_=>by rw[EF];trivial
 | x::l,h=>by
  rw[aaN,aU]at h;rw[EF];exact⟨ama x h.1,ady l h.2⟩
end
def nCb(c:Ch):Bool:=(c.vars.all λv=>inB v.v)&&nDb c.root
def ase{c:Ch}(h:nCb c=L):Mb c:=by
 unfold nCb at h;simp only[aU]at h;exact⟨λv a=>VJ ((dF.1 h.1) v a),ama _ h.2⟩
def asf(c:Ch):Bool:=decide (nr c.vars+lf c.root<=8388608)
def ChR.off{d:Nat}{w:M}{F:aJ}{c:Ch}{v:Sl}{s:aI}(h:ChR L d w F c v s):ChR aL d w F c v s:=⟨h.vars.off λ_ _ _ h=>h,Px h.root⟩
end
def spv(x:dN):aI:=[O U x.k,K (T x.nm),O U x.pa,O U x.dp,O U x.en]
def tA:Rp dN:=λ_ _ x c=>c=spv x
def dI:tA.Ok:=⟨λh _=>h,λh=>h,λh _=>h,λh=>by
 unfold tA spv at h;subst h;intro v a;simp only[aY,bA,cf]at a;rcases a with rfl | rfl | rfl | rfl | rfl<;>rfl⟩
abbrev gW(B:Nat)(w:M)(s:Sl)(x:List dN):Prop:=Own tA 5 59 B w (λ_=>False) s x
def gW.of{B:Nat}{w:M}{F:aJ}{s:Sl}{b:List dN}(h:Own tA 5 59 B w F s b):gW B w s b:=by
 rcases h with⟨rfl,rfl⟩ | ⟨g,a,tail,d,e,f,i,j,k,m,l⟩
 ·exact .inl ⟨rfl,rfl⟩
 exact .inr ⟨g,a,tail,d,e,f,i,j,k,m,io.SG (λx c _ n=>n) l⟩
def gW.zJ{B:Nat}{w a:M}{G:aJ}{s:Sl}{x:List dN}(h:gW B w s x)(d:aD G w a)(c:∀k,B<=k->s.a=aM ⟨k,0,aaf⟩->¬G k):gW B a s x:=
 h.keep dI λk hk b=>d.block k b (hk.elim (λh=>h.elim) λh=>c k h.1 h.2)
def adA(t:Bool):∀(D:Nat) {w:M} {F:aJ} {x:Nd} {c:aI} {b:Nat} {s:Sl} {xs:List dN} {pa dp:Int},mz t D w F x c->(∀k,F k->k<b)->aF w b 135 [s.v]->gW (b+1) w s xs->
  (I xs)+iB x<=1000000->0<=dp->dp+iB x<=1000000->
  az Q 65 #[ae (aM ⟨b,0,aaf⟩),ah c.toArray,O U pa,O U dp] w λe a=>e=ak (ai #[])/\∃d,aF a b 135 [d.v]/\gW (b+1) a d (xs++Bt (I xs) pa dp x)/\jO b s w d a
 | 0,_,_,_,_,_,_,_,_,_,h,_,_,_,_,_,_=>h.elim
 | D+1,w,F,.mk f g,c,b,s,xs,pa,dp,⟨en,lv,mv,kids,ix,_,B⟩,hF,H,hS,hn,h0,hd=>by
  have hk:=B.1;clear B;dsimp only[Nd.kids,Nd.b]at hk ix;subst ix;rw[iB]at hn hd;have ET:=hk.len;have aC:=nQ g;refine ret (aqP _ _ _ _ _ _ _ _ _ _ _ _ ?_);intro N w0 B dZ z;have z0:=z.size;have EJ:=H.lt;have cell:∀{u:M} {q:Sl},aF u b 135 [q.v]->aB u ((⟨b,0,aaf⟩:Addr).add 0) [q.v]:=λh=>h.cells 0 [_] λj v hj=>aeE
  have zM:=z.blk H aaV;refine⟨s,cell zM,λw1 E=>⟨λk=>k=b,rfl,s,cell (E.blk zM aaV),?_⟩⟩;have R:=z.cn E;have z1:=E.size;have S:gW (b+1) w1 s xs:=hS.zJ R.p0 λ_ _ _ h=>h;have tK:=R.blk H aaV;obtain⟨y,w2,k1,k3,l,V,g1,g2,⟨gs,m,C⟩,g5⟩:=jV (P:=Q) (t:=133) (ty:=133) (e:=59) (i:=Tryz.t59) (bytes:=48) (size:=5) (r:=tA) (G:=λ_=>False) (v:=ah #[O U f.k,K (T f.nm),O U pa,O U dp,O U 0]) (x:=⟨f.k,f.nm,pa,dp,0⟩) aaz aaz rfl rfl rfl rfl X X X dI S J rfl rfl (λ_ h=>h.elim) J;have z2:=k3.size;have z3:=m.size;have p:∀i,i∈gs->i≠b/\i<w1.heap.size/\s.a=aM ⟨i,0,aaf⟩:=λi n=>⟨by have:=(C i n).2.1;omega,(C i n).2.2,(C i n).1⟩
  have qA:s.a≠aM ⟨N,0,aaf⟩:=λe=>abU
  have tN:aF V b 135 [s.v]:=m.blk (k3.blk tK aaV) λh=>(p b h).1 rfl;refine⟨y,w2,k1,k3.same aba,bR.only k3,l,V,g1,m.same λx o=>?_,λk hk W=>?_,b,0,_,_,rfl,tN,aX 1,J,λY A sE=>?_⟩
  ·simp only[aP]at o;subst o;exact⟨J,λh=>qA (p _ h).2.2⟩
  ·subst hk;exact m.block _ W λh=>(p _ h).1 rfl
  have z4:=A.size;have TL:gW (b+1) V l (xs++[⟨f.k,f.nm,pa,dp,0⟩]):=gW.of g2;have TM:gW (b+1) Y l (xs++[⟨f.k,f.nm,pa,dp,0⟩]):=TL.zJ (G:=λk=>k=b) (A.p aaV) λk h _=>J
  have m4:jO b s w l Y:=by
   refine⟨((R.cn k3).oQ (m.p (F:=λk=>k=b∨s.a=aM ⟨k,0,aaf⟩) λi n=>.inl (.inr (p i n).2.2))).trans (A.p (F:=λk=>k=b∨s.a=aM ⟨k,0,aaf⟩) aaV) λk hk=>.inl hk,λk hk=>?_⟩;rcases g5 with e | ⟨i,e,h⟩
   ·exact .inl abW
   rw[e]at hk;injection hk with hk;injection hk with hk;exact .inr J
  have n4:∀k,l.a=aM ⟨k,0,aaf⟩->k≠N:=λk hk e=>by
   subst e;rcases g5 with e | ⟨i,e,h⟩
   ·exact qA abW
   rw[e]at hk;injection hk with hk;injection hk with hk;omega
  have jJ:∀{u:M} {q:Sl},jO b s w q u->aA (mz t D) 9 u F kids g:=λhm=>SliceF.lO (cA t D) X hk hm.1 λk xd _=>by
   have:=hF k xd;exact λh=>h.elim J λh=>by have:=(hS.blk h).1;dsimp only at this;omega
  refine⟨λv am a=>∃(j:Nat) (q:Sl),am=(j:Int)/\v+j=I g/\j<=I g/\aF a b 135 [q.v]/\gW (b+1) a q (xs++⟨f.k,f.nm,pa,dp,0⟩::qE (I xs+1) (I xs) (dp+1) (g.take j))/\jO b s w q a/\Y.heap.size<=a.heap.size/\∀k,q.a=aM ⟨k,0,aaf⟩->k≠N,I g,⟨0,l,rfl,J,bm _,sE,by rw[ci,qE];exact TM,m4,aX _,n4⟩,?_⟩;rintro v _ w5 ⟨j,q,rfl,pZ,mf,u7,P,T,z5,n5⟩;have r:s.n=I xs:=hS.len;constructor
  ·intro hc;have hj:j<I g:=abL
   obtain⟨y,hy⟩:∃y,g[j]? =aM y:=⟨_,bh hj⟩
   obtain⟨ad,y',ds,a1,a2,a3,a4,a5,a6⟩:=(jJ T).get (aZ j) J;rw[aW,hy]at a2;injection a2 with a2;subst a2;have Md:=a6;obtain⟨G,rfl⟩:∃G,D=G+1:=by
    cases D with
    | zero=>exact a6.elim
    | succ G=>exact⟨G,rfl⟩
   obtain⟨tT,tU,qk,iE,rfl,_⟩:=Md;have sB:=ld hy;have aS:I (xs++⟨f.k,f.nm,pa,dp,0⟩::qE (I xs+1) (I xs) (dp+1) (g.take j))=I xs+1+dx (g.take j):=by
    rw[aO,ba,ur];omega
   refine⟨ad,a1,_,_,_,_,tT,tU,qk,iE,_,a5,λk6 w6 XQ Ol dY=>?_⟩;have z6:=dY.size;have m6:jO b s w q w6:=T.trans (jO.only dY);rw[fe J J,r];refine(adA t (G+1) (pa:=((I xs:Nat):Int)) ((cA t (G+1)).keep a6 λk _ W=>dY.block k W aaV) (s:=q) (xs:=xs++⟨f.k,f.nm,pa,dp,0⟩::qE (I xs+1) (I xs) (dp+1) (g.take j)) (b:=b) (dp:=dp+1) hF (dY.blk u7 aaV) (P.zJ dY.p0 λ_ _ _ h=>h) (by rw[aS];omega) J J).mono ?_;rintro _ w7 ⟨rfl,q7,aT,TN,m7⟩;have z7:=m7.1.size;refine⟨rfl,m7.1.same λx o=>?_,v-1,J,j+1,q7,aaA,J,J,aT,?_,m6.trans m7,J,λk hk e=>?_⟩
   ·simp only[aY,bA,cf]at o;rcases o with rfl | rfl
    ·exact⟨J,λh=>h.elim J λh=>n5 _ h rfl⟩
    refine⟨Ol,λh=>h.elim J λh=>?_⟩;have:=(P.blk h).2;dsimp only at this;omega
   ·have e:g.take (j+1)=g.take j++[y]:=ahF
    rw[e,Hp,qE,qE,bG];rw[aS,bC,ca]at TN;exact TN
   subst e;rcases m7.2 _ hk with h | h
   ·exact n5 _ h rfl
   omega
  intro hc w8 y;have lc:j=I g:=abO
  subst lc;rw[bp (aX _)]at P;have xE:=y.blk u7 aaV;have G:gW (b+1) w8 q _:=P.zJ y.p0 λ_ _ _ h=>h;have z8:=y.size;have uG:(xs++⟨f.k,f.nm,pa,dp,0⟩::qE (I xs+1) (I xs) (dp+1) g)[I xs]? =aM ⟨f.k,f.nm,pa,dp,0⟩:=by
   rw[cd (aX _),lr];rfl
  obtain⟨i,cells,Ci,p1,p2,p3,p4,p5,p6,p7⟩:=Own.SF dI G uG;have s:Ci=spv ⟨f.k,f.nm,pa,dp,0⟩:=p6;subst s;have bY:q.n=I xs+1+dx g:=by rw[P.len,aO,ba,ur];omega
  obtain⟨p8,p9⟩:=p7 4 (O U (q.n:Int)) ⟨f.k,f.nm,pa,dp,(q.n:Int)⟩ (λ_=>False) X rfl λ_ h=>h.elim;rw[<-r]at p2;have bV:=(P.blk p1).1;dsimp only at bV;refine⟨q,cell xE,q,cell xE,_,p2,i,I xs*5+4,cells,_,by rw[gu,r],p3,by rw[<-r]at p8⊢;exact p8,λe=>n5 i p1 e.symm,λw9 t x=>⟨rfl,q,t.blk xE aba,?_,?_⟩⟩
  ·have:=p9 w9 t x;rw[nB _ _ (aX _),lr,LN]at this;rw[Bt];have e:(q.n:Int)=((I xs+1+dx g:Nat):Int):=by rw[bY]
   rw[e]at this;exact this
  refine(T.trans (jO.only y)).trans ⟨t.p λk hk=>?_,λk hk=>.inl hk⟩;simp only[aP]at hk;subst hk;exact .inl (.inr p1)
def aaO{w:M}{F:aJ}{a:Nat}{c:Ch}{v:Sl}{s:aI}(h:ChR aL (a+1) w F c v s)(f:Mb c)(g:nr c.vars+lf c.root<=8388608)(d:Er w)(T:Tb w):
  az Q 64 #[ah (v.v::s).toArray] w λe i=>e=ak (O U (iH c).2)/\Z [] w i:=by
 obtain⟨n,l,mv,kids,rfl,_⟩:=h.root;refine ret (akv _ _ _ _ _ _ _ _ _ _ ?_);intro p j o m D;have Y:ChR aL (a+1) j F c v (od c.root.b.k c.root.b.nm c.root.b.ini c.root.b.dft n l mv kids c.root.b.a):=⟨h.vars.keep fh X λk _ b=>D.block k b aaV,(cA aL _).keep h.root λk _ b=>D.block k b aaV⟩
 refine(aaL Y f g (d.only D) (T.only D)).mono ?_;rintro _ q ⟨rfl,E⟩;exact⟨_,_,rfl,E.same aba,rfl,D.cn E⟩
def wQ{c:Ch}(a:(iH c).2=0):iB c.root<=64:=by
 unfold iH at a;by_cases h:rl c=L
 ·unfold rl at h;simp only[aU]at h;exact(aN h.2).2.2.1
 rw[aR h]at a;exact absurd a X
def VL{w:M}{F:aJ}{D:Nat}{c:Ch}{d:Sl}{f:aI}(a:ChR aL (D+1) w F c d f)(i:Mb c)(j:nr c.vars+lf c.root<=8388608)(E:Er w)(g:Tb w):
  az Q 35 #[ah (d.v::f).toArray] w λe b=>(∃s,e=ak (ai #[Sl.v s,O U (iH c).2])/\((iH c).2=0->gW w.heap.size b s (dz c))/\((iH c).2≠0->s=Sl.nil))/\Z [] w b:=by
 obtain⟨n,l,mv,kids,m,_⟩:=a.root;subst m;refine(aqK d c.root.b.k (T c.root.b.nm) (T c.root.b.ini) (T c.root.b.dft) n l mv kids c.root.b.a (λv b=>(∃s,v=ai #[Sl.v s,O U (iH c).2]/\((iH c).2=0->gW w.heap.size b s (dz c))/\((iH c).2≠0->s=Sl.nil))/\Z [] w b) w ?_).mono ?_
 ·intro y B T v e;have G:=e.size;have keep:∀{u:M},Z [] w u->ChR aL (D+1) u F c d (od c.root.b.k c.root.b.nm c.root.b.ini c.root.b.dft n l mv kids c.root.b.a):=λp=>⟨a.vars.keep fh X λk _ W=>p.block k W aaV,(cA aL _).keep a.root λk _ W=>p.block k W aaV⟩
  refine(aaO (keep e) i j (E.only e) (g.only e)).mono ?_;rintro _ C ⟨rfl,o⟩;have H:=o.size;have q:=e.cn o;refine⟨_,rfl,o.same aba,λhc=>?_,λhc z t A S R r=>?_⟩
  ·have hc:(iH c).2≠0:=abv
   exact⟨⟨Sl.nil,rfl,λh=>absurd h hc,λ_=>rfl⟩,q⟩
  have hc:(iH c).2=0:=abv
  have am:=wQ hc;have Y:=q.cn R;have z2:=R.size;have N:mz aL (D+1) t (λk=>k<w.heap.size) c.root (od c.root.b.k c.root.b.nm c.root.b.ini c.root.b.dft n l mv kids c.root.b.a):=
   (cA aL _).keep ((cA aL _).mono ((cA aL _).inHeap a.root) λk hk=>hk.2) λk _ W=>Y.block k W aaV
  refine(adA aL (D+1) (s:=Sl.nil) (xs:=[]) (pa:= -1) (dp:=0) N (λk hk=>J) r (Own.nil _ _ _ _ _ _) ack X J).mono ?_;rintro _ w3 ⟨rfl,s',tN,V,P⟩;have z3:=P.1.size;refine⟨rfl,P.1.same λx a=>?_,s',tN,⟨s',by rw[hc],λ_=>?_,λh=>absurd hc h⟩,?_⟩
  ·simp only[aP]at a;subst a;exact⟨J,λh=>h.elim J λh=>abG⟩
  ·rw[cb]at V;exact Own.low V J
  exact(Y.oQ P.1).only λk hk=>hk.elim J λh=>abG
 rintro _ b ⟨v,rfl,⟨s,rfl,h,c⟩,e⟩;exact⟨⟨s,rfl,h,c⟩,e⟩
section
variable {w:M} {F:aJ} {l:Sl} {xs:List dN}
def jQ(c:aA tA 5 w F l xs){i:Nat}{x:dN}(d:xs[i]? =aM x):∃ad,cT l (i:Int) 5 ad/\aB w ad (spv x)/\aB w (ad.add 2) [O U x.pa]/\aB w (ad.add 3) [O U x.dp]/\aB w (ad.add 4) [O U x.en]:=by
 have W:=(bf.1 d).1;have o:=c.len;obtain⟨ad,y,s,e,g,k,m,b,a⟩:=c.get (aZ i) J;rw[aW,d]at g;injection g with g;subst g;have a:s=spv x:=a;subst a;have one:∀(n:Nat) (v:aw),(spv x)[n]? =aM v->aB w (ad.add n) [v]:=λn v f j u h=>by
  cases j with
  | zero=>
   rw[cw,bN]at h;subst h;have:=b n v f;rw[qG,eE];exact this
  | succ j=>simp at h
 exact⟨ad,e,b,one 2 _ rfl,one 3 _ rfl,one 4 _ rfl⟩
def Hz(x:List dN)(n:Int):Bool:=decide (n>=0)&&decide (n<(I x:Int))
def tB{n:Int}:Hz xs n=L↔xU xs n:=by
 unfold Hz xU;rw[aU,cP,cP]
def VM(h:aA tA 5 w F l xs)(n:Int):az Q 120 #[l.v,O U n] w λe a=>e=ak (aj (Hz xs n))/\a=w:=by
 refine ret (aq1 _ _ ?_);rw[h.len];exact⟨rfl,rfl⟩
noncomputable def R4(xs:List dN)(b a:Int):Bool:=open Classical in decide (∃i j:Nat,b=i/\a=j/\tq xs i j)
def tC{b a:Int}:R4 xs b a=L↔∃i j:Nat,b=i/\a=j/\tq xs i j:=by
 unfold R4;exact @cP _ (Classical.propDecidable _)
def Ky(h:aA tA 5 w F l xs)(i:Fo xs)(b a:Int):az Q 141 #[l.v,O U b,O U a] w λe d=>e=ak (aj (R4 xs b a))/\d=w:=by
 refine ret (ara _ _ _ ?_);refine⟨λr d=>r=R4 xs b a/\d=w,λr d ⟨f,g⟩=>⟨by rw[f],g⟩,(VM h a).mono ?_⟩;rintro _ _ ⟨rfl,rfl⟩;refine⟨_,rfl,λc=>(VM h b).mono ?_,λc=>⟨?_,rfl⟩⟩
 ·rintro _ _ ⟨rfl,rfl⟩;have c:=tB.1 c;by_cases e:(Hz xs b&&decide (b<=a))=L
  ·rw[aU]at e;have t:=tB.1 e.1;have z:=aN e.2;obtain⟨j,rfl⟩:∃j:Nat,b=j:=⟨b.toNat,by have:=t.1;omega⟩
   obtain⟨l,rfl⟩:∃l:Nat,a=l:=⟨a.toNat,by have:=c.1;omega⟩
   obtain⟨x,k⟩:=gj (xs:=xs) (i:=j) (by have:=t.2;omega);obtain⟨ad,m,o,_,_,n⟩:=jQ h k;refine⟨_,rfl,ad,λ_=>m,x.en,λ_=>n,?_,rfl⟩;rw[e.1,e.2,cm,cm,bM,tC,cP];constructor
   ·exact λh=>⟨j,l,rfl,rfl,x,k,J,h⟩
   rintro⟨p,s,a,q,y,b,f,g⟩;have a:j=p:=J
   subst a;rw[k,bN]at b;subst b;omega
  rw[oW]at e;refine⟨_,rfl,⟨0,0,aaf⟩,λh=>(by rw[e]at h;cases h),0,λh=>(by rw[e]at h;cases h),?_,rfl⟩;rw[e,cV,eq_comm,<-oW,tC];rintro⟨a,j,rfl,rfl,y,b,f,g⟩;have:=iw b;rw[show Hz xs (a:Int)=L from tB.2 ⟨J,J⟩,show decide ((a:Int)<=(j:Int))=L from bE J]at e;cases e
 rw[eq_comm,<-oW,tC];rintro⟨b,j,rfl,rfl,a⟩;have:=i.NQ a;rw[show Hz xs (j:Int)=L from tB.2 ⟨J,J⟩]at c;cases c
noncomputable def R5(xs:List dN)(a b:Int):Bool:=open Classical in decide (∃i j:Nat,b=i/\a=j/\i<j/\tq xs i j)
def DD{a b:Int}:R5 xs a b=L↔∃i j:Nat,b=i/\a=j/\i<j/\tq xs i j:=by
 unfold R5;exact @cP _ (Classical.propDecidable _)
def R6(h:aA tA 5 w F l xs)(g:Fo xs)(a b:Int):az Q 126 #[l.v,O U a,O U b] w λe c=>e=ak (aj (R5 xs a b))/\c=w:=by
 refine ret (aq5 _ _ _ ?_);refine⟨λr c=>r=R5 xs a b/\c=w,λr c ⟨d,f⟩=>⟨by rw[d],f⟩,λhc=>(Ky h g b a).mono ?_,λhc=>⟨?_,rfl⟩⟩
 ·rintro _ _ ⟨rfl,rfl⟩;have hc:a≠b:=abv
  refine⟨_,rfl,?_,rfl⟩;rw[bM,tC,DD];refine⟨λ⟨j,k,e,i,u⟩=>⟨j,k,e,i,?_,u⟩,λ⟨j,k,e,i,_,u⟩=>⟨j,k,e,i,u⟩⟩;obtain⟨s,_,B,_⟩:=u;omega
 have hc:a=b:=abv
 subst hc;rw[eq_comm,<-oW,DD];rintro⟨j,k,e,i,l,_⟩;omega
abbrev gn(B:Nat)(w:M)(s:Sl)(l:List Int):Prop:=Own iM 1 3 B w (λ_=>False) s l
def gn.of{B:Nat}{w:M}{F:aJ}{s:Sl}{l:List Int}(h:Own iM 1 3 B w F s l):gn B w s l:=by
 rcases h with⟨rfl,rfl⟩ | ⟨g,a,tail,b,d,e,f,i,j,m,k⟩
 ·exact .inl ⟨rfl,rfl⟩
 exact .inr ⟨g,a,tail,b,d,e,f,i,j,m,io.SG (λx c _ n=>n) k⟩
def afS(w:M){u:M}{s:Sl}{f:List Int}(h:gn w.heap.size u s f)(m:Z [] w u)(n:Int)(q:ub n)(C:I f<=20000000):
  ∃y b,(au 33 1 #[.mk 0 (O U n)]).run Q u=.ok (Sl.v y) b/\Z [] u b/\∃c a,(Builtin.append_ #[33,33] 33 #[Sl.v s,Sl.v y]).run Q b=.ok (Sl.v c) a/\gn w.heap.size a c (f++[n])/\Z [] w a/\aD (λk=>w.heap.size<=k) u a:=by
 obtain⟨y,b,z,k3,c,a,o,p,⟨B,j,l⟩,A⟩:=jV (P:=Q) (t:=33) (ty:=33) (e:=3) (i:=Tryz.t3) (bytes:=8) (size:=1) (r:=iM) (G:=λ_=>False) (v:=O U n) (x:=n) aaz aaz rfl rfl rfl rfl X X X cK h m.size rfl ⟨rfl,q⟩ (λ_ h=>h.elim) J;refine⟨y,b,z,k3,c,a,o,gn.of p,?_,k3.oQ (j.p λg d=>.inl (l g d).2.1)⟩;exact((m.cn k3).oQ (j.p (F:=λk=>w.heap.size<=k) λg d=>.inl (l g d).2.1)).only λk hk=>hk
end
section
variable {w:M} {F G:aJ} {l sN:Sl} {xs:List dN} {ns:List Int}
def aaP{k:Nat}(h:aA tA 5 w F l xs)(B:aF w k 43 [l.v])(n:Int):az Q 140 #[O U n,ae (aM ⟨k,0,aaf⟩)] w λe a=>e=ak (aj (!Hz xs n))/\a=w:=by
 refine ret (aq9 _ _ ?_);refine⟨l,B.cells 0 [_] λj v hj=>aeE,(VM h n).mono ?_⟩;rintro _ _ ⟨rfl,rfl⟩;exact⟨_,rfl,rfl,rfl⟩
def VN{k:Nat}(b:aA tA 5 w F l xs)(B:aF w k 43 [l.v])(h:aA iM 1 w G sN ns):az Q 119 #[sN.v,.func (.func 140) #[] #[ae (aM ⟨k,0,aaf⟩)]] w λe a=>(∃i:Int,e=ak (O U i)/\(i>=0↔∃n,n∈ns/\¬xU xs n))/\a=w:=by
 refine(ac8 sN ⟨.func (.func 140) #[] #[ae (aM ⟨k,0,aaf⟩)],rfl⟩ (λv a=>(∃i:Int,v=O U i/\(i>=0↔∃n,n∈ns/\¬xU xs n))/\a=w) w ?_).mono ?_
 ·have m:=h.len;have R:=h.cap;have g:=h.big;refine⟨λv i a=>∃j:Nat,i=(j:Int)/\v+j=I ns/\j<=I ns/\(∀n,n∈ns.take j->xU xs n)/\a=w,I ns,⟨0,rfl,J,bm _,λn c=>by simp at c,rfl⟩,?_⟩;rintro v _ e ⟨j,rfl,p,l,f,u⟩;obtain rfl:w=e:=u.symm;refine⟨λd=>?_,λd=>⟨⟨-1,rfl,λb=>absurd b X,λ⟨n,c,hb⟩=>absurd (f n ?_) hb⟩,rfl⟩⟩
  ·have d:=aN d;obtain⟨ad,y,x,r,o,z,A,s,t⟩:=h.get (aZ j) J;rw[aW]at o;obtain⟨rfl,C⟩:=t;refine⟨ad,r,y,s,140,[],[ae (aM ⟨k,0,aaf⟩)],rfl,kO aaz,(aaP b B y).mono ?_⟩;rintro _ e ⟨rfl,u⟩;obtain rfl:w=e:=u.symm;refine⟨_,rfl,λhb=>⟨⟨j,rfl,λ_=>⟨y,bB o,λq=>?_⟩,λ_=>J⟩,rfl⟩,λhb=>⟨v-1,J,j+1,aaA,J,J,λn c=>?_,rfl⟩⟩
   ·rw[tB.2 q]at hb;cases hb
   rw[bq,o,cj]at c;rcases c with c | c
   ·exact f n c
   simp only[Option.toList,aP]at c;subst c;exact tB.1 abP
  have d:=aQ d;rwa[bp J]
 rintro _ a ⟨v,rfl,⟨i,rfl,c⟩,d⟩;exact⟨⟨i,rfl,c⟩,d⟩
def amb(x:List dN)(s:List Int):Prop:=s=[]∨∃n,n∈s/\¬xU x n
def VO(h:aA tA 5 w F l xs)(c:Fo xs)(N:aA iM 1 w G sN ns):az Q 97 #[l.v,sN.v] w λe d=>(∃r:Int,e=ak (O U r)/\Mt xs ns r)/\Z [] w d:=by
 refine(aqZ l sN (λv d=>(∃r:Int,v=O U r/\Mt xs ns r)/\Z [] w d) w ?_).mono ?_
 ·intro x g T C D;have o:=N.len;have R:=N.cap;have z:=N.big;have A:=h.len;have j:∀{u:M},Z [] w u->aA tA 5 u F l xs:=λf=>SliceF.only dI X h f aaV;have kN:∀{u:M},Z [] w u->aA iM 1 u G sN ns:=λf=>SliceF.only cK X N f aaV;refine⟨λb q u=>(b=L↔amb xs ns)/\l=q/\Z [] w u,?_,λhc=>?_,λhc B=>?_⟩
  ·rintro b _ u ⟨hb,rfl,f⟩;refine⟨λY=>⟨⟨-1,rfl,.inl ⟨hb.1 Y,rfl⟩⟩,f⟩,λP=>?_⟩;have hg:¬amb xs ns:=λS=>by rw[hb.2 S]at P;cases P
   have ik:ns≠[]:=λe=>hg (.inl e);have S:∀n,n∈ns->xU xs n:=λn F=>Classical.byContradiction λhx=>hg (.inr ⟨n,F,hx⟩);have aC:0<I ns:=lS.2 ik;obtain⟨ad,W,cs,g1,H,g3,g4,g5,g6⟩:=(kN f).get (i:=0) J J;obtain⟨rfl,_⟩:=g6;have H:ns[0]? =aM W:=H;have V:=S W (bB H);obtain⟨G,rfl⟩:∃E:Nat,W=E:=⟨W.toNat,by have:=V.1;omega⟩
   have am:ns.take 1=[(G:Int)]:=by
    cases ns with
    | nil=>exact absurd rfl ik
    | cons a ns=>
     rw[cw,bN]at H;subst H;rfl
   refine⟨ad,g1,_,g5,⟨J,R⟩,λkv i1 i2 q u=>∃E v:Nat,i1=(E:Int)/\i2=(v:Int)/\kv+v=(I ns)-1/\v<=(I ns)-1/\l=q/\Z [] w u/\Top xs (ns.take (v+1)) E,(I ns)-1,⟨G,0,rfl,rfl,J,J,rfl,f,?_⟩,?_⟩
   ·rw[am];refine⟨G,rfl,λn F=>?_,λv a=>?_⟩
    ·simp only[aP]at F;subst F;exact⟨G,rfl,c.Xq (by have:=V.2;omega)⟩
    obtain⟨k,e,s,_,b,_⟩:=a G aaV;omega
   rintro kv _ _ _ u1 ⟨E,v,rfl,rfl,pZ,hj,rfl,b,a⟩;have Xu:=SliceF.cut (kN b) (lo:=1) (hi:=sN.n) (m:=sN.c) J R (aX _) (aX _);have pY:(sN.cut 1 sN.n sN.c 1).n=(I ns)-1:=by
    rw[Xu.len,ch,cG];omega
   refine⟨λhc=>?_,λhc=>?_⟩
   ·have hc:=aN hc;obtain⟨bY,n3,cs,p1,p2,p3,p4,p5,p6⟩:=Xu.get (aZ v) J;obtain⟨rfl,_⟩:=p6;rw[aW,List.getElem?_take_of_lt J,gX]at p2;have p2:ns[v+1]? =aM n3:=by rw[<-p2];congr 1;omega
    have aT:=S n3 (bB p2);obtain⟨t,rfl⟩:∃E:Nat,n3=E:=⟨n3.toNat,by have:=aT.1;omega⟩
    have nY:ns.take (v+1+1)=ns.take (v+1)++[(t:Int)]:=by rw[bq,p2];rfl
    obtain⟨m',em,t1,t2⟩:=a;have em:E=m':=J
    subst em;refine⟨bY,p1,_,p5,λbV i4 q u=>∃E:Nat,i4=(E:Int)/\E=bV/\l=q/\Z [] w u/\(∀n,n∈ns.take (v+1)->∃k:Nat,n=k/\tq xs E k)/\∀j':Nat,(∀n,n∈ns.take (v+1+1)->∃k:Nat,n=k/\tq xs j' k)->j'<=E,E,⟨E,rfl,rfl,rfl,b,t1,λj' aS=>t2 j' λn F=>aS n ?_⟩,?_⟩
    ·rw[nY];exact E1 _ F
    rintro bV _ _ u2 ⟨q,rfl,rfl,rfl,w,q1,q2⟩;refine(Ky (j w) c q t).mono ?_;rintro _ u3 ⟨rfl,hu⟩;obtain rfl:u2=u3:=hu.symm;refine⟨_,rfl,cr.refl _ _,λl=>?_,λl=>?_⟩
    ·have l:¬∃i v:Nat,(q:Int)=i/\(t:Int)=v/\tq xs i v:=λe=>by rw[tC.2 e]at l;cases l
     have EI:t<I xs:=by have:=aT.2;omega
     have yu:0<q:=LO λe=>l ⟨0,t,J,rfl,c.zI EI⟩;have Yq:(G:Int)∈ns.take (v+1):=by
      rw[List.mem_iff_getElem?];exact⟨0,by rw[List.getElem?_take_of_lt J];exact H⟩
     have cc:q<I xs:=by
      obtain⟨k,_,s,e,_⟩:=q1 _ Yq;exact iw e
     obtain⟨y,hy⟩:=gj cc;obtain⟨p,s,r1,r2,r3,r4,r5,r6⟩:=c.par hy yu;obtain⟨xf,b1,_,b3,_,_⟩:=jQ (j w) hy;have co:tq xs p q:=⟨s,r3,J,r5⟩
     refine⟨xf,b1,y.pa,b3,p,r1,p,r2,rfl,rfl,w,λn F=>?_,λj' aS=>?_⟩
     ·obtain⟨k,e,hk⟩:=q1 n F;exact⟨k,e,c.Ih co hk⟩
     have y:=q2 j' aS;have i:j'≠q:=λe=>by
      subst e;obtain⟨k,e,hk⟩:=aS t (by rw[nY];simp);exact l ⟨j',k,rfl,e,hk⟩
     obtain⟨k,e,hk⟩:=aS G (by rw[nY];exact E1 _ Yq);obtain⟨p,e',n⟩:=q1 G Yq;have:k=p:=J
     subst this;obtain⟨s,v1,v2,v3⟩:=c.NR hk n y;exact r6 j' s v1 J v3
    have l:R4 xs q t=L:=by simpa using l
    obtain⟨p,s,i,k,e⟩:=tC.1 l;have i:q=p:=J
    have k:t=s:=J
    subst i k;refine⟨kv-1,J,q,v+1,rfl,aaA,J,J,rfl,w,q,rfl,λn F=>?_,q2⟩;rw[nY,cj]at F;rcases F with F | F
    ·exact q1 n F
    simp only[aP]at F;subst F;exact⟨t,rfl,e⟩
   have hc:=aQ hc;rw[bp J]at a;exact⟨⟨E,rfl,.inr ⟨⟨ik,S⟩,a⟩⟩,b⟩
  ·have hc:(sN.n:Int)=0:=abv
   exact⟨⟨λ_=>.inl (bP J),λ_=>rfl⟩,rfl,D⟩
  have hc:¬(sN.n:Int)=0:=abv
  refine(ac7 sN ⟨.func (.func 140) #[] #[ae (aM ⟨x,0,aaf⟩)],rfl⟩ (λv d=>(∃b:Bool,v=aj b/\(b=L↔∃n,n∈ns/\¬xU xs n))/\d=g) g ?_).mono ?_
  ·refine(VN (j D) B (kN D)).mono ?_;rintro _ u ⟨⟨i,rfl,m⟩,a⟩;obtain rfl:g=u:=a.symm;exact⟨i,rfl,⟨_,rfl,by rw[cP];exact m⟩,rfl⟩
  rintro _ u ⟨v,rfl,⟨b,rfl,a⟩,e⟩;obtain rfl:g=u:=e.symm;refine⟨b,rfl,l,B,⟨λh=>.inr (a.1 h),λh=>?_⟩,rfl,D⟩;rcases h with h | h
  ·subst h;exact absurd (by rw[o];rfl) hc
  exact a.2 h
 rintro _ d ⟨v,rfl,⟨r,rfl,a⟩,b⟩;exact⟨⟨r,rfl,a⟩,b⟩
end
end Go.Proofs.YtfemabakfkliiaaGreatDoor.Con
namespace Go.Kt
open Go Go.RowKit Go.MapKept
structure acm {κ:Type} (d:TypeDesc) (kv:κ->aw) (g:κ->Prop):Prop where
 is:∀k,IsKey d (kv k)
 inj:∀{k l},kv k=kv l->k=l
structure MapV {κ:Type} (kv:κ->aw) (g:κ->Prop) (w:M) (r:Nat) (m:κ->Option aw) (n:Nat):Prop where
 mem:∃es clock,w.heap[r]? =aM (.map es clock)/\Stamped es clock/\es.size<=n/\(∀x,x∈es.toList->∃k,x.key=kv k/\g k)/\
  ∀k v,m k=aM v↔∃x,x∈es.toList/\x.key=kv k/\x.val=v
section
variable {κ:Type} {d:TypeDesc} {kv:κ->aw} {g:κ->Prop} {P:Program} {w w':M} {r n:Nat} {m:κ->Option aw} {mty kt et:TypeId}
def MapV.keep(h:MapV kv g w r m n)(hk:w'.heap[r]? =w.heap[r]?):MapV kv g w' r m n:=by
 obtain⟨e,c,a,b⟩:=h.mem;exact⟨e,c,hk.trans a,b⟩
def MapV.le(h:MapV kv g w r m n){n'}(i:n<=n'):MapV kv g w r m n':=by
 obtain⟨e,c,a,b,d,f⟩:=h.mem;exact⟨e,c,a,b,bH d i,f⟩
def MapV.lt(h:MapV kv g w r m n):r<w.heap.size:=by
 obtain⟨e,c,a,b⟩:=h.mem;exact(ob.1 a).1
def MapV.only(h:MapV kv g w r m n){bs}(a:Only bs w w')(b:r∉bs):MapV kv g w' r m n:=h.keep (a.block r h.lt b)
def MapV.ext(h:MapV kv g w r m n){m'}(j:∀k,m' k=m k):MapV kv g w r m' n:=by
 obtain⟨e,c,a,b,d,f,i⟩:=h.mem;exact⟨e,c,a,b,d,f,λk v=>by rw[j,i]⟩
def MapV.make w:(Instr.makeMap mty aaf).run P w=.ok (.map (aM w.heap.size)) (w.alloc (.map #[] 0))/\MapV kv g (w.alloc (.map #[] 0)) w.heap.size (λ_=>aaf) 0/\Only [] w (w.alloc (.map #[] 0)):=
 ⟨rfl,⟨#[],0,heap_alloc_new w _,stamped_empty 0,aaV,aaV,aaV⟩,Only.alloc _ _⟩
def adB(a:acm d kv g){s:Array MapEntry}(h:∀x,x∈s.toList->∃k,x.key=kv k/\g k):∀x∈s.toList,IsKey d x.key:=λx b=>by
 obtain⟨k,e,_⟩:=h x b;rw[e];exact a.is k
variable [DecidableEq κ]
def MapV.update(b:acm d kv g)(A:P.underlying mty=aM (.map kt et))(hd:P.underlying kt=aM d)(h:MapV kv g w r m n){k}(z:g k) v:
  ∃w',(Instr.mapUpdate mty (.map (aM r)) (kv k) v).run P w=.ok () w'/\MapV kv g w' r (λx=>if x=k then aM v else m x) (if m k=aaf then n+1 else n)/\Only [r] w w':=by
 obtain⟨y,c,f,p,hn,q,j⟩:=h.mem;have fin:∀{s:Array MapEntry} {l u:Nat},Stamped s l->s.size<=u->(∀x,x∈s.toList->∃k,x.key=kv k/\g k)->
   (∀c d,(∃x,x∈s.toList/\x.key=kv c/\x.val=d)↔(c=k/\d=v)∨(c≠k/\m c=aM d))->∀w',w'.heap[r]? =aM (.map s l)->MapV kv g w' r (λx=>if x=k then aM v else m x) u:=by
  intro s l u e B n w w' C;refine⟨s,l,C,e,B,n,λc d=>?_⟩;rw[w];by_cases H:c=k
  ·simp[H,Gb,bN,true_and,ne_eq,not_true_eq_false,false_and,cf];exact⟨λh=>h.symm,λh=>h.symm⟩
  simp[aR H,H,false_and,false_or,ne_eq,not_false_eq_true,true_and,mc]
 rcases findNow_spec (b.is k) y.toList 0 (adB b q)with⟨o,a⟩ | ⟨t,e,o,a,i⟩
 ·have T:m k=aaf:=by
   rcases hq:m k with _|v
   ·rfl
   obtain⟨x,d,hk,_⟩:=(j k v).1 hq;exact absurd hk (a x d)
  rw[aV T];refine⟨{w with heap:=w.heap.setIfInBounds r (.map (y.push {key:=kv k,val:=v,born:=c}) _)},?_,fin (stamped_push p a) aba ?_ ?_ _ (heap_set f).1,I8 f⟩
  ·simp[Instr.mapUpdate,run_underlying A,MapKept.run_getObj_map f,MapKept.run_checkKey hd (b.is k),MapKept.run_findKey hd o,MapKept.run_setObj_map _ f,Result.andThen]
  ·intro x d;simp only[Array.toList_push,cj,aP]at d;rcases d with d | rfl
   ·exact q x d
   exact⟨k,rfl,z⟩
  intro k v;simp only[Array.toList_push,cj,aP];constructor
  ·rintro⟨x,d | rfl,e,c⟩
   ·exact .inr ⟨λh=>a x d (by rw[e,h]),(j k v).2 ⟨x,d,e,c⟩⟩
   exact .inl ⟨(b.inj e).symm,c.symm⟩
  rintro(⟨rfl,rfl⟩ | ⟨hn,h⟩)
  ·exact⟨_,.inr rfl,rfl,rfl⟩
  obtain⟨x,d,e,c⟩:=(j k v).1 h;exact⟨x,.inl d,e,c⟩
 have d:=by simpa using a
 have c:=(bf.1 a).1;have T:m k≠aaf:=by rw[(j k e.val).2 ⟨e,bB a,i,rfl⟩];simp
 rw[aR T];refine⟨{w with heap:=w.heap.setIfInBounds r _},?_,
  fin (stamped_modify p t (λe=>{e with key:=kv k,val:=v}) (λ_ _=>rfl) (λm _ g=>by rw[d]at g;injection g with g;rw[<-g];exact i.symm)) aeb ?_ ?_ _ (heap_set f).1,I8 f⟩
 ·simp[Instr.mapUpdate,run_underlying A,MapKept.run_getObj_map f,MapKept.run_checkKey hd (b.is k),MapKept.run_findKey hd o,d,i,MapKept.run_keyThatStays (b.is k),MapKept.run_setObj_map _ f,Result.andThen]
 all_goals rw[Array.toList_modify,MA a]
 ·intro x e;rcases yj e with e | rfl
  ·exact q x e
  exact⟨k,rfl,z⟩
 intro e v;constructor
 ·rintro⟨x,w,m,n⟩;obtain⟨r,g⟩:=ig w;rw[Ot]at g;split at g
  ·injection g with g;rw[<-g]at m n;exact .inl ⟨(b.inj m).symm,n.symm⟩
  rename_i D;by_cases H:e=k
  ·have x:=(bf.1 g).1;have C:=ym.1 ((stamped_iff _ _).1 p).2.2;have ex:=(bf.1 g).2;have B:=(bf.1 a).2;exfalso;rcases Nat.lt_or_gt_of_ne D with W | k
   ·exact C t r c x W (by rw[B,ex,i,m,H])
   exact C r t x c k (by rw[B,ex,i,m,H])
  exact .inr ⟨H,(j e v).2 ⟨x,bB g,m,n⟩⟩
 rintro(⟨rfl,rfl⟩ | ⟨hn,h⟩)
 ·exact⟨_,List.mem_set c _,rfl,rfl⟩
 obtain⟨x,r,k,n⟩:=(j e v).1 h;obtain⟨m,g⟩:=ig r;refine⟨x,bB (i:=m) ?_,k,n⟩;rw[List.getElem?_set_ne]
 ·exact g
 rintro rfl;rw[a]at g;injection g with g;rw[<-g,i]at k;exact hn (b.inj k).symm
end
abbrev kS(s:List UInt8):aw:=.string ⟨s.toArray⟩
abbrev gS(s:List UInt8):Prop:=I s<=maxLen
def amc:acm .string kS gS:=⟨λ_=>trivial,λh=>abT⟩
abbrev kN(k:Int):aw:=.int .i64 k
section
variable {κ:Type} {d:TypeDesc} {kv:κ->aw} {g:κ->Prop} {P:Program} {w w':M} {r n:Nat} {m:κ->Option aw} {mty kt et:TypeId}
def MapV.abA(a:acm d kv g)(j:P.underlying mty=aM (.map kt et))(hd:P.underlying kt=aM d){z:aw}(t:∀w,(zeroValue et).run P w=.ok z w)(p:MapV kv g w r m n)(k:κ):
  (Instr.lookup mty (.map (aM r)) (kv k) L).run P w=.ok (.tuple #[(m k).getD z,.bool (m k).isSome]) w:=by
 obtain⟨s,c,h,u,l,q,i⟩:=p.mem;rcases findNow_spec (a.is k) s.toList 0 (adB a q)with⟨b,f⟩ | ⟨y,e,b,f,o⟩
 ·have l:m k=aaf:=by
   rcases T:m k with _|v
   ·rfl
   obtain⟨x,c,hk,_⟩:=(i k v).1 T;exact absurd hk (f x c)
  simp[Instr.lookup,run_underlying j,MapKept.run_getObj_map h,MapKept.run_checkKey hd (a.is k),MapKept.run_findKey hd b,Result.andThen,t,l]
 have c:=bB f;have T:m k=aM e.val:=(i k e.val).2 ⟨e,c,o,rfl⟩;simp[Instr.lookup,run_underlying j,MapKept.run_getObj_map h,MapKept.run_checkKey hd (a.is k),MapKept.run_findKey hd b,Result.andThen,T]
end
end Go.Kt
namespace Go.Proofs.YtfemabakfkliiaaGreatDoor.Con
open Go Go.RowKit Go.Kt Go.Kt.V Go.Proofs.YtfemabakfkliiaaGreatDoor.Vc
def mI(l:List (aH)):aH->Option aw:=λk=>if yR k l<I l then aM (.int U (yR k l:Nat))else aaf
def P8(l:List (aH))(x k:aH):mI (l++[x]) k=if x∈l then mI l k else if k=x then aM (.int U (I l:Nat))else mI l k:=by
 unfold mI;rw[aO,bI];by_cases hk:k∈l
 ·have a:=pf.2 hk;rw[Ht [x] hk,aV J,aV a];by_cases h:x∈l
  ·rw[aV h]
  rw[aR h,aR λe=>h abW]
 have a:¬yR k l<I l:=λh=>hk (pf.1 h);rw[aR a];by_cases e:k=x
 ·subst e;rw[aR hk,aV rfl,Hu [] hk,aV J]
 have:¬yR k (l++[x])<I (l++[x]):=λh=>by
  have:=pf.1 h;rw[cj,aP]at this;exact this.elim hk e
 rw[aO,bI]at this;rw[aR this,aR e];split<;>rfl
def aaQ(l:List (aH))(k:aH):(mI l k).isSome=decide (k∈l):=by
 unfold mI;by_cases hk:k∈l
 ·rw[aV (pf.2 hk),bE hk];rfl
 rw[aR λh=>hk (pf.1 h),bD hk];rfl
abbrev YW(w:M)(r:Nat)(l:List (aH)):Prop:=MapV kS gS w r (mI l) (I l)
def YW.at{w:M}{r:Nat}{l:List (aH)}(h:YW w r l)(k:aH):(Instr.lookup 128 (.map (aM r)) (K (T k)) L).run Q w=.ok (ai #[O U (if yR k l<I l then(yR k l:Nat)else 0:Int),aj (decide (k∈l))]) w:=by
 have:=h.abA (P:=Q) (mty:=128) (kt:=9) (et:=3) (z:=O U 0) amc aaz aaz (λw=>Tryz.zeroValue3 w) k;rw[aaQ]at this;rw[this];unfold mI;split<;>rfl
def YW.add{a:M}{r:Nat}{l:List (aH)}(h:YW a r l){x:aH}(e:gS x)(n:x∉l):
  ∃w,(Instr.mapUpdate 128 (.map (aM r)) (K (T x)) (O U (I l:Nat))).run Q a=.ok () w/\YW w r (l++[x])/\Z [r] a w:=by
 obtain⟨w,b,c,d⟩:=h.update (P:=Q) (mty:=128) (kt:=9) (et:=3) amc aaz aaz e (O U (I l:Nat));refine⟨w,b,(c.ext λk=>?_).le ?_,d⟩
 ·rw[P8,aR n]
 rw[aO,bI];split<;>omega
def YW.has{w:M}{r:Nat}{l:List (aH)}(h:YW w r l){x:aH}(a:x∈l):YW w r (l++[x]):=by
 refine(h.ext λk=>?_).le acN;rw[P8,aV a]
structure Lo (w:M) (b m0 m1:Nat) (s:Sl) (nn vn:List (aH)) (f:Ft):Prop where
 blk:aF w b 130 [.map (aM m0),s.v,.map (aM m1),O U f.1,O U f.2]
 nm:YW w m0 nn
 vr:YW w m1 vn
 n0:m0<m1
 n1:m1<b
section
variable {w w':M} {b m0 m1:Nat} {s:Sl} {nn vn:List (aH)} {f:Ft}
def Lo.only(h:Lo w b m0 m1 s nn vn f){a:List Nat}(c:Z a w w')(d:b∉a)(e:m0∉a)(g:m1∉a):Lo w' b m0 m1 s nn vn f:=⟨c.blk h.blk d,h.nm.only c e,h.vr.only c g,h.n0,h.n1⟩
def Lo.o0(h:Lo w b m0 m1 s nn vn f)(a:Z [] w w'):Lo w' b m0 m1 s nn vn f:=h.only a aaV aaV aaV
def Lo.kY(h:Lo w b m0 m1 s nn vn f)(c:Z [b] w w'){s':Sl}{a:Ft}(B:aF w' b 130 [.map (aM m0),s'.v,.map (aM m1),O U a.1,O U a.2]):Lo w' b m0 m1 s' nn vn a:=
 ⟨B,h.nm.only c (by have:=h.n0;have:=h.n1;simp;omega),h.vr.only c (by have:=h.n1;simp;omega),h.n0,h.n1⟩
def Lo.lt(h:Lo w b m0 m1 s nn vn f):b<w.heap.size:=h.blk.lt
def B5(w:M)(k:Int):az Q 123 #[O U k] w λe w'=>e=ak (aj (iu k))/\w'=w:=by
 refine ret (aq2 _ ?_);refine⟨?_,rfl⟩;unfold iu;rw[show((k==3)||(k==4))=decide (k=3∨k=4) by rw[bM];simp]
def HA(h:Lo w b m0 m1 s nn vn f)(ok:Bool)(e a:Int):az Q 90 #[ae (aM ⟨b,0,aaf⟩),aj ok,O U e,O U a] w λr w'=>r=ak (ai #[])/\Lo w' b m0 m1 s nn vn (iY f (bad ok e a))/\Z [b] w w':=by
 refine ret (aqT _ _ _ _ ?_);rw[aaB];refine⟨f.1,λ_=>Blk.dM h.blk 3 rfl,λc=>⟨b,3,_,_,rfl,h.blk,aaV,λg d B=>⟨rfl,?_,d⟩⟩,λc=>⟨rfl,?_,Only.refl _ _⟩⟩
 ·rw[aV c];exact h.kY d B
 rw[aR (by rw[c];decide)];exact h
def VQ(h:Lo w b m0 m1 s nn vn f){x:aH}(hx:gS x)(a:Int):az Q 62 #[ae (aM ⟨b,0,aaf⟩),.map (aM m0),K (T x),O U (I nn:Nat),O U a] w λr w'=>r=ak (ai #[])/\Lo w' b m0 m1 s (nn++[x]) vn (iY f (bad (!decide (x∈nn)) 24 a))/\Z [b,m0] w w':=by
 refine ret (aku _ _ _ _ _ ?_);refine⟨_,_,w,h.nm.at x,(HA h _ 24 a).mono ?_⟩;rintro _ d ⟨rfl,c,E⟩;refine⟨rfl,λhc=>?_,λhc=>?_⟩
 ·obtain⟨w,a,e,u⟩:=c.nm.add hx abv;refine⟨w,a,rfl,⟨u.blk c.blk (by have:=h.n0;have:=h.n1;simp;omega),e,c.vr.only u (by have:=h.n0;simp;omega),h.n0,h.n1⟩,(E.weaken (bs':=[b,m0]) (λx hx=>.inl abZ)).trans u λx hx=>.inl abZ⟩
 exact⟨rfl,⟨c.blk,c.nm.has abv,c.vr,h.n0,h.n1⟩,E.weaken λx hx=>.inl abZ⟩
def VR(h:Lo w b m0 m1 s nn vn f){x:aH}(hx:gS x)(a:Int):az Q 62 #[ae (aM ⟨b,0,aaf⟩),.map (aM m1),K (T x),O U (I vn:Nat),O U a] w λr w'=>r=ak (ai #[])/\Lo w' b m0 m1 s nn (vn++[x]) (iY f (bad (!decide (x∈vn)) 24 a))/\Z [b,m1] w w':=by
 refine ret (aku _ _ _ _ _ ?_);refine⟨_,_,w,h.vr.at x,(HA h _ 24 a).mono ?_⟩;rintro _ d ⟨rfl,c,E⟩;refine⟨rfl,λhc=>?_,λhc=>?_⟩
 ·obtain⟨w,a,e,u⟩:=c.vr.add hx abv;refine⟨w,a,rfl,⟨u.blk c.blk (by have:=h.n1;simp;omega),c.nm.only u (by have:=h.n0;simp;omega),e,h.n0,h.n1⟩,(E.weaken (bs':=[b,m1]) (λx hx=>.inl abZ)).trans u λx hx=>.inl abZ⟩
 exact⟨rfl,⟨c.blk,c.nm,c.vr.has abv,h.n0,h.n1⟩,E.weaken λx hx=>.inl abZ⟩
end
def Ng(P:aJ)(s:Sl)(w:M)(a:Sl)(b:M):Prop:=aD (λk=>P k∨s.a=aM ⟨k,0,aaf⟩) w b/\∀k,a.a=aM ⟨k,0,aaf⟩->s.a=aM ⟨k,0,aaf⟩∨w.heap.size<=k
def Ng.trans{P:aJ}{s t u:Sl}{w b a:M}(h:Ng P s w t b)(g:Ng P t b u a):Ng P s w u a:=by
 refine⟨h.1.trans g.1 λk hk=>?_,λk hk=>?_⟩
 ·rcases hk with hk | hk
  ·exact .inl (.inl hk)
  exact(h.2 k hk).elim (λh=>.inl (.inr h)) .inr
 rcases g.2 k hk with hk | hk
 ·exact h.2 k hk
 exact .inr (bH h.1.size hk)
def Ng.of{P:aJ}{s:Sl}{w a:M}{b:List Nat}(h:Z b w a)(c:∀k,k∈b->P k):Ng P s w s a:=⟨h.p λk hk=>.inl (.inl (c k hk)),λk hk=>.inl hk⟩
def sp0:dN:=⟨0,[],0,0,0⟩
def VS:∀(D:Nat) {w:M} {F:aJ} {x:Nd} {g:aI} {b m c:Nat} {s:Sl} {n d:List (aH)} {f:Ft},mz aL D w F x g->(∀k,F k->k<m)->Lo w b m c s n d f->gW (b+1) w s (List.replicate (I n) sp0)->
  lf x<=8388608->I n+iB x<=1000000->
  az Q 61 #[ae (aM ⟨b,0,aaf⟩),ah g.toArray] w λe a=>e=ak (ai #[])/\∃h,Lo a b m c h (n++(zR x).map λp=>p.1) d (iY f (uu n (zR x)))/\gW (b+1) a h (List.replicate (I n+iB x) sp0)/\Ng (λk=>k=b∨k=m) s w h a
 | 0,_,_,_,_,_,_,_,_,_,_,_,b,_,_,_,_,_=>b.elim
 | D+1,w,F,.mk l j,g,b,m,c,s,n,d,f,⟨en,lv,mv,kids,ix,_,V⟩,hF,S,hS,hz,hn=>by
  have hk:=V.1;clear V;dsimp only[Nd.kids,Nd.b]at hk ix;subst ix;rw[iB]at hn;rw[lf]at hz;have ET:=hk.len;have aT:=nQ j;have n0:=S.n0;have n1:=S.n1;have TQ:gS l.nm:=by
   show (I l.nm)<=maxLen;have:maxLen=9223372036854775807:=rfl;unfold wO at hz;omega
  refine ret (aqN _ _ _ _ _ _ _ _ _ _ ?_);intro k0 w0 V dZ H;have z0:=H.size;have EJ:=S.lt;have Y:=S.o0 H;have Zy:gW (b+1) w0 s _:=hS.zJ H.p0 λ_ _ _ i=>i;have SL:s.n=I n:=by rw[hS.len,kj]
  have qA:s.a≠aM ⟨k0,0,aaf⟩:=λe=>abU
  refine⟨_,Blk.dM Y.blk 0 rfl,s,Blk.dM Y.blk 1 rfl,?_⟩;dsimp only;rw[SL];refine(VQ Y TQ l.a).mono ?_;rintro _ w1 ⟨rfl,A,N⟩;have z1:=N.size;have am:gW (b+1) w1 s (List.replicate (I n) sp0):=Zy.zJ (G:=λk=>k=b∨k=m) (N.p λk hk=>.inl abI) λk i _=>J
  have aC:Ng (λk=>k=b∨k=m) s w s w1:=(Ng.of H aaV).trans (Ng.of N aaV);obtain⟨y,w2,k1,k3,u,w3,g1,g2,⟨gs,R,g4⟩,g5⟩:=jV (P:=Q) (t:=43) (ty:=43) (e:=59) (i:=Tryz.t59) (bytes:=48) (size:=5) (r:=tA) (G:=λ_=>False) (v:=ah #[O U 0,K (ao #[]),O U 0,O U 0,O U 0]) (x:=sp0) aaz aaz rfl rfl rfl rfl X X X dI am J rfl rfl (λ_ i=>i.elim) (by rw[kj];omega);have z2:=k3.size;have z3:=R.size;have z:∀o,o∈gs->b<o/\o<w1.heap.size/\s.a=aM ⟨o,0,aaf⟩:=λo C=>⟨by have:=(g4 o C).2.1;omega,(g4 o C).2.2,(g4 o C).1⟩
  have B:Lo w3 b m c s (n++[l.nm]) d _:=(A.o0 k3).only R (λi=>by have:=z _ i;omega) (λi=>by have:=z _ i;omega) (λi=>by have:=z _ i;omega);refine⟨rfl,N.same aba,s,Blk.dM A.blk 1 rfl,y,w2,k1,k3.same aba,u,w3,g1,R.same λx E=>?_,b,1,_,_,rfl,B.blk,aaV,J,λT W sE=>?_⟩
  ·simp only[aP]at E;subst E;exact⟨J,λi=>qA (z _ i).2.2⟩
  have z4:=W.size;have v:Lo T b m c u (n++[l.nm]) d (iY f (bad (!decide (l.nm∈n)) 24 l.a)):=B.kY W sE;have TL:gW (b+1) w3 u (List.replicate (I n+1) sp0):=by
   have:=gW.of g2;rwa[<-List.replicate_succ']at this
  have TM:gW (b+1) T u (List.replicate (I n+1) sp0):=TL.zJ (G:=λk=>k=b) (W.p aaV) λk i _=>J
  have m4:Ng (λk=>k=b∨k=m) s w u T:=by
   refine aC.trans ⟨((k3.oQ (R.p (F:=λk=>(k=b∨k=m)∨s.a=aM ⟨k,0,aaf⟩) λo C=>.inl (.inr (z o C).2.2))).trans (W.p (F:=λk=>k=b) aaV) λk hk=>.inl (.inl (.inl hk))),λk hk=>?_⟩;rcases g5 with e | ⟨o,e,i⟩
   ·exact .inl abW
   rw[e]at hk;injection hk with hk;injection hk with hk;exact .inr J
  have n4:∀k,u.a=aM ⟨k,0,aaf⟩->k≠k0:=λk hk e=>by
   subst e;rcases g5 with e | ⟨o,e,i⟩
   ·exact qA abW
   rw[e]at hk;injection hk with hk;injection hk with hk;omega
  have jJ:∀{bV:M} {q:Sl},Ng (λk=>k=b∨k=m) s w q bV->aA (mz aL D) 9 bV F kids j:=λhm=>SliceF.lO (cA aL D) X hk hm.1 λk xd _=>by
   have:=hF k xd;exact λi=>i.elim J λi=>by have:=(hS.blk i).1;dsimp only at this;omega
  refine⟨λkv aS a=>∃(r:Nat) (q:Sl),aS=(r:Int)/\kv+r=I j/\r<=I j/\Lo a b m c q (n++l.nm::(xA (j.take r)).map λp=>p.1) d (iY f (uu n ((l.nm,l.a)::xA (j.take r))))/\gW (b+1) a q (List.replicate (I n+1+dx (j.take r)) sp0)/\Ng (λk=>k=b∨k=m) s w q a/\T.heap.size<=a.heap.size/\∀k,q.a=aM ⟨k,0,aaf⟩->k≠k0,I j,⟨0,u,rfl,J,bm _,by
   rw[ci,xA,uu,uu,bG];exact v,by rw[ci,dx,eE];exact TM,m4,aX _,n4⟩,?_⟩
  rintro kv _ w5 ⟨r,q,rfl,pZ,mf,t,P,m5,z5,n5⟩;constructor
  ·intro hc;have hj:r<I j:=abL
   obtain⟨y,hy⟩:∃y,j[r]? =aM y:=⟨_,bh hj⟩
   obtain⟨ad,y',ds,a1,s,a3,a4,a5,a6⟩:=(jJ m5).get (aZ r) J;rw[aW,hy]at s;injection s with s;subst s;have Md:=a6;obtain⟨b,rfl⟩:∃b,D=b+1:=by
    cases D with
    | zero=>exact a6.elim
    | succ b=>exact⟨b,rfl⟩
   obtain⟨tT,tU,qk,iE,rfl,_⟩:=Md;have sB:=ld hy;have bY:=mH (bB hy);have G:I (n++l.nm::(xA (j.take r)).map λp=>p.1)=I n+1+dx (j.take r):=by
    rw[aO,ba,bJ,PE];omega
   refine⟨ad,a1,_,_,_,_,tT,tU,qk,iE,_,a5,λk6 w6 XQ Ol f=>?_⟩;have z6:=f.size;have Oj:=t.o0 f;have Tw:=t.lt;refine(VS (b+1) ((cA aL (b+1)).keep a6 λk _ bW=>f.block k bW aaV) hF Oj (by rw[G];exact P.zJ f.p0 λ_ _ _ i=>i) J (by rw[G];omega)).mono ?_;rintro _ w7 ⟨rfl,q7,xb,TN,F⟩;have z7:=F.1.size;have e:j.take (r+1)=j.take r++[y]:=ahF
   have q:xA (j.take (r+1))=xA (j.take r)++zR y:=by rw[e,Hs,xA,xA,bG]
   refine⟨rfl,F.1.same λx E=>?_,kv-1,J,r+1,q7,aaA,J,J,?_,?_,(m5.trans (Ng.of f aaV)).trans F,J,λk hk e=>?_⟩
   ·simp only[aY,bA,cf]at E;rcases E with rfl | rfl
    ·exact⟨J,λi=>i.elim J λi=>n5 _ i rfl⟩
    refine⟨Ol,λi=>i.elim J λi=>?_⟩;have:=(P.blk i).2;dsimp only at this;omega
   ·have e:n++l.nm::(xA (j.take (r+1))).map (λp=>p.1)=(n++l.nm::(xA (j.take r)).map λp=>p.1)++(zR y).map λp=>p.1:=by
     rw[q,cp,bC,ca]
    have k:uu n ((l.nm,l.a)::xA (j.take (r+1)))=uu n ((l.nm,l.a)::xA (j.take r))++uu (n++l.nm::(xA (j.take r)).map λp=>p.1) (zR y):=by
     rw[q,<-ca,yY];rfl
    rw[e,k,ga];exact xb
   ·rw[G]at TN;rw[e,yU,dx,dx,eE,<-dB];exact TN
   subst e;rcases F.2 _ hk with i | i
   ·exact n5 _ i rfl
   omega
  intro hc;have b:r=I j:=abO
  subst b;rw[bp (aX _)]at P t;refine⟨rfl,q,?_,?_,m5⟩
  ·rw[zR];exact t
  rw[iB,show (I n)+(dx j+1)=I n+1+dx j by omega];exact P
end Go.Proofs.YtfemabakfkliiaaGreatDoor.Con
namespace Go.Kt
open Go Go.RowKit
section
variable {P:Program} {w:M}
set_option maxRecDepth 20000 in
def zl {t it ty e:TypeId} {i:TypeInfo} {z:Value} (ht:P.underlying t=some (.slice e)) (hit:P.underlying it=some (.int .i64)) (hi:P.info? e=some i) (hz:i.zero=some z)
  {n:Nat} (hn0:0<n) (LY:0<i.size) (h63:n<=9223372036854775807) (SK:n*i.bytes<=281474976710656) (SJ:Builtin.nextslicecap n 0*i.bytes<=281474976710656):
  (Builtin.append_ #[t,it] ty #[.slice none 0 0,.int .i64 n]).run P w=
   .ok (.slice (some ⟨w.heap.size,0,none⟩) n (grownCap w n 0 e))
    (w.drew.alloc (.cells (Builtin.zeroCells z.cells n++Builtin.zeroCells z.cells (grownCap w n 0 e-n)) e)):=by
 have hn:¬(n<=0):=J
 have auK:¬(9223372036854775807<(n:Int)):=J
 have auL:¬(281474976710656<Builtin.nextslicecap n 0*i.bytes):=J
 have hwr:IntKind.i64.wrap (n:Int)=n:=fe J J;have oh:¬(281474976710656<(n:Int)*(i.bytes:Int)):=by
  have:((n*i.bytes:Nat):Int)<=281474976710656:=Int.ofNat_le.2 SK;rw[Int.natCast_mul]at this;omega
 have aco:¬((n:Int)<0):=J
 have ik:n≠0:=J
 have TK:n*i.size≠0:=by have:=Nat.mul_pos hn0 LY;omega
 simp[Builtin.append_,run_underlying ht,run_underlying hit,sizeOf,typeInfo,zeroValue,hi,hz,asInt,asIntOf,hwr,aco,oh,ik,TK,auK,auL,Question.forced,run_firstCells_none,newRow,grownCap]
def VT{o:Type}{r:Rp o}{F:Nat->Prop}{size bytes:Nat}{t it ty e:TypeId}{i:TypeInfo}{z:aw}(j:P.underlying t=aM (.slice e))(a:P.underlying it=aM (.int .i64))(g:P.info? e=aM i)(k:i.zero=aM z)(X:i.size=size)(S:i.bytes=bytes)(G:z.cells.size=size)
  {n:Nat} (h:0<n) (c:0<size) (m:n*bytes<=140737488355328) (B:0<bytes):
  ∃s b,(Builtin.append_ #[t,it] ty #[.slice aaf 0 0,.int .i64 n]).run P w=.ok (Sl.v s) b/\Own r size e w.heap.size b F (s.cut 0 0 s.c size) []/\Only [] w b/\s.a=aM ⟨w.heap.size,0,aaf⟩:=by
 subst X;subst S;have d:n<=140737488355328:=bH (by have:=Nat.mul_le_mul_left n B;omega) m;have f:=(growslice_fits h m:Builtin.nextslicecap n 0*i.bytes<=281474976710656)
 refine⟨⟨aM ⟨w.heap.size,0,aaf⟩,n,grownCap w n 0 e⟩,_,zl j a g k h c J J f,?_,(Only.drew w).cn (Only.alloc _ _),rfl⟩;have A:=grownCap_ge w n 0 e;have l:=grownCap_le_maxLen w n 0 e (by simp only[maxLen];omega);refine .inr ⟨w.heap.size,([]:List (List aw)),(Builtin.zeroCells z.cells n++Builtin.zeroCells z.cells (grownCap w n 0 e-n)).toList,?_,aX _,?_,?_,rfl,?_,?_,trivial⟩
 ·simp[Sl.cut,Addr.add]
 ·have:=Blk.alloc w.drew e (Builtin.zeroCells z.cells n++Builtin.zeroCells z.cells (grownCap w n 0 e-n)).toList;rw[Array.toArray_toList]at this;exact this
 ·rw[Array.toList_append,aO,yB w _ G,yB w _ G,<-iJ];simp only[Sl.cut];congr 1;omega
 ·simp[Sl.cut]
 simp only[Sl.cut];simp only[maxLen]at l;omega
end
end Go.Kt
namespace Go.Proofs.YtfemabakfkliiaaGreatDoor.Con
open Go Go.RowKit Go.Kt Go.Kt.V Go.Proofs.YtfemabakfkliiaaGreatDoor.Vc
structure Lx (w:M) (b m0 m1:Nat) (F:aJ) (s:Sl) (xs:List dN) (vn:List (aH)) (f:Ft):Prop where
 lo:Lo w b m0 m1 s (xs.map λx:dN=>x.nm) vn f
 sp:aA tA 5 w F s xs
 fo:Fo xs
 ln:I xs<=64
 nF:∀k,F k->k≠b
section
variable {w w':M} {b m0 m1:Nat} {F G:aJ} {s:Sl} {xs:List dN} {vn:List (aH)} {f g:Ft}
def Lx.o0(h:Lx w b m0 m1 F s xs vn f)(a:Z [] w w'):Lx w' b m0 m1 F s xs vn f:=⟨h.lo.o0 a,SliceF.only dI X h.sp a aaV,h.fo,h.ln,h.nF⟩
def Lx.to(h:Lx w b m0 m1 F s xs vn f)(a:Z [b] w w')(l:Lo w' b m0 m1 s (xs.map λx:dN=>x.nm) vn g):Lx w' b m0 m1 F s xs vn g:=
 ⟨l,SliceF.only dI X h.sp a λk hk _ hm=>h.nF k hk abR,h.fo,h.ln,h.nF⟩
def nS(h:Lx w b m0 m1 F s xs vn f)(ok:Bool)(e a:Int):az Q 90 #[ae (aM ⟨b,0,aaf⟩),aj ok,O U e,O U a] w λr w'=>r=ak (ai #[])/\Lx w' b m0 m1 F s xs vn (iY f (bad ok e a))/\Z [b] w w':=by
 refine(HA h.lo ok e a).mono ?_;rintro _ w' ⟨rfl,d,c⟩;exact⟨rfl,h.to c d,c⟩
def DE(s:List dN)(n:aH):fN s n= -1∨∃j:Nat,fN s n=j/\j<I s:=by
 rcases jE s n with⟨h,_⟩ | ⟨j,x,h,a,_⟩
 ·exact .inl h
 exact .inr ⟨j,h,iw a⟩
def HB(h:Lx w b m0 m1 F s xs vn f)(n:aH):az Q 124 #[.map (aM m0),K (T n)] w λr w'=>r=ak (O U (fN xs n))/\w'=w:=by
 refine ret (aq3 _ _ ?_);refine⟨_,_,w,h.lo.nm.at n,λa=>⟨?_,rfl⟩,λa=>⟨?_,rfl⟩⟩
 ·have l:=pf.2 (aN a);unfold fN;rw[aV l,aV (by rwa[bJ]at l)]
 have l:¬_:=λh=>aQ a (pf.1 h);unfold fN;rw[aR (by rwa[bJ]at l)]
def Kz(a:Lx w b m0 m1 F s xs vn f){n:Int}(e:n<I xs):az Q 125 #[ae (aM ⟨b,0,aaf⟩),O U n] w λr w'=>r=ak (aj (decide (0<=n)&&!iu (jI xs n)))/\w'=w:=by
 refine ret (aq4 _ _ ?_);refine⟨λr w'=>r=(decide (0<=n)&&!iu (jI xs n))/\w'=w,λr w' ⟨c,d⟩=>⟨by rw[c],d⟩,λh=>?_,λh=>⟨?_,rfl⟩⟩
 ·have h:0<=n:=aN h;obtain⟨j,rfl⟩:∃j:Nat,n=j:=⟨n.toNat,J⟩
  obtain⟨x,b⟩:=gj (xs:=xs) (i:=j) J;obtain⟨ad,f,g,_⟩:=jQ a.sp b;refine⟨s,Blk.dM a.lo.blk 1 rfl,ad,f,x.k,g.dM 0 _ rfl,(B5 w x.k).mono ?_⟩;rintro _ k ⟨rfl,u⟩;refine⟨_,rfl,?_,u⟩;rw[ic b,bE h];rfl
 rw[show decide (0<=n)=aL from h];rfl
def HC{b a:Nat}(c:Z [b] w w')(h:a≠b):bR (λk=>k=a) w w':=λk hk W=>c.block k W (by subst hk;simp[h])
def we{b:Nat}{u v:M}(h:Z [b] w u)(g:Z [b] u v):Z [b] w v:=h.trans g λx a=>.inl a
def Bw{b:Nat}(h:Z [] w w'):Z [b] w w':=h.weaken λx a=>(by simp at a)
def HD:∀(d:Nat) {w:M} {x:Ex} {c:aI} {f:Ft},MY aL d w G x c->(∀k,G k->k≠b)->Lx w b m0 m1 F s xs vn f->
  az Q 93 #[ae (aM ⟨b,0,aaf⟩),ah c.toArray] w λr w'=>r=ak (ai #[])/\Lx w' b m0 m1 F s xs vn (iY f (PF xs vn x))/\Z [b] w w'
 | 0,_,_,_,_,h,_,_=>h.elim
 | d+1,w,x,c,f,⟨sl,n,g⟩,j,h=>by
  subst n;have g:=g.1;refine ret (aqW _ _ _ _ _ _ _ ?_);intro l m T t D;have z:=D.size;have E:=h.lo.lt;have i:=h.o0 D;have q:=g.len;have p:=g.cap;have S:=g.big;have o:l≠b:=J
  refine⟨λu=>Lx u b m0 m1 F s xs vn (iY f (bad (LU xs vn x.k x.s) 23 x.a))/\Z [b] w u/\m.heap.size<=u.heap.size,?_,λhk=>?_,λhk=>⟨λa=>?_,λa=>?_⟩⟩
  ·rintro w1 ⟨N,R,W⟩;refine⟨λC P u=>∃v:Nat,P=(v:Int)/\C+v=I x.dC/\v<=I x.dC/\Lx u b m0 m1 F s xs vn (iY f (bad (LU xs vn x.k x.s) 23 x.a++tt xs vn (x.dC.take v)))/\Z [b] w u/\m.heap.size<=u.heap.size,I x.dC,⟨0,rfl,rfl,bm _,by rw[ci,tt,bG];exact N,R,W⟩,?_⟩;rintro C _ V ⟨v,rfl,pZ,Y,B,H,z2⟩;refine⟨λA=>?_,λA=>?_⟩
   ·have A:=aN A;have s:aA (MY aL d) 6 V G sl x.dC:=SliceF.only (lM aL d) X g H λk hk _ hm=>j k hk abR;obtain⟨ad,y,ds,F,a2,a3,a4,a5,b⟩:=s.get (aZ v) J;rw[aW]at a2;have w:=b;obtain⟨f,rfl⟩:∃e,d=e+1:=by
     cases d with
     | zero=>exact b.elim
     | succ e=>exact⟨e,rfl⟩
    obtain⟨sl',rfl,_⟩:=w;refine⟨ad,F,_,_,_,_,_,_,a5,λk3 w3 a sA d=>?_⟩;have z3:=d.size;refine(HD (f+1) ((lM aL (f+1)).keep b λk hk G=>d.block k G aaV) j (B.o0 d)).mono ?_;rintro _ w4 ⟨rfl,h4,e⟩;have z4:=e.size;have nY:x.dC.take (v+1)=x.dC.take v++[y]:=ahH
    have zU:=B.lo.lt;refine⟨rfl,e.same aba,C-1,J,v+1,aaA,J,J,?_,(H.cn d).trans e λx hx=>.inl hx,J⟩;rw[nY,Dt,tt,tt,bG,<-bC,ga];exact h4
   have A:=aQ A;have b:v=I x.dC:=J
   subst b;rw[bp (aX _),<-Vo]at B;exact⟨rfl,B,H⟩
  ·have hk:x.k=2:=abI
   intro w e;have s:=e.size;have d:=i.o0 e;refine⟨_,Blk.dM d.lo.blk 2 rfl,_,_,w,d.lo.vr.at x.s,cr.refl _ _,(nS d _ 23 x.a).mono ?_⟩;rintro _ k ⟨rfl,f,b⟩;have v:=b.size;refine⟨rfl,b.same aba,?_,we (Bw (D.cn e)) b,J⟩;have:LU xs vn x.k x.s=decide (x.s∈vn):=by unfold LU;rw[hk];simp
   rw[this];exact f
  ·have a:x.k=3:=by simpa using a
   intro w f;have G:=f.size;have b:=i.o0 f;refine⟨λk=>k=l,_,Blk.dM b.lo.blk 0 rfl,rfl,(HB b x.s).mono ?_⟩;rintro _ v ⟨rfl,d⟩;obtain rfl:w=v:=d.symm;refine⟨_,rfl,cr.refl _ _,bR.refl _ _,(Kz b (by rcases DE xs x.s with h | ⟨F,h,B⟩<;>omega)).mono ?_⟩;rintro _ A ⟨rfl,d⟩;obtain rfl:w=A:=d.symm;refine⟨_,rfl,cr.refl _ _,bR.refl _ _,(nS b _ 23 x.a).mono ?_⟩;rintro _ y ⟨rfl,s,e⟩;have C:=e.size;refine⟨rfl,e.same aba,HC e o,?_,we (Bw (D.cn f)) e,J⟩;have:LU xs vn x.k x.s=IB xs x.s:=by unfold LU;rw[a];simp
   rw[this];exact s
  have F:x.k≠2:=abI
  have a:x.k≠3:=by simpa using a
  have:LU xs vn x.k x.s=L:=by unfold LU;simp[F,a]
  rw[this];exact⟨i,Bw D,aX _⟩
end
def KA:Rp Sl:=λ_ _ x c=>c=[x.v]
def ux:KA.Ok:=⟨λh _=>h,λh=>h,λh _=>h,λh=>by
 unfold KA at h;subst h;intro v a;simp only[aP]at a;subst a;rfl⟩
abbrev P9(B:Nat)(w:M)(G:aJ)(s:Sl)(l:List Ac):Prop:=Own (qv aL) 9 161 B w G s l
def aaR(w:M)(G:aJ){n:Nat}(c:n<=20000000):az Q 169 #[Sl.nil.v,O U (n:Int)] w λe a=>(∃s:Sl,e=ak s.v/\P9 w.heap.size a G s [])/\Z [] w a:=by
 refine iW (alt _ _ ?_);have b:ar U ((n:Int)-(ar U ((Sl.nil.c:Int)-(Sl.nil.n:Int))))=n:=by
  show ar U ((n:Int)-(ar U (((0:Nat):Int)-((0:Nat):Int))))=n;rw[fe (x:=((0:Nat):Int)-((0:Nat):Int)) J J,fe J J];omega
 refine⟨λu=>w=u,?_,λh=>?_,λ_=>rfl⟩
 ·rintro _ rfl;rw[b];refine⟨λl u=>P9 w.heap.size u G l []/\Z [] w u,λl u d=>⟨⟨l,rfl,d.1⟩,d.2⟩,λh=>?_,λh=>⟨Own.nil _ _ _ _ _ _,Only.refl _ _⟩⟩;have h:=aN h;obtain⟨s,k,g,f,j,_⟩:=VT (P:=Q) (w:=w) (r:=qv aL) (F:=G) (size:=9) (bytes:=104) (t:=23) (it:=3) (ty:=23) (e:=161) (i:=Tryz.t161) (n:=n) aaz aaz aaz rfl rfl rfl rfl J X J X;exact⟨0,⟨rfl,aX _⟩,s,k,g,0,⟨rfl,bm _⟩,f,j⟩
 have:=aN h;omega
def pH(l:List (Sl×List Ac)):List Ac:=l.flatMap λp=>p.2
def wR{l:List (Sl×List Ac)}{j:Nat}{p:Sl×List Ac}(h:l[j]? =aM p):pH (l.take (j+1))=pH (l.take j)++p.2:=by
 rw[bq,h];unfold pH;rw[jM];simp
def Qa{l:List (Sl×List Ac)}(j:Nat):I (pH (l.take j))<=I (pH l):=by
 have:pH l=pH (l.take j)++pH (l.drop j):=by
  unfold pH;rw[<-jM,fb]
 rw[this,aO];omega
def R7{w:M}{rows:Sl}{F G:aJ}{l:List (Sl×List Ac)}(R:aA KA 1 w F rows (l.map λp=>p.1))(A:∀p,p∈l->aA (qv aL) 9 w G p.1 p.2)(m:I (pH l)<=20000000):
  az Q 127 #[rows.v] w λe c=>(∃s:Sl,e=ak s.v/\P9 w.heap.size c (λk=>G k/\k<w.heap.size) s (pH l))/\Z [] w c:=by
 refine iW (ak1 _ ?_);have a:=R.len;have d:=R.cap;have S:=R.big;rw[bJ]at a;have row:∀{u:M} {j:Nat},Z [] w u->j<(I l)->∃ad p,cT rows (j:Int) 1 ad/\l[j]? =aM p/\aB u ad [p.1.v]/\aA (qv aL) 9 u (λk=>G k/\k<w.heap.size) p.1 p.2:=fun{u j} hO b=>by
  obtain⟨ad,y,s,o,g,r,t,q,e⟩:=(SliceF.only ux X R hO aaV).get (aZ j) J;rw[aW,cN,gz]at g;obtain⟨p,n,rfl⟩:=g;have e:s=[p.1.v]:=e;subst e;exact⟨ad,p,o,n,q,((A p (bB n)).inHeap (dy aL) X).keep (dy aL) X λk _ W=>hO.block k W aaV⟩
 refine⟨λv n i u=>∃j:Nat,i=(j:Int)/\n=(I (pH (l.take j)):Nat)/\v+j=I l/\j<=I l/\w=u,I l,⟨0,rfl,rfl,rfl,bm _,rfl⟩,?_⟩;rintro v _ _ _ ⟨j,rfl,rfl,f,b,rfl⟩;refine⟨λh=>?_,λh=>?_⟩
 ·have h:=aN h;obtain⟨ad,p,k,e,o,q⟩:=row (Only.refl _ _) (j:=j) J;have t:=q.len;have s:=Qa (l:=l) (j+1);rw[wR e,aO]at s;have g:ar U ((I (pH (l.take j)):Nat)+(p.1.n:Int))=(I (pH (l.take (j+1))):Nat):=by
   rw[fe J J,wR e,aO];omega
  refine⟨λn u=>n=(I (pH (l.take (j+1))):Nat)/\w=u,?_,ad,k,p.1,o,λr=>?_,λ_=>⟨g,rfl⟩⟩
  ·rintro _ _ ⟨rfl,rfl⟩;exact⟨v-1,J,j+1,aaA,rfl,J,J,rfl⟩
  have:=aN r;rw[g]at this;omega
 have h:=aQ h;have n:j=I l:=J
 subst n;rw[bp (aX _)];refine(aaR w (λk=>G k/\k<w.heap.size) m).mono ?_;rintro _ x ⟨⟨s,rfl,q⟩,o⟩;refine⟨s,rfl,λv t i u=>∃j:Nat,i=(j:Int)/\v+j=I l/\j<=I l/\P9 w.heap.size u (λk=>G k/\k<w.heap.size) t (pH (l.take j))/\Z [] w u,I l,⟨0,rfl,rfl,bm _,by rw[ci];exact q,o⟩,?_⟩;rintro v t _ y ⟨j,rfl,f,b,T,g⟩;refine⟨λh=>?_,λh=>?_⟩
 ·have h:=aN h;obtain⟨ad,p,z,s,B,C⟩:=row g (j:=j) J;have Y:=Qa (l:=l) (j+1);rw[wR s,aO]at Y;obtain⟨t',w4,E,H,gs,N,V,_⟩:=rv (P:=Q) (t:=23) (ty:=23) (e:=161) (i:=Tryz.t161) (bytes:=104) (size:=9) (r:=qv aL) aaz aaz rfl rfl rfl rfl (dy aL) T (C.mono (dy aL) λk hk=>⟨hk,λe=>by have:=(T.blk e).1;dsimp only at this;omega⟩) g.size J X;refine⟨ad,z,p.1,B,t',w4,E,v-1,J,j+1,aaA,J,J,by rw[wR s];exact H,g.trans N λD W=>.inr (V D W).2.1⟩
 have h:=aQ h;have n:j=I l:=J
 subst n;rw[bp (aX _)]at T;exact⟨⟨t,rfl,T⟩,g⟩
section
variable {w w':M} {b m0 m1:Nat} {F G H:aJ} {s:Sl} {xs:List dN} {vn:List (aH)} {f g:Ft}
def Qb{rows:Sl}{l:List (Sl×List Ac)}(R:aA KA 1 w H rows (l.map λp=>p.1))(A:∀p,p∈l->aA (qv aL) 9 w G p.1 p.2)(m:I (pH l)<=20000000)(e:∀k,G k->k≠b)(h:Lx w b m0 m1 F s xs vn f):
  az Q 92 #[ae (aM ⟨b,0,aaf⟩),rows.v] w λr w'=>r=ak (ai #[])/\Lx w' b m0 m1 F s xs vn (iY f (lm xs vn (pH l)))/\Z [b] w w':=by
 refine ret (aqV _ _ ?_);refine(R7 R A m).mono ?_;rintro _ g ⟨⟨t,rfl,T⟩,D⟩;have o:=h.lo.lt;have B:=D.size;generalize pH l=al at*
 have q:=T.len;refine⟨t,rfl,λv i u=>∃j:Nat,i=(j:Int)/\v+j=I al/\j<=I al/\Lx u b m0 m1 F s xs vn (iY f (lm xs vn (al.take j)))/\Z [b] g u,I al,⟨0,rfl,rfl,bm _,by rw[ci];exact h.o0 D,Only.refl _ _⟩,?_⟩;rintro v _ n ⟨j,rfl,z,x,a,E⟩;have C:=E.size;refine⟨λc=>?_,λc=>?_⟩
 ·have c:=aN c;have l:aA (qv aL) 9 n _ t al:=SliceF.only (dy aL) X (T.slice (dy aL)) E λk hk _ m=>by
   simp only[aP]at m;rcases hk with hk | hk
   ·exact e k hk.1 m
   omega
  obtain⟨ad,y,ds,S,H,a3,a4,V,Y⟩:=l.get (aZ j) J;rw[aW]at H;obtain⟨xc,rfl,P⟩:=Y;obtain⟨sl,rfl⟩:=fp P;have yt:=a.lo.lt;refine⟨ad,S,_,_,_,_,_,_,sl,_,_,V,λk2 w2 qF rn p=>?_⟩;have z2:=p.size;have N:=a.o0 p;have e1:lm xs vn (al.take (j+1))=lm xs vn (al.take j)++(bad (decide (y.k≠1)||decide (y.n∈vn)) 23 y.a++PF xs vn y.x):=by
   rw[bq,H];unfold lm;rw[jM];simp[acF]
  refine⟨λu=>Lx u b m0 m1 F s xs vn (iY f (lm xs vn (al.take j)++bad (decide (y.k≠1)||decide (y.n∈vn)) 23 y.a))/\Z [b] w2 u,?_,λhk w5 W=>?_,λhk=>?_⟩
  ·rintro w3 ⟨h3,F⟩;have z3:=F.size;obtain⟨d,am⟩:=P;have f:∀k,((G k/\k<w.heap.size)∨(w.heap.size<=k/\t.a=aM ⟨k,0,aaf⟩))->k≠b:=λk hk=>hk.elim (λh=>e k h.1) λh=>J
   refine(HD d ((lM aL d).keep ((lM aL d).keep am λk _ s=>p.block k s aaV) λk hk s=>F.block k s (by simp;exact f k hk)) f h3).mono ?_;rintro _ w4 ⟨rfl,h4,y⟩;have z4:=y.size;refine⟨rfl,y.same aba,v-1,J,j+1,aaA,J,J,?_,we (we (E.cn p) F) y⟩;rw[e1,<-bC,ga];exact h4
  ·have hk:y.k=1:=abI
   have k:=W.size;have d:=N.o0 W;refine⟨_,Blk.dM d.lo.blk 2 rfl,_,_,w5,d.lo.vr.at y.n,cr.refl _ _,(nS d _ 23 y.a).mono ?_⟩;rintro _ w ⟨rfl,f,b⟩;have s:=b.size;refine⟨rfl,b.same aba,?_,we (Bw W) b⟩;rw[ga,hk];exact f
  have hk:y.k≠1:=abI
  refine⟨?_,Only.refl _ _⟩;rw[ga,bE hk];exact N
 have c:=aQ c;have l:j=I al:=J
 subst l;rw[bp (aX _)]at a;exact⟨rfl,a,we (Bw D) E⟩
end
def amd(u:M){a b:Int}(h:ub a)(d:ub b):∃y c,(au 33 2 #[.mk 0 (O U a),.mk 1 (O U b)]).run Q u=.ok (Sl.v y) c/\Z [] u c/\aA iM 1 c (λ_=>True) y [a,b]:=by
 obtain⟨y,c,k,f,k3,_⟩:=ju (P:=Q) (t:=33) (e:=3) (i:=Tryz.t3) (z:=O U 0) (w:=u) (F:=λ_=>False) (vs:=[O U a,O U b]) (parts:=#[.mk 0 (O U a),.mk 1 (O U b)]) (len:=2) (xs:=[a,b]) (r:=iM) (size:=1) aaz aaz rfl rfl X rfl rfl X X cK ⟨⟨rfl,rfl,h⟩,⟨rfl,rfl,d⟩,trivial⟩;exact⟨y,c,k,k3,(f.slice cK).mono cK λ_ _=>trivial⟩
def gW.sl{B:Nat}{w:M}{s:Sl}{x:List dN}(h:gW B w s x):aA tA 5 w (λk=>B<=k) s x:=(h.slice dI).mono dI λk hk=>hk.elim (λh=>h.elim) λh=>h.1
def tup(x:dN):Int×aH×Int×Int×Int:=(x.k,x.nm,x.pa,x.dp,x.en)
section
variable {w w':M} {b m0 m1:Nat} {F G:aJ} {s:Sl} {xs:List dN} {vn:List (aH)} {f g:Ft}
def Ao{n:Int}(h:xU xs n)(l:I xs<=64):ub n:=⟨by have:=h.1;omega,by have:=h.2;omega⟩
def VU(h:Lx w b m0 m1 F s xs vn f){n c:Int}(a:xU xs n)(o:xU xs c):az Q 129 #[ae (aM ⟨b,0,aaf⟩),O U n,O U c] w λm w'=>m=ak (aj (PD xs n c))/\Z [] w w':=by
 refine ret (aq7 _ _ _ ?_);obtain⟨y,z,u,l,k3⟩:=amd w (Ao a h.ln) (Ao o h.ln);have d:=h.o0 l;refine⟨s,Blk.dM h.lo.blk 1 rfl,y,z,u,(VO d.sp h.fo k3).mono ?_⟩;rintro _ C ⟨⟨m,rfl,r⟩,R⟩;have g:=d.o0 R;have t:=h.fo.abz r a o;have Y:=r.amI aaV λA i=>by
  simp only[aY,bA,cf]at i;rcases i with rfl | rfl
  ·exact a
  exact o
 obtain⟨B,e,v,_⟩:=Y;obtain⟨k,_,x,j,_⟩:=v n aaV;obtain⟨ad,p,q,_⟩:=jQ g.sp j;subst e;refine⟨_,rfl,s,λ_=>Blk.dM g.lo.blk 1 rfl,ad,λ_=>p,x.k,λ_=>q.dM 0 _ rfl,?_,l.cn R⟩;unfold PD;rw[<-t,ic j];congr 1;rw[bM];simp
def afT{k a:Nat}(h:Lx w b m0 m1 F s xs vn f){n o:Int}(g:xU xs n)(i:xU xs o)(c:aF w k 126 [ae (aM ⟨b,0,aaf⟩)])(d:aF w a 3 [O U n]):
  az Q 128 #[O U o,ae (aM ⟨k,0,aaf⟩),ae (aM ⟨a,0,aaf⟩)] w λr w'=>r=ak (aj (!PD xs n o))/\Z [] w w':=by
 refine ret (aq6 _ _ _ ?_);refine⟨_,c.cells 0 [_] λj v hj=>aeE,_,d.cells 0 [_] λj v hj=>aeE,(VU h g i).mono ?_⟩;rintro _ l ⟨rfl,e⟩;exact⟨_,rfl,rfl,e⟩
def afU{k d:Nat}(m:Lx w b m0 m1 F s xs vn f){n:Int}(r:xU xs n){e:Sl}{a:List Int}(N:aA iM 1 w G e a)(R:∀o,o∈a->xU xs o)(p:aF w k 126 [ae (aM ⟨b,0,aaf⟩)])(q:aF w d 3 [O U n]):
  az Q 86 #[e.v,.func (.func 128) #[] #[ae (aM ⟨k,0,aaf⟩),ae (aM ⟨d,0,aaf⟩)]] w λt w'=>t=ak (aj (a.any λo=>!PD xs n o))/\Z [] w w':=by
 refine ret (ac7 e ⟨.func (.func 128) #[] #[ae (aM ⟨k,0,aaf⟩),ae (aM ⟨d,0,aaf⟩)],rfl⟩ (λv w'=>v=aj (a.any λo=>!PD xs n o)/\Z [] w w') w ?_);refine(ac8 e ⟨.func (.func 128) #[] #[ae (aM ⟨k,0,aaf⟩),ae (aM ⟨d,0,aaf⟩)],rfl⟩ (λv w'=>(∃i:Int,v=O U i/\decide (i>=0)=a.any λo=>!PD xs n o)/\Z [] w w') w ?_).mono (by
  rintro _ w' ⟨v,rfl,⟨i,rfl,b⟩,h⟩;exact⟨i,rfl,by rw[b],h⟩)
 have A:=N.len;have x:=N.cap;have B:=N.big;refine⟨λl i u=>∃j:Nat,i=(j:Int)/\l+j=I a/\j<=I a/\((a.take j).any λo=>!PD xs n o)=aL/\Z [] w u,I a,⟨0,rfl,J,bm _,rfl,Only.refl _ _⟩,?_⟩;rintro l _ u ⟨j,rfl,C,z,g,h⟩;refine⟨λc=>?_,λc=>?_⟩
 ·have c:=aN c;obtain⟨ad,y,D,s,b,F,G,v,w⟩:=(SliceF.only cK X N h aaV).get (aZ j) J;rw[aW]at b;obtain⟨rfl,H⟩:=w;have n:=bB b;refine⟨ad,s,y,v,128,[],[ae (aM ⟨k,0,aaf⟩),ae (aM ⟨d,0,aaf⟩)],rfl,kO aaz,(afT (m.o0 h) r (R y n) (h.blk p aaV) (h.blk q aaV)).mono ?_⟩;rintro _ P ⟨rfl,E⟩;refine⟨_,rfl,λf=>⟨⟨j,rfl,?_⟩,h.cn E⟩,λf=>⟨l-1,J,j+1,aaA,J,J,?_,h.cn E⟩⟩
  ·rw[bE (by omega:(j:Int)>=0)];exact(oY.2 ⟨y,n,f⟩).symm
  rw[bq,b,Cu,g];simpa using f
 have c:=aQ c;rw[bp J]at g;exact⟨⟨-1,rfl,by rw[g];rfl⟩,h⟩
def Qc(F:Fo xs){n:aH}(a:¬fN xs n<1):xU xs (Fw xs n):=by
 rcases jE xs n with⟨e,_⟩ | ⟨j,x,e,h,_⟩
 ·omega
 have l:=iw h;unfold Fw;rw[e,ic h,mG h];split
 ·obtain⟨p,_,b,c,_⟩:=F.par h J;exact⟨J,J⟩
 exact⟨J,J⟩
def gn.kp{B:Nat}{w a:M}{s:Sl}{l:List Int}(h:gn B w s l)(c:Z [] w a):gn B a s l:=Own.keep cK h λk _ b=>c.block k b aaV
def adE(c:M){u:M}{s:Sl}{m:List Int}(h:gn c.heap.size u s m)(p:Z [] c u)(n:Int)(B:ub n)(E:I m<=20000000):
  ∃y w,(au 33 1 #[.mk 0 (O U n)]).run Q u=.ok (Sl.v y) w/\Z [] u w/\∃b a,(Builtin.append_ #[33,33] 33 #[Sl.v s,Sl.v y]).run Q w=.ok (Sl.v b) a/\gn c.heap.size a b (m++[n])/\Z [] c a/\w.heap.size<=a.heap.size/\
   (∀k,k<u.heap.size->s.a≠aM ⟨k,0,aaf⟩->a.heap[k]? =w.heap[k]?)/\∀k,k<u.heap.size->s.a≠aM ⟨k,0,aaf⟩->b.a≠aM ⟨k,0,aaf⟩:=by
 obtain⟨y,w,C,k3,b,a,q,z,⟨D,f,o⟩,A⟩:=jV (P:=Q) (t:=33) (ty:=33) (e:=3) (i:=Tryz.t3) (bytes:=8) (size:=1) (r:=iM) (G:=λ_=>False) (v:=O U n) (x:=n) aaz aaz rfl rfl rfl rfl X X X cK h p.size rfl ⟨rfl,B⟩ (λ_ h=>h.elim) J;have H:=k3.size;refine⟨y,w,C,k3,b,a,q,gn.of z,((p.cn k3).oQ (f.p (F:=λk=>c.heap.size<=k) λg j=>.inl (o g j).2.1)).only λk hk=>hk,f.size,λk hk l=>f.block k J λj=>l (o k j).1,λk hk l e=>?_⟩;rcases A with d | ⟨g,d,h⟩
 ·exact l (by rw[<-d,e])
 rw[d]at e;injection e with e;injection e with e;omega
def DF(l:List Int)(n:aH)(r:List (aH)):LS xs l (n::r)=if fN xs n<1 then aL else if(l.any λo=>!PD xs (Fw xs n) o)=L then aL else LS xs (l++[Fw xs n]) r:=rfl
def Nh(h:Lx w b m0 m1 F s xs vn f){sT:Sl}{t:List (aH)}(m:aA ke 1 w G sT t)(P:I t<=20000000):az Q 94 #[ae (aM ⟨b,0,aaf⟩),sT.v] w λr w'=>r=ak (aj (LS xs [] t))/\Z [] w w':=by
 refine ret (aqX _ _ ?_);intro n p C B D;have V:=D.size;have E:=h.lo.lt;have A:=m.len;refine⟨λv l i q u=>∃(j:Nat) (al:List Int),i=(j:Int)/\v+j=I t/\j<=I t/\q=aM ⟨b,0,aaf⟩/\gn w.heap.size u l al/\(∀g,g∈al->xU xs g)/\I al<=j/\LS xs [] t=LS xs al (t.drop j)/\Z [] w u/\p.heap.size<=u.heap.size/\l.a≠aM ⟨n,0,aaf⟩,I t,
  ⟨0,[],rfl,rfl,bm _,rfl,Own.nil _ _ _ _ _ _,aaV,aX _,rfl,D,aX _,by intro e;cases e⟩,?_⟩
 rintro v l _ _ z ⟨j,al,rfl,S,N,rfl,hS,R,H,o,c,W,d⟩;refine⟨λa=>?_,λa=>?_⟩
 ·have a:=aN a;obtain⟨ad,y,cs,g1,g2,g3,g4,g5,F⟩:=(SliceF.only cY X m c aaV).get (aZ j) J;rw[aW]at g2;have F:cs=[K (T y)]:=F;subst F;have h1:=h.o0 c;have G:t.drop j=y::t.drop (j+1):=by
   obtain⟨bW,e⟩:=bf.1 g2;rw[<-e,BI]
  rw[G,DF]at o;refine⟨ad,g1,_,g5,_,rfl,_,Blk.dM h1.lo.blk 0 rfl,(HB h1 y).mono ?_⟩;rintro _ w2 ⟨rfl,Y⟩;obtain rfl:z=w2:=Y.symm;refine⟨_,rfl,cr.refl _ _,λf k3 w3 _ _ di=>⟨?_,c.cn di⟩,λf k4 w4 uT AN s=>?_⟩
  ·have f:=aN f;rw[o,aV f]
  have f:=aQ f;rw[aR f]at o;have Iu:=Qc h.fo f;have z4:=s.size;have o4:=c.cn s;have TM:gn w.heap.size w4 l al:=hS.kp s;have Zw:l.a≠aM ⟨k4,0,aaf⟩:=λe=>abU
  refine⟨λq i u=>q=aM ⟨b,0,aaf⟩/\i=Fw xs y/\Z [] w u/\gn w.heap.size u l al/\w4.heap.size<=u.heap.size,?_,_,rfl,λw9 T=>?_⟩
  ·rintro _ _ w5 ⟨rfl,rfl,x,q,z5⟩ zM sE;have h5:=h.o0 x;refine(afU h5 Iu (q.slice cK) R zM sE).mono ?_;rintro _ w6 ⟨rfl,b⟩;have z6:=b.size;have o6:=x.cn b;refine⟨_,rfl,_,b.blk zM aaV,_,b.blk sE aaV,λe=>⟨?_,o6⟩,λe=>?_⟩
   ·rw[o,aV e]
   rw[aR (by rw[e];decide)]at o;have am:gn w.heap.size w6 l al:=q.kp b;obtain⟨y1,w7,p1,p3,s',w8,q1,q2,q3,z8,q4,q5⟩:=adE w am o6 (Fw xs y) (Ao Iu h.ln) J;have z7:=p3.size;refine⟨y1,w7,p1,p3.same aba,s',w8,q1,λk hk=>?_,v-1,J,j+1,al++[Fw xs y],aaA,J,J,rfl,q2,λg ho=>?_,ab8,o,q3,J,q5 n J d⟩
   ·simp only[aY,bA,cf]at hk;rcases hk with rfl | rfl
    ·exact q4 _ J d
    exact q4 _ J Zw
   rcases cj.1 ho with ho | ho
   ·exact R g ho
   simp only[aP]at ho;subst ho;exact Iu
  have z9:=T.size;have q:=o4.cn T;have w:=h.o0 q;obtain⟨e,_⟩ | ⟨jx,x,e,b,_⟩:=jE xs y
  ·omega
  obtain⟨xf,b1,b2,b3,_⟩:=jQ w.sp b;rw[e]at f⊢;refine⟨_,Blk.dM w.lo.blk 1 rfl,xf,b1,x.k,b2.dM 0 _ rfl,(B5 w9 x.k).mono ?_⟩;rintro _ dA ⟨rfl,Y⟩;obtain rfl:w9=dA:=Y.symm;refine⟨_,rfl,cr.refl _ _,λhh=>⟨_,rfl,λdL y=>?_⟩,λhh=>⟨rfl,?_,q,TM.kp T,J⟩⟩
  ·have Cj:=y.size;have aC:=q.cn y;have S4:=h.o0 aC;obtain⟨Cp,c1,_,c3,_⟩:=jQ S4.sp b;refine⟨_,Blk.dM S4.lo.blk 1 rfl,Cp,c1,x.pa,c3,λez eM=>⟨rfl,?_,aC.trans eM λk hk=>.inr ab2,?_,by have:=eM.size;omega⟩⟩
   ·unfold Fw;rw[e,ic b,mG b,aV hh]
   refine Own.keep cK ((TM.kp T).kp y) λk hk bW=>eM.block k bW ?_;simp only[aP];rintro rfl;exact hk.elim (λh=>h) λh=>Zw h.2
  unfold Fw;rw[e,ic b,aR adz]
 have a:=aQ a;have b:j=I t:=J
 subst b;rw[eP (aX _)]at o;exact⟨by rw[o];rfl,c⟩
end
end Go.Proofs.YtfemabakfkliiaaGreatDoor.Con
