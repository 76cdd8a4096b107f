import Derived.Test.YtpbgcbdclnfpnaaGreatDoorQs4
set_option linter.unusedSectionVars false
set_option linter.unusedVariables false
set_option maxRecDepth 100000
set_option maxHeartbeats 40000000
set_option linter.unusedSimpArgs false
open Go.Value renaming int->O,string->ah,pointer->ai,agg->aj,tuple->ak,bool->ao
open Go.IntKind renaming i64->ae,wrap->av
open Go.Ending renaming returned->aq
open _root_.ByteArray renaming mk->ar
open _root_.Go.Proofs.Tryz renaming prog->au
open Go.Instr renaming buildSlice->aw
open Go renaming World->ay,Value->az,Calls->aB
open Go.Kt renaming Only->aA,SliceF->aD,Cells->aE,OnlyP->aF,Blk->aH
namespace Go.Proofs.YtpbgcbdclnfpnaaGreatDoor.Vc
open Go Go.RowKit Go.Kt Go.Kt.V
theorem anw(w_:Addr)(Uw:Option Nat)(domain:Int)(R:aI)(w:ay)(h:∃q0 w0,((Instr.range 74 (.map Uw)).run au w)=(.ok (ai q0) w0)/\lp0 w0 λJ0 k1 w1=>Or (Exists (λw2=>((Instr.next (ai q0) false 0).run au w1)=(.ok (ak #[ao false]) w2)/\R (ak #[]) w2)) (Exists (λv0:OV=>∃v1:OV,∃w3,((Instr.next (ai q0) false 0).run au w1)=(.ok (ak #[ao true,v0.v,v1.v]) w3)/\∃v2 v3:OV,∃w4,((Instr.entry (ai q0)).run au w3)=(.ok (ak #[v2.v,v3.v]) w4)/\∃i0,v2.v=(O ae i0)/\uN i0 w4 λJ1 k3 i1 w5=>cV (decide (i1>domain)) (JN w5 (w_.add 5) λm0=>fY (aw 33 1 #[.mk 0 (O ae i1)]) w5 λl0 w6=>cU 24 #[.map m0,l0.v] w6 λw7=>ja w7 ((w_.add 0).add 0) λl1=>∃p0,dE l1 i1 5 p0/\ji w7 (p0.add 2) λi2=>nx k3 λk4=>J1 k4 i2 w7) (nx k1 λk5=>J0 k5 w5)))):Cr 45 #[ai (some w_),.map Uw,O ae domain] w R:=
 fB (an:=.s .o (.j [0,2,8] [] (.d 3 (.j [0,2,8] [.s 6 (.int .i64)] .o .o)) .o)) (args:=[.ad w_,.map Uw,.int .i64 domain]) h
theorem anx(w_:Addr)(targets:Sl)(R:aI)(w:ay)(h:∃m0 w0,((Instr.makeMap 74 none).run au w)=(.ok (.map m0) w0)/\uN 0 w0 λJ0 k1 i0 w1=>cV (decide (i0<(targets.n:Int))) (JM (λw2=>nx k1 λk2=>J0 k2 (av ae (i0+1)) w2) λJ1=>xq targets i0 w1 λi1=>JN w1 (w_.add 4) λm1=>∃l0:Sl,∃b0 w3,((Instr.lookup 72 (.map m1) (O ae i1) true).run au w1)=(.ok (ak #[l0.v,ao b0]) w3)/\∃l1:Sl,((decide (i1<0))=false->aE w3 ((w_.add 0).add 0) [l1.v])/\cV ((decide (i1<0))||(decide (i1>=(l1.n:Int)))) (J1 w3) (ja w3 ((w_.add 0).add 0) λl2=>∃p1,dE l2 i1 5 p1/\ji w3 (p1.add 0) λi2=>cB 36 #[O ae i2] w3 λb1 w4=>cV (!b1) (fY (aw 33 1 #[.mk 0 (O ae i1)]) w4 λl3 w5=>cU 24 #[.map m0,l3.v] w5 λw6=>J1 w6) (cV b0 (cU 24 #[.map m0,l0.v] w4 λw7=>J1 w7) (ja w4 ((w_.add 0).add 2) λl4=>xq l4 i1 w4 λi3=>fY (aw 33 1 #[.mk 0 (O ae i3)]) w4 λl5 w8=>cU 24 #[.map m0,l5.v] w8 λw9=>J1 w9)))) (R (.map m0) w1)):Cr 46 #[ai (some w_),targets.v] w R:=
 fB (an:=.d 2 (.s (.s .o (.j [0,5,11,12] [.s 13 (.int .i64)] (.d 2 (.j [0,5,11,12,13] [] .o .o)) .o)) .o)) (args:=[.ad w_,.sl targets]) h
theorem anz(w_:Addr)(R:aI)(w:ay)(h:nw w λk0 w0=>ja w0 ((w_.add 0).add 0) λl0=>∃J0:Nat->Int->Option Addr->ay->Prop,∃k1:Nat,J0 k1 0 (some w_) w0/\∀k2 i0 q0 w1,J0 k2 i0 q0 w1->cV (decide (i0<(l0.n:Int))) (sP (λq1 w2=>nx k2 λk3=>J0 k3 (av ae (i0+1)) q1 w2) λJ1=>EJ l0 i0 w1 λi1 s0 i2 i3 i4=>∃p1,q0=(some p1)/\nw w1 λk4 w3=>JN w3 (p1.add 5) λm0=>∃b0 w4,((Instr.lookup 74 (.map m0) (O ae i0) false).run au w3)=(.ok (ao b0) w4)/\ci [k0,k4] w3 w4/\cV (!b0) (J1 q0 w4) (∃p2,q0=(some p2)/\ja w4 ((p2.add 0).add 0) λl1=>xK [k0,k4] 37 #[l1.v,O ae i0] w4 λl2 w5=>(aH w5 k0 70 [ai q0]->k4≠k0->xK [k4] 32 #[l2.v,.func (.func 64) #[] #[ai (some ⟨k0,0,none⟩)]] w5 λl3 w6=>RR w6 k0 70 λq2=>cV (i1==2) (∃p3,q2=(some p3)/\JN w6 (p3.add 5) λm1=>gV [k4] 24 #[.map m1,l3.v] w6 λw7=>RR w7 k0 70 λq3=>J1 q3 w7) (jn2 (λb1 q4 w8=>cV b1 (∀w9,aA [] w8 w9->aH w9 k0 70 [ai q4]->∃J3:aL,J3 k0/\J3 k0/\∃p4,q4=(some p4)/\ja w9 ((p4.add 0).add 1) λl4=>xq l4 i0 w9 λi5=>fY (aw 33 1 #[.mk 0 (O ae i5)]) w9 λl5 dL=>ci [k0,k4] w9 dL/\bS J3 w9 dL/\aB au 46 #[ai q4,l5.v] dL λe3 dN=>∃m2,e3=(aq (.map m2))/\ci [k4] dL dN/\RR dN k0 70 λq5=>bS J3 dL dN/\gV [k4] 45 #[ai q4,.map m2,O ae i0] dN λeT=>RR eT k0 70 λq6=>bS J3 dN eT/\J1 q6 eT) (J1 q4 w8)) λJ2=>cV (decide ((l3.n:Int)>0)) (qZ [k4] 51 #[l3.v,.func (.func 65) #[] #[ai (some ⟨k0,0,none⟩)]] w6 λb2 fI=>RR fI k0 70 λq7=>J2 (!b2) q7 fI) (J2 false q2 w6))))) (∃p6,q0=(some p6)/\JN w1 (p6.add 5) λm3=>xK [k0] 66 #[.map m3] w1 λl6 fS=>R l6.v fS)):Cr 25 #[ai (some w_)] w R:=
 fB (an:=.s .o (.s (.s .o (.j [1,10,11] [.s 12 (.int .i64),.b 1 [.ptr]] (.d 2 (.j [1,10,11,12] [.b 1 [.ptr]] (.d 5 (.s (.j [1,3,4,10,11,12] [.s 43 .bool,.b 1 [.ptr]] .o .o) .o)) .o)) .o)) .o)) (args:=[.ad w_]) h
theorem anA(s:Option Nat)(R:aI)(w:ay)(h:aB au 104 #[.map s] w λe0 w0=>∃v0:OV,e0=(aq v0.v)/\cL 103 #[v0.v] w0 λl0 w1=>R l0.v w1):Cr 66 #[.map s] w R:=
 gY (args:=[.map s]) h
theorem anB(s:Option Nat)(l:Sl)(R:aI)(w:ay)(h:uN 0 w λJ0 k1 i0 w0=>cV (decide (i0<(l.n:Int))) (xq l i0 w0 λi1=>∃w1,((Instr.mapUpdate 74 (.map s) (O ae i1) (ao true)).run au w0)=(.ok () w1)/\nx k1 λk2=>J0 k2 (av ae (i0+1)) w1) (R (ak #[]) w0)):Cr 24 #[.map s,l.v] w R:=
 fB (an:=.s .o (.j [0,6,7] [.s 8 (.int .i64)] .o .o)) (args:=[.map s,.sl l]) h
theorem anC(n_:Int)(dx iH oK Ux:Addr)(R:aI)(w:ay)(h:ji w dx λi0=>∃k0 k1:Nat,∃z0,∃k2:Nat,dx=⟨k0,k1,none⟩/\aH w k0 k2 z0/\(k1+1)<=z0.length/\∀w0,aA [k0] w w0->aH w0 k0 k2 (cz z0 k1 [O ae (av ae (i0-1))])->ja w0 iH λl0=>cL 28 #[l0.v,O ae n_] w0 λl1 w1=>Vk 0 0 w1 λJ0 k4 i1 i2 w2=>cV (decide (i2<(l1.n:Int))) (sP (λi3 w3=>nx k4 λk5=>J0 k5 i3 (av ae (i2+1)) w3) λJ1=>xq l1 i2 w2 λi4=>ja w2 oK λl2=>aB au 29 #[l2.v,O ae i4] w2 λe1 w4=>∃i5 b0,e1=(aq (ak #[O ae i5,ao b0]))/\cV b0 (xCV w4 Ux λv0=>∃k6:Nat,∃z1 z2,v0.v=(.func (.func k6) z1.toArray z2.toArray)/\(∀x0:Array az,∀w5,((callFunc k6 x0).run au w5)=(.ok (.enter k6 x0) w5))/\cB k6 ((uB (uB z1 [O ae i4]) z2).toArray) w4 λb1 w6=>cV (!b1) (R (ao false) w6) (J1 (av ae (i1+1)) w6)) (J1 i1 w4)) (ja w2 iH λl3=>∃p1,dE l3 n_ 5 p1/\ji w2 (p1.add 0) λi6=>cV (i6==2) (R (ao (i1==(l1.n:Int))) w2) (R (ao ((i1==1)||((l1.n:Int)==0))) w2))):Cr 27 #[O ae n_,ai (some dx),ai (some iH),ai (some oK),ai (some Ux)] w R:=
 fB (an:=.d 4 (.s (.s .o (.j [0,2,3,4,8,18,19] [.s 7 (.int .i64),.s 20 (.int .i64)] (.d 2 (.j [0,2,3,4,8,18,19,20] [.s 7 (.int .i64)] .o .o)) .o)) .o)) (args:=[.int .i64 n_,.ad dx,.ad iH,.ad oK,.ad Ux]) h
theorem anE(r:Sl)(n_:Int)(R:aI)(w:ay)(h:nw w λk0 w0=>xK [k0] 37 #[r.v,O ae n_] w0 λl0 w1=>(aH w1 k0 79 [r.v]->cL 32 #[l0.v,.func (.func 68) #[] #[ai (some ⟨k0,0,none⟩)]] w1 λl1 w2=>EH w2 k0 79 λl2=>R l1.v w2)):Cr 28 #[r.v,O ae n_] w R:=
 gY (args:=[.sl r,.int .i64 n_]) h
theorem anF(l:Addr)(name:aM)(R:aI)(w:ay)(h:cV (name.toList==((ar #[]).toList)) (R (O ae (-1)) w) (ja w ((l.add 0).add 0) λl0=>cI 101 #[l0.v,ah name] w λi0 w0=>R (O ae i0) w0)):Cr 62 #[ai (some l),ah name] w R:=
 gY (args:=[.ad l,.str name]) h
theorem anG(l:Addr)(source:Int)(targets:Sl)(R:aI)(w:ay)(h:cV ((targets.n:Int)==0) (R (O ae (-1)) w) (∃l0:Sl,∃w0,((aw 33 1 #[.mk 0 (O ae source)]).run au w)=(.ok l0.v w0)/\fY (Builtin.append_ #[33,33] 33 #[l0.v,targets.v]) w0 λl1 w1=>ja w1 ((l.add 0).add 0) λl2=>cI 102 #[l2.v,l1.v] w1 λi0 w2=>uN i0 w2 λJ0 k1 i1 w3=>sP (λb0 w4=>cV b0 (ja w4 ((l.add 0).add 0) λl3=>∃p0,dE l3 i1 5 p0/\ji w4 (p0.add 2) λi2=>nx k1 λk2=>J0 k2 i2 w4) (R (O ae i1) w4)) λJ1=>cV (decide (i1>0)) (ja w3 ((l.add 0).add 0) λl4=>∃p1,dE l4 i1 5 p1/\ji w3 (p1.add 0) λi3=>cV (i3 !=1) (J1 true w3) (cB 35 #[l1.v,O ae i1] w3 λb1 w5=>J1 b1 w5)) (J1 false w3))):Cr 63 #[ai (some l),O ae source,targets.v] w R:=
 fB (an:=.d 4 (.s (.j [0,7] [.s 8 (.int .i64)] (.s (.s (.j [0,7,8] [.s 41 .bool] .o .o) .o) .o) .o) .o)) (args:=[.ad l,.int .i64 source,.sl targets]) h
theorem anH(c:Addr)(n_:Int)(R:aI)(w:ay)(h:ja w (c.add 0) λl0=>cL 28 #[l0.v,O ae n_] w λl1 w0=>cV ((l1.n:Int)==0) (R (O ae 1) w0) (∃J0:Nat->Int->Int->Int->ay->Prop,∃k0:Nat,J0 k0 0 1 0 w0/\∀k1 i0 i1 i2 w1,J0 k1 i0 i1 i2 w1->cV (decide (i2<(l1.n:Int))) (xq l1 i2 w1 λi3=>ja w1 (c.add 1) λl2=>xq l2 i3 w1 λi4=>ja w1 (c.add 1) λl3=>xq l3 i3 w1 λi5=>∀w2,aA [] w1 w2->nx k1 λk2=>J0 k2 (av ae (i0+i4)) (av ae (i1*i5)) (av ae (i2+1)) w2) (ja w1 (c.add 0) λl4=>∃p3,dE l4 n_ 5 p3/\ji w1 (p3.add 0) λi6=>cV (i6==2) (R (O ae i1) w1) (R (O ae i0) w1)))):Cr 67 #[ai (some c),O ae n_] w R:=
 fB (an:=.d 4 (.s (.s .o (.j [0,1,19,20] [.s 6 (.int .i64),.s 7 (.int .i64),.s 21 (.int .i64)] .o .o)) .o)) (args:=[.ad c,.int .i64 n_]) h
theorem anI(l:Sl)(R:aI)(w:ay)(h:cU 54 #[l.v] w λw0=>cL 55 #[l.v] w0 λl0 w1=>R l0.v w1):Cr 75 #[l.v] w R:=
 gY (args:=[.sl l]) h
theorem anJ(n_:Int)(dx:Addr)(R:aI)(w:ay)(h:ja w dx λl0=>cB 77 #[l0.v,O ae n_] w λb0 w0=>R (ao (!b0)) w0):Cr 76 #[O ae n_,ai (some dx)] w R:=
 gY (args:=[.int .i64 n_,.ad dx]) h
theorem anK(r:Sl)(n_:Int)(R:aI)(w:ay)(h:sP (λb0 w0=>R (ao b0) w0) λJ0=>∃p0,(((decide (n_>=0))&&(decide (n_<(r.n:Int))))=true->dE r n_ 5 p0)/\∃i0,(((decide (n_>=0))&&(decide (n_<(r.n:Int))))=true->aE w (p0.add 0) [O ae i0])/\cV (((decide (n_>=0))&&(decide (n_<(r.n:Int))))&&(i0==1)) (cL 28 #[r.v,O ae n_] w λl0 w1=>J0 ((l0.n:Int)==0) w1) (J0 false w)):Cr 77 #[r.v,O ae n_] w R:=
 fB (an:=.s .o (.s (.j [] [.s 4 .bool] .o .o) .o)) (args:=[.sl r,.int .i64 n_]) h
theorem anL(l:Sl)(n_:Int)(R:aI)(w:ay)(h:cB 74 #[l.v,O ae n_] w λb0 w0=>cV (!b0) (R Sl.nil.v w0) (∃p0,dE l n_ 5 p0/\ji w0 (p0.add 2) λi0=>∃J0:Nat->Int->Sl->ay->Prop,∃k0:Nat,J0 k0 i0 Sl.nil w0/\∀k1 i1,∀l0:Sl,∀w1,J0 k1 i1 l0 w1->cV (decide (i1>=0)) (fY (aw 33 1 #[.mk 0 (O ae i1)]) w1 λl1 w2=>fY (Builtin.append_ #[33,33] 33 #[l0.v,l1.v]) w2 λl2 w3=>∃p1,dE l i1 5 p1/\ji w3 (p1.add 2) λi2=>nx k1 λk2=>J0 k2 i2 l2 w3) (R l0.v w1))):Cr 82 #[l.v,O ae n_] w R:=
 fB (an:=.d 3 (.s (.s .o (.j [0] [.s 1 (.int .i64),.s 5 .sl] .o .o)) .o)) (args:=[.sl l,.int .i64 n_]) h
theorem ahh(s:Sl)(f:OV)(R:aI)(w:ay)(h:uN 0 w λJ0 k1 i0 w0=>cV (decide (i0<(s.n:Int))) (C6 s i0 w0 λi1 i2 i3 s0 i4 l0 i5=>∃k2:Nat,∃z0 z1,f.v=(.func (.func k2) z0.toArray z1.toArray)/\(∀x0:Array az,∀w1,((callFunc k2 x0).run au w1)=(.ok (.enter k2 x0) w1))/\cB k2 ((uB (uB z0 [aj #[O ae i1,O ae i2,O ae i3,ah s0,O ae i4,l0.v,O ae i5]]) z1).toArray) w0 λb0 w2=>cV b0 (R (O ae i0) w2) (nx k1 λk3=>J0 k3 (av ae (i0+1)) w2)) (R (O ae (-1)) w0)):Cr 83 #[s.v,f.v] w R:=
 fB (an:=.s .o (.s (.s .o (.j [0,1,7] [.s 8 (.int .i64)] .o .o)) .o)) (args:=[.sl s,.raw f]) h
theorem v9w(r r1 r2:Int)(r3:aM)(r4:Int)(r5:Sl)(r6:Int)(dx:Addr)(R:aI)(w:ay)(h:nw w λk0 w0=>ji w0 dx λi0=>R (ao (r==i0)) w0):Cr 84 #[aj #[O ae r,O ae r1,O ae r2,ah r3,O ae r4,r5.v,O ae r6],ai (some dx)] w R:=
 gY (args:=[.agg (mO [.int .i64 r,.int .i64 r1,.int .i64 r2,.str r3,.int .i64 r4,.sl r5,.int .i64 r6]),.ad dx]) h
theorem ahi(s:Sl)(v1:Int)(R:aI)(w:ay)(h:uN 0 w λJ0 k1 i0 w0=>cV (decide (i0<(s.n:Int))) (xq s i0 w0 λi1=>cV (v1==i1) (R (O ae i0) w0) (nx k1 λk2=>J0 k2 (av ae (i0+1)) w0)) (R (O ae (-1)) w0)):Cr 73 #[s.v,O ae v1] w R:=
 fB (an:=.s .o (.s (.s .o (.j [0,1,7] [.s 8 (.int .i64)] .o .o)) .o)) (args:=[.sl s,.int .i64 v1]) h
theorem anM(k:Int)(dx:Addr)(R:aI)(w:ay)(h:Wq w dx λq0=>∃p0,q0=(some p0)/\ja w ((p0.add 0).add 0) λl0=>∃p1,dE l0 k 5 p1/\ji w (p1.add 0) λi0=>cB 36 #[O ae i0] w λb0 w0=>R (ao b0) w0):Cr 64 #[O ae k,ai (some dx)] w R:=
 gY (args:=[.int .i64 k,.ad dx]) h
theorem anN(k:Int)(dx:Addr)(R:aI)(w:ay)(h:Wq w dx λq0=>∃p0,q0=(some p0)/\JN w (p0.add 5) λm0=>∃b0 w0,((Instr.lookup 74 (.map m0) (O ae k) false).run au w)=(.ok (ao b0) w0)/\R (ao b0) w0):Cr 65 #[O ae k,ai (some dx)] w R:=
 gY (args:=[.int .i64 k,.ad dx]) h
theorem anO(k:Int)(dx:Addr)(R:aI)(w:ay)(h:ja w dx λl0=>∃p0,dE l0 k 5 p0/\ji w (p0.add 0) λi0=>cB 69 #[O ae i0] w λb0 w0=>R (ao (!b0)) w0):Cr 68 #[O ae k,ai (some dx)] w R:=
 gY (args:=[.int .i64 k,.ad dx]) h
theorem anP(kind:Int)(R:aI)(w:ay)(h:R (ao ((kind==1)||(kind==2))) w):Cr 69 #[O ae kind] w R:=
 gY (args:=[.int .i64 kind]) h
end Go.Proofs.YtpbgcbdclnfpnaaGreatDoor.Vc
namespace Go.Proofs.YtpbgcbdclnfpnaaGreatDoor.Vc
open Go Go.RowKit Go.Kt
attribute [local irreducible] wpList
def abh(l ck:Sl)(R:aI)(w:ay):Prop:=
 ∀(b:Nat) (b1:Nat) (PN:ay),w.heap.size<=b->b<PN.heap.size->w.heap.size<=b1->b1<PN.heap.size->aA [] w PN->
 ∃ad:Addr,(((↑(Sl.n ck):Int)==0)=false->dE ck 0 1 ad)/\
 ∃x1:Int,(((↑(Sl.n ck):Int)==0)=false->aE PN ad [O ae x1])/\
 (((((↑(Sl.n ck):Int)==0)||(x1 !=0))=true->
 R (ao false) PN)/\
 ((((↑(Sl.n ck):Int)==0)||(x1 !=0))=false->
 (1<=(Sl.n ck)/\(Sl.n ck)<=(Sl.c ck)/\(Sl.c ck)<=Sl.c ck)/\
 ∀(b2:Nat) (b3:Nat) (VH:ay),PN.heap.size<=b2->b2<VH.heap.size->PN.heap.size<=b3->b3<VH.heap.size->aA [] PN VH->aH VH b 32 [Sl.v l]->aH VH b1 33 [Sl.v ck]->aH VH b2 3 [O ae (↑(Sl.n ck):Int)]->aH VH b3 84 [.func (.func 27) #[] #[ai (some ⟨b2,0,none⟩),ai (some ⟨b,0,none⟩),ai (some ⟨b1,0,none⟩),ai (some ⟨b3,0,none⟩)]]->
 ∃(I_:Nat->Bool->Int->ay->Prop) (nv1:Nat),I_ nv1 true 0 VH/\
 ∀(nv:Nat) (qQ:Bool) (t25:Int) (Jb:ay),I_ nv qQ t25 Jb->
 (((decide (t25<(↑(Sl.n (Sl.cut ck 1 (Sl.n ck) (Sl.c ck) 1)):Int)))=true->
 ∃Z9:Addr,dE (Sl.cut ck 1 (Sl.n ck) (Sl.c ck) 1) t25 1 Z9/\
 ∀(_:aH Jb b 32 [Sl.v l]),∀(_:aH Jb b1 33 [Sl.v ck]),∀(_:aH Jb b2 3 [O ae (↑(Sl.n ck):Int)]),∀(_:aH Jb b3 84 [.func (.func 27) #[] #[ai (some ⟨b2,0,none⟩),ai (some ⟨b,0,none⟩),ai (some ⟨b1,0,none⟩),ai (some ⟨b3,0,none⟩)]]),
 ∃x2:Int,aE Jb Z9 [O ae x2]/\
 ∃uz:Addr,(qQ=true->dE ck t25 1 uz)/\
 ∃x3:Int,(qQ=true->aE Jb uz [O ae x3])/\
 ∃nv2:Nat,nv2<nv/\I_ nv2 (qQ&&(decide (x2>x3))) (IntKind.i64.wrap (t25+1)) Jb)/\
 ((decide (t25<(↑(Sl.n (Sl.cut ck 1 (Sl.n ck) (Sl.c ck) 1)):Int)))=false->
 ∀(_:aH Jb b 32 [Sl.v l]),∀(_:aH Jb b1 33 [Sl.v ck]),∀(_:aH Jb b2 3 [O ae (↑(Sl.n ck):Int)]),∀(_:aH Jb b3 84 [.func (.func 27) #[] #[ai (some ⟨b2,0,none⟩),ai (some ⟨b,0,none⟩),ai (some ⟨b1,0,none⟩),ai (some ⟨b3,0,none⟩)]]),
 ∃J_:Bool->ay->Prop,(∀(t4:Bool) (w_7:ay),J_ t4 w_7->
 ∀(_:aH w_7 b 32 [Sl.v l]),∀(_:aH w_7 b1 33 [Sl.v ck]),∀(_:aH w_7 b3 84 [.func (.func 27) #[] #[ai (some ⟨b2,0,none⟩),ai (some ⟨b,0,none⟩),ai (some ⟨b1,0,none⟩),ai (some ⟨b3,0,none⟩)]]),
 R (ao t4) w_7)/\
 (((qQ=true->
 aB au 27 #[O ae 0,ai (some ⟨b2,0,none⟩),ai (some ⟨b,0,none⟩),ai (some ⟨b1,0,none⟩),ai (some ⟨b3,0,none⟩)] Jb (λe w_8=>∃x4:Bool,e=aq (ao x4)/\ci [b,b1,b3] Jb w_8/\∃vb2:Int,aH w_8 b2 3 [O ae vb2]/\
 J_ (x4&&(vb2==0)) w_8))/\
 (qQ=false->
 J_ false Jb)))))))
theorem anQ(l ck:Sl)(R:aI)(w:ay)(h:abh l ck R w):
  aB au 9 #[Sl.v l,Sl.v ck] w λe w'=>∃v,e=aq v/\R v w':=by
 unfold abh at h;refine aaL (l:=[(0,Sl.v l),(1,Sl.v ck)]) Tryz.func9 rfl Tryz.ntmps9 (cH rfl) rfl (wp_seq (wp_region_lit (sU (wn rfl) ?_)));refine YL (zs:=[Sl.v l]) rfl (λb w_ hn hO hb=>?_);have aoR:w.heap.size<=b:=hn;have hA:aA [] w w_:=hO;refine sU (wn rfl) ?_;refine YL (zs:=[Sl.v ck]) rfl (λb1 PN hn1 cG pD=>?_);have gq:b1≠b:=by have:=hb.lt;omega
 have aiG:w.heap.size<=b1:=bf hA.size hn1;have hA1:=hA.cr cG;have tV:=cG.blk hb aac;refine sv (GN rfl) (wpList_nil (eG (wp_seq (wp_seq ?_))));replace h:=h b b1 PN aoR tV.lt aiG pD.lt hA1;obtain⟨ad,hx,h⟩:=h;obtain⟨x1,hx1,h⟩:=h;refine wp_region_lit (sv (v:=Sl.v ck) (mA (Tryz.isAgg33 _) rfl (pD.cell 0)) (sv (Q7 (s:=ck) (Tryz.runUnderlying33 _) rfl) (sv (YM rfl rfl) (sv (yZ rfl) ?_))));refine aaM 5 49 [(2,ai (some ⟨b,0,none⟩)),(3,ai (some ⟨b1,0,none⟩)),(18,ao (((↑(Sl.n ck):Int)==0)||(x1 !=0)))] ?_ ?_
 ·simp only[eF,de];rcases nD ((↑(Sl.n ck):Int)==0)with hg | hg
  ·refine I3 (vj rfl rfl rfl (bg hg) rfl) (I3 (vj rfl rfl rfl (bg hg) rfl) (I3 (vj rfl rfl rfl (bg hg) rfl) (I3 (vj rfl rfl rfl (bg hg) rfl) (sv (zH (bg hg) rfl) (wpList_nil ?_)))));exact xB ⟨rfl,rfl,(by rw[hg];rfl),trivial⟩
  refine Od (v:=Sl.v ck) (vj rfl rfl rfl (bg hg) rfl) (mA (Tryz.isAgg33 _) rfl (pD.cell 0)) (Od (v:=ai (some ad)) (vj rfl rfl rfl (bg hg) rfl) (Ax (s:=ck) (Tryz.runUnderlying33 _) (Tryz.sizeOf3 _) rfl rfl (hx hg)) (Od (v:=O ae x1) (vj rfl rfl rfl (bg hg) rfl) (mA (Tryz.isAgg3 _) rfl (Cells.one (hx1 hg))) (Od (vj rfl rfl rfl (bg hg) rfl) (afB rfl rfl) (sv (vY (bg hg) rfl) (wpList_nil ?_)))));exact xB ⟨rfl,rfl,(by rw[hg];rfl),trivial⟩
 intro us;simp only[gy,fx];refine wpList_nil (eG ?_);refine Ll (t:=(((↑(Sl.n ck):Int)==0)||(x1 !=0))) rfl (λhc=>?_) (λhc=>?_)
 ·replace h:=h.1 hc;refine wp_seq (wp_region_lit (sv (GN rfl) (wpList_nil (eG (wp_ret (QX ?_))))));exact afE Tryz.results9 ⟨rfl,trivial⟩ h
 replace h:=h.2 hc;refine wp_skip (eG (wp_seq (wp_region_lit (sv (v:=Sl.v ck) (mA (Tryz.isAgg33 _) rfl (pD.cell 0)) (sv (Q7 (s:=ck) (Tryz.runUnderlying33 _) rfl) (sU (wn rfl) ?_))))));refine Lk (zs:=[O ae 0]) (Tryz.zeroValue3 _) rfl (λb2 w_2 hn2 dk Yh=>?_);have aoS:b2≠b:=by have:=tV.lt;omega
 have KM:b2≠b1:=by have:=pD.lt;omega
 have aaa:PN.heap.size<=b2:=hn2;have hA2:aA [] PN w_2:=dk;have Uy:=dk.blk tV aac;have I9:=dk.blk pD aac;refine sU (wn rfl) ?_;refine Lj (vs:=[O ae (↑(Sl.n ck):Int)]) (cs':=[O ae (↑(Sl.n ck):Int)]) (Tryz.sizeOf3 _) rfl rfl rfl rfl Yh (cH rfl) rfl (λw_3 dz hb6=>?_);have hA3:=hA2.new dz aaa;have NU:=dz.blk Uy (by simpa using(vN aoS));have hb8:=dz.blk I9 (by simpa using(vN KM));refine wpList_nil (eG (wp_seq (wp_region_lit (sU (wn rfl) ?_))));refine Lk (zs:=[.nilFunc]) (Tryz.zeroValue84 _) rfl (λb3 w_4 hn3 dK hb9=>?_);have aoT:b3≠b:=by have:=NU.lt;omega
 have aoU:b3≠b1:=by have:=hb8.lt;omega
 have aoV:b3≠b2:=by have:=hb6.lt;omega
 have aab:PN.heap.size<=b3:=bf hA3.size hn3;have hA4:=hA3.cr dK;have ac0:=dK.blk NU aac;have aoW:=dK.blk hb8 aac;have aoX:=dK.blk hb6 aac;refine wpList_nil (eG (wp_seq (wp_region_lit (sv (v:=.func (.func 27) #[] #[ai (some ⟨b2,0,none⟩),ai (some ⟨b,0,none⟩),ai (some ⟨b1,0,none⟩),ai (some ⟨b3,0,none⟩)]) (Jv (fv:=[]) (cv:=[ai (some ⟨b2,0,none⟩),ai (some ⟨b,0,none⟩),ai (some ⟨b1,0,none⟩),ai (some ⟨b3,0,none⟩)]) rfl rfl) (sU (wn rfl) ?_)))));refine Lj (vs:=[.func (.func 27) #[] #[ai (some ⟨b2,0,none⟩),ai (some ⟨b,0,none⟩),ai (some ⟨b1,0,none⟩),ai (some ⟨b3,0,none⟩)]]) (cs':=[.func (.func 27) #[] #[ai (some ⟨b2,0,none⟩),ai (some ⟨b,0,none⟩),ai (some ⟨b1,0,none⟩),ai (some ⟨b3,0,none⟩)]]) (Tryz.sizeOf84 _) rfl rfl rfl rfl hb9 (cH rfl) rfl (λVH eJ Yi=>?_);have hA5:=hA4.new eJ aab;have aiH:=eJ.blk ac0 (by simpa using(vN aoT));have ac1:=eJ.blk aoW (by simpa using(vN aoU));have ac2:=eJ.blk aoX (by simpa using(vN aoV));refine wpList_nil (eG (wp_seq (wp_region_lit (sv (GN rfl) (wpList_nil (eG (wp_seq (wp_seq (wp_region_lit (sv (v:=Sl.v ck) (mA (Tryz.isAgg33 _) rfl (ac1.cell 0)) ?_))))))))));obtain⟨hx2,h⟩:=h;refine sv (v:=Sl.v (Sl.cut ck 1 (Sl.n ck) (Sl.c ck) 1)) (Jw (s:=ck) (Tryz.runUnderlying33 _) (Tryz.sizeOf3 _) rfl rfl (by first | exact hx2.1 | omega) (by first | exact hx2.2.1 | omega) (by first | exact hx2.2.2 | omega)) (sv (Q7 (s:=Sl.cut ck 1 (Sl.n ck) (Sl.c ck) 1) (Tryz.runUnderlying33 _) rfl) (sv (yZ rfl) (wpList_nil (eG (wp_block ?_)))));replace h:=h b2 b3 VH aaa ac2.lt aab Yi.lt hA5 aiH ac1 ac2 Yi;obtain⟨I_,nv1,h0,hI⟩:=h;refine wp_loop_ghost (λnv' a' w'=>∃qQ:Bool,∃t25:Int,(∃us,a'=fr 49 us [(3,ai (some ⟨b1,0,none⟩)),(5,ai (some ⟨b2,0,none⟩)),(6,ai (some ⟨b3,0,none⟩)),(7,ao qQ),(23,Sl.v (Sl.cut ck 1 (Sl.n ck) (Sl.c ck) 1)),(24,O ae (↑(Sl.n (Sl.cut ck 1 (Sl.n ck) (Sl.c ck) 1)):Int)),(25,O ae t25)])/\aH w' b 32 [Sl.v l]/\aH w' b1 33 [Sl.v ck]/\aH w' b2 3 [O ae (↑(Sl.n ck):Int)]/\aH w' b3 84 [.func (.func 27) #[] #[ai (some ⟨b2,0,none⟩),ai (some ⟨b,0,none⟩),ai (some ⟨b1,0,none⟩),ai (some ⟨b3,0,none⟩)]]/\I_ nv' qQ t25 w') nv1 ?_ ?_
 ·exact⟨_,_,Aw ⟨rfl,rfl,rfl,rfl,rfl,rfl,rfl,trivial⟩,aiH,ac1,ac2,Yi,h0⟩
 clear h0;rintro nv _ Jb ⟨qQ,t25,⟨us,rfl⟩,Uz,PO,ac3,PQ,h⟩;replace h:=hI _ _ _ _ h;refine wp_seq (wp_region_lit (sv (afC rfl rfl) (wpList_nil (eG (wp_seq ?_)))));refine Ll (t:=(decide (t25<(↑(Sl.n (Sl.cut ck 1 (Sl.n ck) (Sl.c ck) 1)):Int)))) rfl (λtW=>?_) (λtW=>?_)
 ·replace h:=h.1 tW;refine wp_skip (eG (wp_seq (wp_block (wp_seq (wp_region_lit (sv (yZ rfl) ?_))))));obtain⟨Z9,hx3,h⟩:=h;refine sv (v:=ai (some Z9)) (Ax (s:=Sl.cut ck 1 (Sl.n ck) (Sl.c ck) 1) (Tryz.runUnderlying33 _) (Tryz.sizeOf3 _) rfl rfl hx3) ?_;replace h:=h Uz PO ac3 PQ;obtain⟨x2,hx4,h⟩:=h;refine sv (v:=O ae x2) (mA (Tryz.isAgg3 _) rfl (Cells.one hx4)) (sv (GN rfl) (sv (GN rfl) (wpList_nil (eG ?_))));obtain⟨uz,hx5,h⟩:=h;obtain⟨x3,hx6,h⟩:=h;refine wp_region_lit (sv (yZ rfl) (sv (yZ rfl) ?_));refine aaM 7 49 [(3,ai (some ⟨b1,0,none⟩)),(5,ai (some ⟨b2,0,none⟩)),(6,ai (some ⟨b3,0,none⟩)),(23,Sl.v (Sl.cut ck 1 (Sl.n ck) (Sl.c ck) 1)),(24,O ae (↑(Sl.n (Sl.cut ck 1 (Sl.n ck) (Sl.c ck) 1)):Int)),(25,O ae t25),(38,ao (qQ&&(decide (x2>x3))))] ?_ ?_
  ·simp only[eF,de];rcases nD qQ with B9 | B9
   ·refine Od (vj rfl rfl rfl (bg B9) rfl) (yZ rfl) (Od (v:=Sl.v ck) (vj rfl rfl rfl (bg B9) rfl) (mA (Tryz.isAgg33 _) rfl (PO.cell 0)) (Od (vj rfl rfl rfl (bg B9) rfl) (yZ rfl) (Od (v:=ai (some uz)) (vj rfl rfl rfl (bg B9) rfl) (Ax (s:=ck) (Tryz.runUnderlying33 _) (Tryz.sizeOf3 _) rfl rfl (hx5 B9)) (Od (v:=O ae x3) (vj rfl rfl rfl (bg B9) rfl) (mA (Tryz.isAgg3 _) rfl (Cells.one (hx6 B9))) (Od (vj rfl rfl rfl (bg B9) rfl) (afD rfl rfl) (sv (zH (bg B9) rfl) (wpList_nil ?_)))))));exact xB ⟨rfl,rfl,rfl,rfl,rfl,rfl,(by rw[B9];rfl),trivial⟩
   refine I3 (vj rfl rfl rfl (bg B9) rfl) (I3 (vj rfl rfl rfl (bg B9) rfl) (I3 (vj rfl rfl rfl (bg B9) rfl) (I3 (vj rfl rfl rfl (bg B9) rfl) (I3 (vj rfl rfl rfl (bg B9) rfl) (I3 (vj rfl rfl rfl (bg B9) rfl) (sv (vY (bg B9) rfl) (wpList_nil ?_)))))));exact xB ⟨rfl,rfl,rfl,rfl,rfl,rfl,(by rw[B9];rfl),trivial⟩
  intro us;simp only[gy,fx];refine sv (GN rfl) (wpList_nil (Ee (eG (wp_region_lit (sv (afA rfl rfl) (sv (yZ rfl) (wpList_nil (eG ?_))))))));obtain⟨nv2,hl,h⟩:=h;exact⟨nv2,hl,_,_,Aw ⟨rfl,rfl,rfl,rfl,rfl,rfl,rfl,trivial⟩,Uz,PO,ac3,PQ,h⟩
 replace h:=h.2 tW;refine wp_exit (CY (CY (CZ (eG (wp_seq ?_)))));replace h:=h Uz PO ac3 PQ;obtain⟨J_,hJ,h⟩:=h;refine aaI (λa' w'=>∃t4:Bool,(∃us,a'=fr 49 us [(4,ao t4)])/\aH w' b 32 [Sl.v l]/\aH w' b1 33 [Sl.v ck]/\aH w' b3 84 [.func (.func 27) #[] #[ai (some ⟨b2,0,none⟩),ai (some ⟨b,0,none⟩),ai (some ⟨b1,0,none⟩),ai (some ⟨b3,0,none⟩)]]/\J_ t4 w') ?_ ?_
 ·clear h;rintro _ w_7 ⟨t4,⟨us1,rfl⟩,aoZ,ao0,ao1,h⟩;replace h:=hJ _ _ h
  first | refine wp_ret ?_ | refine eG (wp_ret ?_)
  replace h:=h aoZ ao0 ao1;exact afE Tryz.results9 ⟨rfl,trivial⟩ h
 refine wp_region_lit (sv (yZ rfl) (sv (yZ rfl) ?_));rcases nD qQ with PR | PR
 ·replace h:=h.1 PR;refine Od (v:=.func (.func 27) #[] #[ai (some ⟨b2,0,none⟩),ai (some ⟨b,0,none⟩),ai (some ⟨b1,0,none⟩),ai (some ⟨b3,0,none⟩)]) (vj rfl rfl rfl (bg PR) rfl) (mA (Tryz.isAgg84 _) rfl (PQ.cell 0)) (sU (vj rfl rfl rfl (bg PR) rfl) ?_);refine VZ (args:=#[O ae 0,ai (some ⟨b2,0,none⟩),ai (some ⟨b,0,none⟩),ai (some ⟨b1,0,none⟩),ai (some ⟨b3,0,none⟩)]) (Q8 (first:=[]) (captured:=[ai (some ⟨b2,0,none⟩),ai (some ⟨b,0,none⟩),ai (some ⟨b1,0,none⟩),ai (some ⟨b3,0,none⟩)]) rfl Tryz.call27 rfl) (h.mono ?_);clear h;rintro _ w_8 ⟨x4,rfl,hs,vb2,ao2,h⟩;refine⟨_,rfl,?_⟩;have ao3:=hs.blk Uz aac;have ao4:=hs.blk PO aac;have ao5:=hs.blk PQ aac;refine sv (zH (bg PR) rfl) (sv (yZ rfl) ?_);refine aaM 3 49 [(48,ao (x4&&(vb2==0)))] ?_ ?_
  ·simp only[eF,de];rcases nD x4 with Yj | Yj
   ·refine Od (v:=O ae vb2) (vj rfl rfl rfl (bg Yj) rfl) (mA (Tryz.isAgg3 _) rfl (ao2.cell 0)) (Od (vj rfl rfl rfl (bg Yj) rfl) (YM rfl rfl) (sv (zH (bg Yj) rfl) (wpList_nil ?_)));exact xB ⟨(by rw[Yj];rfl),trivial⟩
   refine I3 (vj rfl rfl rfl (bg Yj) rfl) (I3 (vj rfl rfl rfl (bg Yj) rfl) (sv (vY (bg Yj) rfl) (wpList_nil ?_)));exact xB ⟨(by rw[Yj];rfl),trivial⟩
  intro us;simp only[gy,fx];refine sv (GN rfl) (wpList_nil ?_);exact eG ⟨_,Aw ⟨rfl,trivial⟩,ao3,ao4,ao5,h⟩
 replace h:=h.2 PR;refine I3 (vj rfl rfl rfl (bg PR) rfl) (I3 (vj rfl rfl rfl (bg PR) rfl) (sv (vY (bg PR) rfl) (sv (yZ rfl) (I3 (vj rfl rfl rfl rfl rfl) (I3 (vj rfl rfl rfl rfl rfl) (sv (vY rfl rfl) (sv (GN rfl) (wpList_nil ?_))))))));exact eG ⟨_,Aw ⟨rfl,trivial⟩,Uz,PO,PQ,h⟩
end Go.Proofs.YtpbgcbdclnfpnaaGreatDoor.Vc
namespace Go.Proofs
open Go.Shelf
def Tryz.yQ:Go.Shelf.Ren:=⟨λ| 156=>202 | 165=>201 | 166=>175 | 169=>147 | 240=>199 | 241=>218 | 276=>215 | 277=>233 | n=>n,λ| 31=>132 | 9=>9 | 3=>3 | 4=>4 | 0=>0 | 20=>20 | 72=>216 | 76=>247 | 70=>213 | 37=>214 | 75=>246 | 127=>256 | 164=>281 | 5=>5 | 80=>225 | n=>n,λ| n=>n⟩
theorem Tryz.NF:Go.Proofs.Lays.n156 Tryz.prog Tryz.yQ:={
 mixed:=by kernel_rfl
 f156:=Tryz.func202.trans (bm some (by kernel_rfl))
 f165:=Tryz.func201.trans (bm some (by kernel_rfl))
 f166:=Tryz.func175.trans (bm some (by kernel_rfl))
 f169:=Tryz.func147.trans (bm some (by kernel_rfl))
 f240:=Tryz.func199.trans (bm some (by kernel_rfl))
 f241:=Tryz.func218.trans (bm some (by kernel_rfl))
 f276:=Tryz.func215.trans (bm some (by kernel_rfl))
 f277:=Tryz.func233.trans (bm some (by kernel_rfl))
 t0:=Tryz.underlying0
 a0:=Tryz.isAgg0
 z0:=Tryz.sizeOf0
 v0:=Tryz.zeroValue0
 t3:=Tryz.underlying3
 a3:=Tryz.isAgg3
 z3:=Tryz.sizeOf3
 v3:=Tryz.zeroValue3
 t4:=Tryz.underlying4
 a4:=Tryz.isAgg4
 z4:=Tryz.sizeOf4
 v4:=Tryz.zeroValue4
 t9:=Tryz.underlying9
 a9:=Tryz.isAgg9
 z9:=Tryz.sizeOf9
 v9:=Tryz.zeroValue9
 t20:=Tryz.underlying20
 a20:=Tryz.isAgg20
 z20:=Tryz.sizeOf20
 v20:=Tryz.zeroValue20
 t31:=Tryz.underlying132
 a31:=Tryz.isAgg132
 z31:=Tryz.sizeOf132
 v31:=Tryz.zeroValue132
 t37:=Tryz.underlying214
 a37:=Tryz.isAgg214
 z37:=Tryz.sizeOf214
 v37:=Tryz.zeroValue214
 t70:=Tryz.underlying213
 a70:=Tryz.isAgg213
 z70:=Tryz.sizeOf213
 v70:=Tryz.zeroValue213
 t72:=Tryz.underlying216
 a72:=Tryz.isAgg216
 z72:=Tryz.sizeOf216
 v72:=Tryz.zeroValue216
 t75:=Tryz.underlying246
 a75:=Tryz.isAgg246
 z75:=Tryz.sizeOf246
 v75:=Tryz.zeroValue246
 t76:=Tryz.underlying247
 a76:=Tryz.isAgg247
 z76:=Tryz.sizeOf247
 v76:=Tryz.zeroValue247
 t127:=Tryz.underlying256
 a127:=Tryz.isAgg256
 z127:=Tryz.sizeOf256
 v127:=Tryz.zeroValue256
 t164:=Tryz.underlying281
 a164:=Tryz.isAgg281
 z164:=Tryz.sizeOf281
 v164:=Tryz.zeroValue281}
theorem Tryz.pB:Builder.Extra Tryz.prog Tryz.yQ:={
 sizeBuilder:=by kernel_rfl
 liesBuilder:=by kernel_rfl
 t5:=Tryz.underlying5
 a5:=Tryz.isAgg5
 z5:=Tryz.sizeOf5
 v5:=Tryz.zeroValue5
 infoByte:=by kernel_rfl
 cellsByte:=by kernel_rfl
 sizeByte:=by kernel_rfl
 neB5:=aN}
open Go.RowKit in
theorem Tryz.strings_Join_none (a:Option Addr) (c:Nat) (sep:ByteArray) (w:World):
 Calls Tryz.prog 202 #[.slice a 0 c,.string sep] w λe w'=>e=.returned (.string ⟨#[]⟩)/\w'=w:=Any.strings_Join_none Tryz.NF Tryz.pB a c sep w
open Go.RowKit in
theorem Tryz.strings_Join (bk o c:Nat) (xs:List ByteArray) (sep:ByteArray) (w:World) (vH:∀(j:Nat) x,xs[j]? =some x->w.cell? ⟨bk,o+j,none⟩=some (.string x)) (Qr:bk<w.heap.size) (hN:xs.length<=140737488355328) (lI:xs.length<=c) (fy:(Lib.join (xs.map (·.data.toList)) sep.data.toList).length<=140737488355328):
 Calls Tryz.prog 202 #[.slice (some ⟨bk,o,none⟩) xs.length c,.string sep] w λe w'=>e=.returned (.string ⟨(Lib.join (xs.map (·.data.toList)) sep.data.toList).toArray⟩)/\Below w.heap.size w w':=Any.strings_Join Tryz.NF Tryz.pB bk o c xs sep w vH Qr hN lI fy
def Tryz.FO:Go.Shelf.Ren:=⟨λ| 171=>179 | 243=>205 | 246=>220 | 283=>234 | 284=>235 | 285=>236 | 286=>237 | 129=>114 | 317=>250 | 318=>251 | 319=>252 | 320=>253 | 337=>269 | 338=>270 | n=>n,λ| 3=>3 | 9=>9 | 2=>2 | 4=>4 | 171=>300 | 0=>0 | 53=>186 | 37=>214 | 5=>5 | 173=>302 | 212=>320 | 51=>184 | 20=>20 | 213=>321 | 46=>136 | 232=>337 | 233=>338 | n=>n,λ| 17=>1 | 18=>4 | 19=>5 | n=>n⟩
theorem Tryz.T8:Go.Proofs.LaysM.n171 Tryz.prog Tryz.FO:={
 mixed:=by kernel_rfl
 f129:=Tryz.func114.trans (bm some (by kernel_rfl))
 f171:=Tryz.func179.trans (bm some (by kernel_rfl))
 f243:=Tryz.func205.trans (bm some (by kernel_rfl))
 f246:=Tryz.func220.trans (bm some (by kernel_rfl))
 f283:=Tryz.func234.trans (bm some (by kernel_rfl))
 f284:=Tryz.func235.trans (bm some (by kernel_rfl))
 f285:=Tryz.func236.trans (bm some (by kernel_rfl))
 f286:=Tryz.func237.trans (bm some (by kernel_rfl))
 f317:=Tryz.func250.trans (bm some (by kernel_rfl))
 f318:=Tryz.func251.trans (bm some (by kernel_rfl))
 f319:=Tryz.func252.trans (bm some (by kernel_rfl))
 f320:=Tryz.func253.trans (bm some (by kernel_rfl))
 f337:=Tryz.func269.trans (bm some (by kernel_rfl))
 f338:=Tryz.func270.trans (bm some (by kernel_rfl))
 t0:=Tryz.underlying0
 a0:=Tryz.isAgg0
 z0:=Tryz.sizeOf0
 v0:=Tryz.zeroValue0
 t2:=Tryz.underlying2
 a2:=Tryz.isAgg2
 z2:=Tryz.sizeOf2
 v2:=Tryz.zeroValue2
 t3:=Tryz.underlying3
 a3:=Tryz.isAgg3
 z3:=Tryz.sizeOf3
 v3:=Tryz.zeroValue3
 t4:=Tryz.underlying4
 a4:=Tryz.isAgg4
 z4:=Tryz.sizeOf4
 v4:=Tryz.zeroValue4
 t5:=Tryz.underlying5
 a5:=Tryz.isAgg5
 z5:=Tryz.sizeOf5
 v5:=Tryz.zeroValue5
 t9:=Tryz.underlying9
 a9:=Tryz.isAgg9
 z9:=Tryz.sizeOf9
 v9:=Tryz.zeroValue9
 t20:=Tryz.underlying20
 a20:=Tryz.isAgg20
 z20:=Tryz.sizeOf20
 v20:=Tryz.zeroValue20
 t37:=Tryz.underlying214
 a37:=Tryz.isAgg214
 z37:=Tryz.sizeOf214
 v37:=Tryz.zeroValue214
 t46:=Tryz.underlying136
 a46:=Tryz.isAgg136
 z46:=Tryz.sizeOf136
 v46:=Tryz.zeroValue136
 t51:=Tryz.underlying184
 a51:=Tryz.isAgg184
 z51:=Tryz.sizeOf184
 v51:=Tryz.zeroValue184
 t53:=Tryz.underlying186
 a53:=Tryz.isAgg186
 z53:=Tryz.sizeOf186
 v53:=Tryz.zeroValue186
 t171:=Tryz.underlying300
 a171:=Tryz.isAgg300
 z171:=Tryz.sizeOf300
 v171:=Tryz.zeroValue300
 t173:=Tryz.underlying302
 a173:=Tryz.isAgg302
 z173:=Tryz.sizeOf302
 v173:=Tryz.zeroValue302
 t212:=Tryz.underlying320
 a212:=Tryz.isAgg320
 z212:=Tryz.sizeOf320
 v212:=Tryz.zeroValue320
 t213:=Tryz.underlying321
 a213:=Tryz.isAgg321
 z213:=Tryz.sizeOf321
 t232:=Tryz.underlying337
 a232:=Tryz.isAgg337
 z232:=Tryz.sizeOf337
 v232:=Tryz.zeroValue337
 t233:=Tryz.underlying338
 a233:=Tryz.isAgg338
 z233:=Tryz.sizeOf338
 v233:=Tryz.zeroValue338
 g17:=by kernel_rfl
 g18:=by kernel_rfl
 g19:=by kernel_rfl
 i0:=by kernel_rfl
 i2:=by kernel_rfl
 i3:=by kernel_rfl
 i4:=by kernel_rfl
 i5:=by kernel_rfl
 i9:=by kernel_rfl
 i20:=by kernel_rfl
 i37:=by kernel_rfl
 i46:=by kernel_rfl
 i51:=by kernel_rfl
 i53:=by kernel_rfl
 i171:=by kernel_rfl
 i173:=by kernel_rfl
 i212:=by kernel_rfl
 i232:=by kernel_rfl
 i233:=by kernel_rfl
 m17:=by kernel_rfl
 m18:=by kernel_rfl
 m19:=by kernel_rfl}
open Go.RowKit Go.Sort Go.Lib in
theorem Tryz.strconv_Itoa (n:Int) (h0: -9223372036854775808<=n) (h1:n<=9223372036854775807) (w:World) (ao6:Lib.TabIs Tryz.prog w "internal/strconv.uint64pow10" .u64 Lib.pow10Tab):
 Calls Tryz.prog 179 #[.int .i64 n] w λe w'=>e=.returned (.string ⟨(Lib.itoa n).toArray⟩)/\∃k os,w'=grow (w.drewN k) os:=Any.strconv_Itoa Tryz.T8 n h0 h1 w ao6
def Tryz.FP:Go.Shelf.Ren:=⟨λ| 316=>211 | n=>n,λ| 9=>9 | 3=>3 | 4=>4 | 37=>214 | 0=>0 | 127=>256 | 5=>5 | n=>n,λ| n=>n⟩
theorem Tryz.T9:Go.Proofs.LaysM.n316 Tryz.prog Tryz.FP:={
 mixed:=by kernel_rfl
 f316:=Tryz.func211.trans (bm some (by kernel_rfl))
 t0:=Tryz.underlying0
 a0:=Tryz.isAgg0
 z0:=Tryz.sizeOf0
 v0:=Tryz.zeroValue0
 t3:=Tryz.underlying3
 a3:=Tryz.isAgg3
 z3:=Tryz.sizeOf3
 v3:=Tryz.zeroValue3
 t4:=Tryz.underlying4
 a4:=Tryz.isAgg4
 z4:=Tryz.sizeOf4
 v4:=Tryz.zeroValue4
 t9:=Tryz.underlying9
 a9:=Tryz.isAgg9
 z9:=Tryz.sizeOf9
 v9:=Tryz.zeroValue9
 t37:=Tryz.underlying214
 a37:=Tryz.isAgg214
 z37:=Tryz.sizeOf214
 v37:=Tryz.zeroValue214
 t127:=Tryz.underlying256
 a127:=Tryz.isAgg256
 z127:=Tryz.sizeOf256
 v127:=Tryz.zeroValue256
 t5:=Tryz.underlying5
 a5:=Tryz.isAgg5
 z5:=Tryz.sizeOf5
 v5:=Tryz.zeroValue5
 i0:=by kernel_rfl
 i3:=by kernel_rfl
 i4:=by kernel_rfl
 i5:=by kernel_rfl
 i9:=by kernel_rfl
 i37:=by kernel_rfl
 i127:=by kernel_rfl}
open Go.RowKit in
theorem Tryz.stringslite_Clone (s:ByteArray) (w:World) (ac4:s.size<=281474976710656):
 Calls Tryz.prog 211 #[.string s] w λe w'=>e=.returned (.string s)/\Below w.heap.size w w':=Any.stringslite_Clone Tryz.T9 s w ac4
def Tryz.FQ:Go.Shelf.Ren:=⟨λ| 174=>213 | 247=>226 | 245=>227 | 287=>243 | 279=>244 | 280=>245 | 281=>246 | 282=>247 | 321=>259 | 322=>260 | 316=>211 | 171=>179 | 205=>261 | 243=>205 | 246=>220 | 283=>234 | 284=>235 | 285=>236 | 286=>237 | 129=>114 | 317=>250 | 318=>251 | 319=>252 | 320=>253 | 337=>269 | 338=>270 | n=>n,λ| 9=>9 | 3=>3 | 2=>2 | 75=>246 | 85=>277 | 4=>4 | 167=>312 | 5=>5 | 53=>186 | 175=>313 | 46=>136 | 168=>315 | 37=>214 | 0=>0 | 210=>327 | 21=>21 | 127=>256 | 145=>336 | 143=>334 | 171=>300 | 173=>302 | 212=>320 | 51=>184 | 20=>20 | 213=>321 | 232=>337 | 233=>338 | 80=>225 | n=>n,λ| 15=>2 | 16=>3 | 17=>1 | 18=>4 | 19=>5 | n=>n⟩
theorem Tryz.IC:Go.Proofs.LaysC.n174 Tryz.prog Tryz.FQ:={
 mixed:=by kernel_rfl
 f129:=Tryz.func114.trans (bm some (by kernel_rfl))
 f171:=Tryz.func179.trans (bm some (by kernel_rfl))
 f174:=Tryz.func213.trans (bm some (by kernel_rfl))
 f205:=Tryz.func261.trans (bm some (by kernel_rfl))
 f243:=Tryz.func205.trans (bm some (by kernel_rfl))
 f245:=Tryz.func227.trans (bm some (by kernel_rfl))
 f246:=Tryz.func220.trans (bm some (by kernel_rfl))
 f247:=Tryz.func226.trans (bm some (by kernel_rfl))
 f279:=Tryz.func244.trans (bm some (by kernel_rfl))
 f280:=Tryz.func245.trans (bm some (by kernel_rfl))
 f281:=Tryz.func246.trans (bm some (by kernel_rfl))
 f282:=Tryz.func247.trans (bm some (by kernel_rfl))
 f283:=Tryz.func234.trans (bm some (by kernel_rfl))
 f284:=Tryz.func235.trans (bm some (by kernel_rfl))
 f285:=Tryz.func236.trans (bm some (by kernel_rfl))
 f286:=Tryz.func237.trans (bm some (by kernel_rfl))
 f287:=Tryz.func243.trans (bm some (by kernel_rfl))
 f316:=Tryz.func211.trans (bm some (by kernel_rfl))
 f317:=Tryz.func250.trans (bm some (by kernel_rfl))
 f318:=Tryz.func251.trans (bm some (by kernel_rfl))
 f319:=Tryz.func252.trans (bm some (by kernel_rfl))
 f320:=Tryz.func253.trans (bm some (by kernel_rfl))
 f321:=Tryz.func259.trans (bm some (by kernel_rfl))
 f322:=Tryz.func260.trans (bm some (by kernel_rfl))
 f337:=Tryz.func269.trans (bm some (by kernel_rfl))
 f338:=Tryz.func270.trans (bm some (by kernel_rfl))
 t0:=Tryz.underlying0
 a0:=Tryz.isAgg0
 z0:=Tryz.sizeOf0
 v0:=Tryz.zeroValue0
 t2:=Tryz.underlying2
 a2:=Tryz.isAgg2
 z2:=Tryz.sizeOf2
 v2:=Tryz.zeroValue2
 t3:=Tryz.underlying3
 a3:=Tryz.isAgg3
 z3:=Tryz.sizeOf3
 v3:=Tryz.zeroValue3
 t4:=Tryz.underlying4
 a4:=Tryz.isAgg4
 z4:=Tryz.sizeOf4
 v4:=Tryz.zeroValue4
 t5:=Tryz.underlying5
 a5:=Tryz.isAgg5
 z5:=Tryz.sizeOf5
 v5:=Tryz.zeroValue5
 t9:=Tryz.underlying9
 a9:=Tryz.isAgg9
 z9:=Tryz.sizeOf9
 v9:=Tryz.zeroValue9
 t20:=Tryz.underlying20
 a20:=Tryz.isAgg20
 z20:=Tryz.sizeOf20
 v20:=Tryz.zeroValue20
 t21:=Tryz.underlying21
 a21:=Tryz.isAgg21
 z21:=Tryz.sizeOf21
 v21:=Tryz.zeroValue21
 t37:=Tryz.underlying214
 a37:=Tryz.isAgg214
 z37:=Tryz.sizeOf214
 v37:=Tryz.zeroValue214
 t46:=Tryz.underlying136
 a46:=Tryz.isAgg136
 z46:=Tryz.sizeOf136
 v46:=Tryz.zeroValue136
 t51:=Tryz.underlying184
 a51:=Tryz.isAgg184
 z51:=Tryz.sizeOf184
 v51:=Tryz.zeroValue184
 t53:=Tryz.underlying186
 a53:=Tryz.isAgg186
 z53:=Tryz.sizeOf186
 v53:=Tryz.zeroValue186
 t75:=Tryz.underlying246
 a75:=Tryz.isAgg246
 z75:=Tryz.sizeOf246
 v75:=Tryz.zeroValue246
 t85:=Tryz.underlying277
 a85:=Tryz.isAgg277
 z85:=Tryz.sizeOf277
 v85:=Tryz.zeroValue277
 t127:=Tryz.underlying256
 a127:=Tryz.isAgg256
 z127:=Tryz.sizeOf256
 v127:=Tryz.zeroValue256
 t143:=Tryz.underlying334
 a143:=Tryz.isAgg334
 z143:=Tryz.sizeOf334
 v143:=Tryz.zeroValue334
 t145:=Tryz.underlying336
 a145:=Tryz.isAgg336
 z145:=Tryz.sizeOf336
 v145:=Tryz.zeroValue336
 t167:=Tryz.underlying312
 a167:=Tryz.isAgg312
 z167:=Tryz.sizeOf312
 v167:=Tryz.zeroValue312
 t168:=Tryz.underlying315
 a168:=Tryz.isAgg315
 z168:=Tryz.sizeOf315
 v168:=Tryz.zeroValue315
 t171:=Tryz.underlying300
 a171:=Tryz.isAgg300
 z171:=Tryz.sizeOf300
 v171:=Tryz.zeroValue300
 t173:=Tryz.underlying302
 a173:=Tryz.isAgg302
 z173:=Tryz.sizeOf302
 v173:=Tryz.zeroValue302
 t175:=Tryz.underlying313
 a175:=Tryz.isAgg313
 z175:=Tryz.sizeOf313
 v175:=Tryz.zeroValue313
 t210:=Tryz.underlying327
 a210:=Tryz.isAgg327
 z210:=Tryz.sizeOf327
 v210:=Tryz.zeroValue327
 t212:=Tryz.underlying320
 a212:=Tryz.isAgg320
 z212:=Tryz.sizeOf320
 v212:=Tryz.zeroValue320
 t213:=Tryz.underlying321
 a213:=Tryz.isAgg321
 z213:=Tryz.sizeOf321
 t232:=Tryz.underlying337
 a232:=Tryz.isAgg337
 z232:=Tryz.sizeOf337
 v232:=Tryz.zeroValue337
 t233:=Tryz.underlying338
 a233:=Tryz.isAgg338
 z233:=Tryz.sizeOf338
 v233:=Tryz.zeroValue338
 g15:=by kernel_rfl
 g16:=by kernel_rfl
 g17:=by kernel_rfl
 g18:=by kernel_rfl
 g19:=by kernel_rfl
 t80:=Tryz.underlying225
 a80:=Tryz.isAgg225
 z80:=Tryz.sizeOf225
 v80:=Tryz.zeroValue225
 i0:=by kernel_rfl
 i2:=by kernel_rfl
 i3:=by kernel_rfl
 i4:=by kernel_rfl
 i5:=by kernel_rfl
 i9:=by kernel_rfl
 i20:=by kernel_rfl
 i21:=by kernel_rfl
 i37:=by kernel_rfl
 i46:=by kernel_rfl
 i51:=by kernel_rfl
 i53:=by kernel_rfl
 i75:=by kernel_rfl
 i80:=by kernel_rfl
 i85:=by kernel_rfl
 i127:=by kernel_rfl
 i143:=by kernel_rfl
 i145:=by kernel_rfl
 i167:=by kernel_rfl
 i168:=by kernel_rfl
 i171:=by kernel_rfl
 i173:=by kernel_rfl
 i175:=by kernel_rfl
 i210:=by kernel_rfl
 i212:=by kernel_rfl
 i232:=by kernel_rfl
 i233:=by kernel_rfl
 m15:=by kernel_rfl
 m16:=by kernel_rfl
 m17:=by kernel_rfl
 m18:=by kernel_rfl
 m19:=by kernel_rfl
 c0:=by kernel_rfl
 c2:=by kernel_rfl
 c3:=by kernel_rfl
 c4:=by kernel_rfl
 c5:=by kernel_rfl
 c9:=by kernel_rfl
 c20:=by kernel_rfl
 c21:=by kernel_rfl
 c37:=by kernel_rfl
 c46:=by kernel_rfl
 c51:=by kernel_rfl
 c53:=by kernel_rfl
 c75:=by kernel_rfl
 c80:=by kernel_rfl
 c85:=by kernel_rfl
 c127:=by kernel_rfl
 c143:=by kernel_rfl
 c145:=by kernel_rfl
 c167:=by kernel_rfl
 c168:=by kernel_rfl
 c171:=by kernel_rfl
 c173:=by kernel_rfl
 c175:=by kernel_rfl
 c210:=by kernel_rfl
 c212:=by kernel_rfl
 c213:=by kernel_rfl
 c232:=by kernel_rfl
 c233:=by kernel_rfl}
open Go.RowKit in
theorem Tryz.strconv_ParseInt_10_at64_ok (s:ByteArray) (IM:s.size<=9223372036854775806) (v:Int) (h:Lib.parseIntB 64 s.data.toList=.ok v) (w:World):
 Calls Tryz.prog 213 #[.string s,.int .i64 10,.int .i64 64] w λe w'=>e=.returned (.tuple #[.int .i64 v,.nilIface])/\(w'=w∨∃t,w'=Lib.bytesWorld w 5 t):=Any.strconv_ParseInt_10_at64_ok Tryz.IC s IM v h w
open Go.RowKit in
theorem Tryz.strconv_ParseInt_10_at64_range_var (s:ByteArray) (ac4:s.size<=281474976710656) (h:Lib.parseIntB 64 s.data.toList=.range) (tp:TypeId) (p:Value) (w:World) (ac5:w.var? Tryz.prog "strconv.ErrRange" =some #[.iface tp p]):
 Calls Tryz.prog 213 #[.string s,.int .i64 10,.int .i64 64] w λe w'=>∃N,e=.returned (.tuple #[.int .i64 (Lib.intSat 64 s.data.toList),.iface 315 (.pointer (some ⟨N,0,none⟩))])/\w.heap.size<=N/\w'.heap[N]? =some (.cells #[.string ⟨#[80,97,114,115,101,73,110,116]⟩,.string s,.iface tp p] 327 (0,0))/\Below w.heap.size w w':=Any.strconv_ParseInt_10_at64_range_var Tryz.IC s ac4 h tp p w ac5
def Tryz.IE:Go.Shelf.Ren:=⟨λ| 219=>210 | 217=>222 | 225=>223 | 224=>224 | 267=>225 | 266=>241 | 314=>242 | n=>n,λ| 9=>9 | 3=>3 | 4=>4 | 5=>5 | 46=>136 | 146=>283 | 51=>184 | n=>n,λ| 1=>0 | n=>n⟩
theorem Tryz.XK:Go.Proofs.Lays.n219 Tryz.prog Tryz.IE:={
 mixed:=by kernel_rfl
 f217:=Tryz.func222.trans (bm some (by kernel_rfl))
 f219:=Tryz.func210.trans (bm some (by kernel_rfl))
 f224:=Tryz.func224.trans (bm some (by kernel_rfl))
 f225:=Tryz.func223.trans (bm some (by kernel_rfl))
 f266:=Tryz.func241.trans (bm some (by kernel_rfl))
 f267:=Tryz.func225.trans (bm some (by kernel_rfl))
 f314:=Tryz.func242.trans (bm some (by kernel_rfl))
 t3:=Tryz.underlying3
 a3:=Tryz.isAgg3
 z3:=Tryz.sizeOf3
 v3:=Tryz.zeroValue3
 t4:=Tryz.underlying4
 a4:=Tryz.isAgg4
 z4:=Tryz.sizeOf4
 v4:=Tryz.zeroValue4
 t5:=Tryz.underlying5
 a5:=Tryz.isAgg5
 z5:=Tryz.sizeOf5
 v5:=Tryz.zeroValue5
 t9:=Tryz.underlying9
 a9:=Tryz.isAgg9
 z9:=Tryz.sizeOf9
 v9:=Tryz.zeroValue9
 t46:=Tryz.underlying136
 a46:=Tryz.isAgg136
 z46:=Tryz.sizeOf136
 v46:=Tryz.zeroValue136
 t51:=Tryz.underlying184
 a51:=Tryz.isAgg184
 z51:=Tryz.sizeOf184
 v51:=Tryz.zeroValue184
 t146:=Tryz.underlying283
 a146:=Tryz.isAgg283
 z146:=Tryz.sizeOf283
 v146:=Tryz.zeroValue283
 g1:=by kernel_rfl}
open Go.RowKit Go.Lib in
theorem Tryz.stringslite_Index_one (s:ByteArray) (c:UInt8) (w:World):
 Calls Tryz.prog 210 #[.string s,.string ⟨#[c]⟩] w λe w'=>e=.returned (.int .i64 (Lib.indexByte s.data.toList c))/\w'=w:=Any.stringslite_Index_one Tryz.XK s c w
def Tryz.IG:Go.Shelf.Ren:=⟨λ| 189=>54 | 125=>80 | 257=>86 | 128=>113 | 129=>114 | 294=>115 | 295=>116 | 296=>117 | 297=>118 | 298=>119 | 299=>120 | 216=>70 | 300=>121 | 301=>122 | 328=>158 | 329=>154 | 330=>155 | 331=>159 | 332=>160 | 215=>81 | 343=>187 | n=>n,λ| 28=>33 | 3=>3 | 46=>136 | 0=>0 | 51=>184 | 53=>186 | 4=>4 | 183=>178 | 182=>177 | 131=>86 | 5=>5 | 9=>9 | 218=>228 | 222=>202 | 228=>258 | 229=>219 | n=>n,λ| n=>n⟩
theorem Tryz.NG:Go.Proofs.Lays.n189 Tryz.prog Tryz.IG:={
 mixed:=by kernel_rfl
 f125:=Tryz.func80.trans (bm some (by kernel_rfl))
 f128:=Tryz.func113.trans (bm some (by kernel_rfl))
 f129:=Tryz.func114.trans (bm some (by kernel_rfl))
 f189:=Tryz.func54.trans (bm some (by kernel_rfl))
 f215:=Tryz.func81.trans (bm some (by kernel_rfl))
 f216:=Tryz.func70.trans (bm some (by kernel_rfl))
 f257:=Tryz.func86.trans (bm some (by kernel_rfl))
 f294:=Tryz.func115.trans (bm some (by kernel_rfl))
 f295:=Tryz.func116.trans (bm some (by kernel_rfl))
 f296:=Tryz.func117.trans (bm some (by kernel_rfl))
 f297:=Tryz.func118.trans (bm some (by kernel_rfl))
 f298:=Tryz.func119.trans (bm some (by kernel_rfl))
 f299:=Tryz.func120.trans (bm some (by kernel_rfl))
 f300:=Tryz.func121.trans (bm some (by kernel_rfl))
 f301:=Tryz.func122.trans (bm some (by kernel_rfl))
 f328:=Tryz.func158.trans (bm some (by kernel_rfl))
 f329:=Tryz.func154.trans (bm some (by kernel_rfl))
 f330:=Tryz.func155.trans (bm some (by kernel_rfl))
 f331:=Tryz.func159.trans (bm some (by kernel_rfl))
 f332:=Tryz.func160.trans (bm some (by kernel_rfl))
 f343:=Tryz.func187.trans (bm some (by kernel_rfl))
 t0:=Tryz.underlying0
 a0:=Tryz.isAgg0
 z0:=Tryz.sizeOf0
 v0:=Tryz.zeroValue0
 t3:=Tryz.underlying3
 a3:=Tryz.isAgg3
 z3:=Tryz.sizeOf3
 v3:=Tryz.zeroValue3
 t4:=Tryz.underlying4
 a4:=Tryz.isAgg4
 z4:=Tryz.sizeOf4
 v4:=Tryz.zeroValue4
 t5:=Tryz.underlying5
 a5:=Tryz.isAgg5
 z5:=Tryz.sizeOf5
 v5:=Tryz.zeroValue5
 t9:=Tryz.underlying9
 a9:=Tryz.isAgg9
 z9:=Tryz.sizeOf9
 v9:=Tryz.zeroValue9
 t28:=Tryz.underlying33
 a28:=Tryz.isAgg33
 z28:=Tryz.sizeOf33
 v28:=Tryz.zeroValue33
 t46:=Tryz.underlying136
 a46:=Tryz.isAgg136
 z46:=Tryz.sizeOf136
 v46:=Tryz.zeroValue136
 t51:=Tryz.underlying184
 a51:=Tryz.isAgg184
 z51:=Tryz.sizeOf184
 v51:=Tryz.zeroValue184
 t53:=Tryz.underlying186
 a53:=Tryz.isAgg186
 z53:=Tryz.sizeOf186
 v53:=Tryz.zeroValue186
 t131:=Tryz.underlying86
 a131:=Tryz.isAgg86
 z131:=Tryz.sizeOf86
 v131:=Tryz.zeroValue86
 t182:=Tryz.underlying177
 a182:=Tryz.isAgg177
 z182:=Tryz.sizeOf177
 v182:=Tryz.zeroValue177
 t183:=Tryz.underlying178
 a183:=Tryz.isAgg178
 z183:=Tryz.sizeOf178
 v183:=Tryz.zeroValue178
 t218:=Tryz.underlying228
 a218:=Tryz.isAgg228
 z218:=Tryz.sizeOf228
 v218:=Tryz.zeroValue228
 t222:=Tryz.underlying202
 a222:=Tryz.isAgg202
 z222:=Tryz.sizeOf202
 v222:=Tryz.zeroValue202
 t228:=Tryz.underlying258
 a228:=Tryz.isAgg258
 z228:=Tryz.sizeOf258
 v228:=Tryz.zeroValue258
 t229:=Tryz.underlying219
 a229:=Tryz.isAgg219
 z229:=Tryz.sizeOf219
 v229:=Tryz.zeroValue219}
open Go.Sort Go.RowKit in
theorem Tryz.slices_Sort_int (blk off cap:Nat) (zs:List Int) (w:World) (hH:Holds (Value.int .i64) w blk off zs.toArray) (hblk:blk<w.heap.size) (hsz:zs.length<4611686018427387904):
 Calls Tryz.prog 54 #[.slice (some ⟨blk,off,none⟩) zs.length cap] w λe w'=>
  e=.returned (.tuple #[])/\∃n os,w'=grow (putRow (Value.int .i64) (Sort.ahead w n) blk off (zs.mergeSort λx y=>decide (x<=y)).toArray) os:=Any.slices_Sort_int Tryz.NG blk off cap zs w hH hblk hsz
def Tryz.yR:Go.Shelf.Ren:=⟨λ| 105=>176 | 212=>200 | 99=>162 | 165=>201 | 166=>175 | 170=>184 | 169=>147 | 263=>216 | 264=>217 | 206=>189 | 240=>199 | 241=>218 | 276=>215 | 277=>233 | n=>n,λ| 9=>9 | 3=>3 | 4=>4 | 20=>20 | 0=>0 | 46=>136 | 109=>268 | 5=>5 | 72=>216 | 76=>247 | 51=>184 | 146=>283 | 53=>186 | 148=>285 | 70=>213 | 37=>214 | 75=>246 | 127=>256 | 164=>281 | 80=>225 | n=>n,λ| n=>n⟩
theorem Tryz.XM:Go.Proofs.Lays.n105 Tryz.prog Tryz.yR:={
 mixed:=by kernel_rfl
 f99:=Tryz.func162.trans (bm some (by kernel_rfl))
 f105:=Tryz.func176.trans (bm some (by kernel_rfl))
 f165:=Tryz.func201.trans (bm some (by kernel_rfl))
 f166:=Tryz.func175.trans (bm some (by kernel_rfl))
 f169:=Tryz.func147.trans (bm some (by kernel_rfl))
 f170:=Tryz.func184.trans (bm some (by kernel_rfl))
 f206:=Tryz.func189.trans (bm some (by kernel_rfl))
 f212:=Tryz.func200.trans (bm some (by kernel_rfl))
 f240:=Tryz.func199.trans (bm some (by kernel_rfl))
 f241:=Tryz.func218.trans (bm some (by kernel_rfl))
 f263:=Tryz.func216.trans (bm some (by kernel_rfl))
 f264:=Tryz.func217.trans (bm some (by kernel_rfl))
 f276:=Tryz.func215.trans (bm some (by kernel_rfl))
 f277:=Tryz.func233.trans (bm some (by kernel_rfl))
 t0:=Tryz.underlying0
 a0:=Tryz.isAgg0
 z0:=Tryz.sizeOf0
 v0:=Tryz.zeroValue0
 t3:=Tryz.underlying3
 a3:=Tryz.isAgg3
 z3:=Tryz.sizeOf3
 v3:=Tryz.zeroValue3
 t4:=Tryz.underlying4
 a4:=Tryz.isAgg4
 z4:=Tryz.sizeOf4
 v4:=Tryz.zeroValue4
 t5:=Tryz.underlying5
 a5:=Tryz.isAgg5
 z5:=Tryz.sizeOf5
 v5:=Tryz.zeroValue5
 t9:=Tryz.underlying9
 a9:=Tryz.isAgg9
 z9:=Tryz.sizeOf9
 v9:=Tryz.zeroValue9
 t20:=Tryz.underlying20
 a20:=Tryz.isAgg20
 z20:=Tryz.sizeOf20
 v20:=Tryz.zeroValue20
 t37:=Tryz.underlying214
 a37:=Tryz.isAgg214
 z37:=Tryz.sizeOf214
 v37:=Tryz.zeroValue214
 t46:=Tryz.underlying136
 a46:=Tryz.isAgg136
 z46:=Tryz.sizeOf136
 v46:=Tryz.zeroValue136
 t51:=Tryz.underlying184
 a51:=Tryz.isAgg184
 z51:=Tryz.sizeOf184
 v51:=Tryz.zeroValue184
 t53:=Tryz.underlying186
 a53:=Tryz.isAgg186
 z53:=Tryz.sizeOf186
 v53:=Tryz.zeroValue186
 t70:=Tryz.underlying213
 a70:=Tryz.isAgg213
 z70:=Tryz.sizeOf213
 v70:=Tryz.zeroValue213
 t72:=Tryz.underlying216
 a72:=Tryz.isAgg216
 z72:=Tryz.sizeOf216
 v72:=Tryz.zeroValue216
 t75:=Tryz.underlying246
 a75:=Tryz.isAgg246
 z75:=Tryz.sizeOf246
 v75:=Tryz.zeroValue246
 t76:=Tryz.underlying247
 a76:=Tryz.isAgg247
 z76:=Tryz.sizeOf247
 v76:=Tryz.zeroValue247
 t109:=Tryz.underlying268
 a109:=Tryz.isAgg268
 z109:=Tryz.sizeOf268
 v109:=Tryz.zeroValue268
 t127:=Tryz.underlying256
 a127:=Tryz.isAgg256
 z127:=Tryz.sizeOf256
 v127:=Tryz.zeroValue256
 t146:=Tryz.underlying283
 a146:=Tryz.isAgg283
 z146:=Tryz.sizeOf283
 v146:=Tryz.zeroValue283
 t148:=Tryz.underlying285
 a148:=Tryz.isAgg285
 z148:=Tryz.sizeOf285
 v148:=Tryz.zeroValue285
 t164:=Tryz.underlying281
 a164:=Tryz.isAgg281
 z164:=Tryz.sizeOf281
 v164:=Tryz.zeroValue281}
theorem Tryz.wW:Builder.Extra Tryz.prog Tryz.yR:={
 sizeBuilder:=by kernel_rfl
 liesBuilder:=by kernel_rfl
 t5:=Tryz.underlying5
 a5:=Tryz.isAgg5
 z5:=Tryz.sizeOf5
 v5:=Tryz.zeroValue5
 infoByte:=by kernel_rfl
 cellsByte:=by kernel_rfl
 sizeByte:=by kernel_rfl
 neB5:=aN}
open Go.RowKit Go.Lib in
theorem Tryz.strings_Repeat (s:ByteArray) (c:Nat) (w:World) (hc:c<=9223372036854775807) (fy:s.size*c<=140737488355328):
 Calls Tryz.prog 176 #[.string s,.int .i64 c] w λe w'=>e=.returned (.string ⟨(Lib.repeatL s.data.toList c).toArray⟩)/\Below w.heap.size w w':=Any.strings_Repeat Tryz.XM Tryz.wW s c w hc fy
def Tryz.CH:Go.Shelf.Ren:=⟨λ| 15=>33 | n=>n,λ| 22=>33 | 3=>3 | 4=>4 | n=>n,λ| n=>n⟩
theorem Tryz.ym:Go.Proofs.Lays2.n15 Tryz.prog Tryz.CH:={
 mixed:=by kernel_rfl
 f15:=Tryz.func33.trans (bm some (by kernel_rfl))
 t3:=Tryz.underlying3
 a3:=Tryz.isAgg3
 z3:=Tryz.sizeOf3
 v3:=Tryz.zeroValue3
 t4:=Tryz.underlying4
 a4:=Tryz.isAgg4
 z4:=Tryz.sizeOf4
 v4:=Tryz.zeroValue4
 t22:=Tryz.underlying33
 a22:=Tryz.isAgg33
 z22:=Tryz.sizeOf33
 v22:=Tryz.zeroValue33
 i3:=by kernel_rfl}
open Go.RowKit Go.Lib in
theorem Tryz.slices_Clone_int (b off n c:Nat) (zs:List Int) (w:World) (hz:n<=zs.length) (qR:n*8<=140737488355328) (hc:∀j,j<zs.length->w.cell? ⟨b,off+j,none⟩=some (.int .i64 (zs.getD j 0))):
 Calls Tryz.prog 33 #[.slice (some ⟨b,off,none⟩) n c] w λe w'=>∃v',e=.returned v'/\w'.ownsRow w.heap.size 3 1 v' n ((zs.take n).map (Value.int .i64))/\v'≠.slice none 0 0/\Below w.heap.size w w':=Any.slices_Clone_int Tryz.ym b off n c zs w hz qR hc
open Go.RowKit Go.Lib in
theorem Tryz.slices_Clone_int_nil (n c:Nat) (w:World):
 Calls Tryz.prog 33 #[.slice none n c] w λe w'=>e=.returned (.slice none 0 0)/\w'=w:=Any.slices_Clone_int_nil Tryz.ym n c w
open Go.RowKit Go.Lib in
theorem Tryz.slices_Clone_int_zero (a:Addr) (c:Nat) (w:World):
 Calls Tryz.prog 33 #[.slice (some a) 0 c] w λe w'=>∃v',e=.returned v'/\w'.ownsRow w.heap.size 3 1 v' 0 []/\v'≠.slice none 0 0/\Below w.heap.size w w':=Any.slices_Clone_int_zero Tryz.ym a c w
def Tryz.CI:Go.Shelf.Ren:=⟨λ| 20=>55 | n=>n,λ| 22=>33 | 3=>3 | 4=>4 | 0=>0 | n=>n,λ| n=>n⟩
theorem Tryz.DU:Go.Proofs.Lays2.n20 Tryz.prog Tryz.CI:={
 mixed:=by kernel_rfl
 f20:=Tryz.func55.trans (bm some (by kernel_rfl))
 t0:=Tryz.underlying0
 a0:=Tryz.isAgg0
 z0:=Tryz.sizeOf0
 v0:=Tryz.zeroValue0
 t3:=Tryz.underlying3
 a3:=Tryz.isAgg3
 z3:=Tryz.sizeOf3
 v3:=Tryz.zeroValue3
 t4:=Tryz.underlying4
 a4:=Tryz.isAgg4
 z4:=Tryz.sizeOf4
 v4:=Tryz.zeroValue4
 t22:=Tryz.underlying33
 a22:=Tryz.isAgg33
 z22:=Tryz.sizeOf33
 v22:=Tryz.zeroValue33
 i3:=by kernel_rfl}
open Go.RowKit Go.Lib Go.Sort in
theorem Tryz.slices_Compact_int (blk off cap:Nat) (zs:List Int) (w:World) (hH:Holds (Value.int .i64) w blk off zs.toArray) (hsz:zs.length<=9223372036854775807) (lI:zs.length<=cap):
 Calls Tryz.prog 55 #[.slice (some ⟨blk,off,none⟩) zs.length cap] w λe w'=>e=.returned (.slice (some ⟨blk,off,none⟩) (Lib.compact zs).length cap)/\∃q,w'=putRow (Value.int .i64) (Sort.ahead w q) blk off (Lib.compact zs++List.replicate (zs.length-(Lib.compact zs).length) 0).toArray:=Any.slices_Compact_int Tryz.DU blk off cap zs w hH hsz lI
open Go.RowKit Go.Lib Go.Sort in
theorem Tryz.slices_Compact_int_empty (a:Option Addr) (cap:Nat) (w:World):
 Calls Tryz.prog 55 #[.slice a 0 cap] w λe w'=>e=.returned (.slice a 0 cap)/\w'=w:=Any.slices_Compact_int_empty Tryz.DU a cap w
def Tryz.CJ:Go.Shelf.Ren:=⟨λ| 25=>29 | 31=>70 | 32=>71 | 37=>81 | n=>n,λ| 22=>33 | 3=>3 | 4=>4 | 40=>136 | 0=>0 | n=>n,λ| n=>n⟩
theorem Tryz.Ps:Go.Proofs.Lays2.n25 Tryz.prog Tryz.CJ:={
 mixed:=by kernel_rfl
 f25:=Tryz.func29.trans (bm some (by kernel_rfl))
 f31:=Tryz.func70.trans (bm some (by kernel_rfl))
 f32:=Tryz.func71.trans (bm some (by kernel_rfl))
 f37:=Tryz.func81.trans (bm some (by kernel_rfl))
 t0:=Tryz.underlying0
 a0:=Tryz.isAgg0
 z0:=Tryz.sizeOf0
 v0:=Tryz.zeroValue0
 t3:=Tryz.underlying3
 a3:=Tryz.isAgg3
 z3:=Tryz.sizeOf3
 v3:=Tryz.zeroValue3
 t4:=Tryz.underlying4
 a4:=Tryz.isAgg4
 z4:=Tryz.sizeOf4
 v4:=Tryz.zeroValue4
 t22:=Tryz.underlying33
 a22:=Tryz.isAgg33
 z22:=Tryz.sizeOf33
 v22:=Tryz.zeroValue33
 t40:=Tryz.underlying136
 a40:=Tryz.isAgg136
 z40:=Tryz.sizeOf136
 v40:=Tryz.zeroValue136}
open Go.RowKit Go.Lib in
theorem Tryz.slices_BinarySearch_int (b off n c:Nat) (zs:List Int) (x:Int) (w:World) (hz:n<=zs.length) (qR:n<4611686018427387904) (hc:∀j,j<zs.length->w.cell? ⟨b,off+j,none⟩=some (.int .i64 (zs.getD j 0))) (hs:(zs.take n).Pairwise (· <=·)):
 Calls Tryz.prog 29 #[.slice (some ⟨b,off,none⟩) n c,.int .i64 x] w λe w'=>e=.returned (.tuple #[.int .i64 ((zs.take n).countP (· <x):Nat),.bool ((zs.take n).contains x)])/\∃q,w'=w.drewN q:=Any.slices_BinarySearch_int Tryz.Ps b off n c zs x w hz qR hc hs
open Go.RowKit Go.Sort in
theorem Tryz.slices_Sort_int_none (p:Option Addr) (cap:Nat) (w:World):
 Calls Tryz.prog 54 #[.slice p 0 cap] w λe w'=>e=.returned (.tuple #[])/\w'=w:=Any.slices_Sort_int_none Tryz.NG p cap w
end Go.Proofs
namespace Go.Proofs.YtpbgcbdclnfpnaaGreatDoor.Con
open Go Go.RowKit Go.Kt Go.Kt.V Go.Proofs.YtpbgcbdclnfpnaaGreatDoor.Vc
theorem ret{P:Program}{f:FuncId}{a:Array az}{w:ay}{r:az}{Q:ay->Prop}(h:aB P f a w λe w'=>∃v,e=aq v/\v=r/\Q w'):aB P f a w λe w'=>e=aq r/\Q w':=
 h.mono (by rintro e w' ⟨v,rfl,rfl,hq⟩;exact⟨rfl,hq⟩)
theorem Blk.eh{w:ay}{b:Nat}{t:TypeId}{cs:aK}(h:aH w b t cs)(j:Nat){v:az}(hv:cs[j]? =some v):aE w ((⟨b,0,none⟩:Addr).add j) [v]:=by
 rw[fP,bO];exact h.cells j [v] λk u hk=>by
  cases k with
  | zero=>simp only[cR,be]at hk;subst hk;exact hv
  | succ k=>simp at hk
def rA(c:UInt8):Bool:=(65<=c.toNat&&c.toNat<=90)||(97<=c.toNat&&c.toNat<=122)||c.toNat==95
def fC(c:UInt8):Bool:=48<=c.toNat&&c.toNat<=57
def iQ(c:UInt8):Bool:=rA c||fC c
def EK(c:UInt8):Bool:=[9,10,13,32].contains c
theorem JO:∀n:Fin 256,(((decide (97<=(bits .or .u8 (n.val:Int) 32)))&&(decide ((bits .or .u8 (n.val:Int) 32)<=122)))||((n.val:Int)==95))=((65<=n.val&&n.val<=90)||(97<=n.val&&n.val<=122)||n.val==95):=by decide+kernel
theorem A1(w:ay)(c:UInt8):aB au 165 #[.int .u8 (c.toNat:Int)] w λe w'=>e=aq (ao (rA c))/\aA [] w w':=by
 refine ret (agi _ _ _ ?_);exact⟨by rw[JO ⟨c.toNat,c.toNat_lt⟩];rfl,Only.refl _ _⟩
theorem LS(w:ay)(c:UInt8):aB au 167 #[.int .u8 (c.toNat:Int)] w λe w'=>e=aq (ao (fC c))/\aA [] w w':=by
 refine ret (agl _ _ _ ?_);refine⟨?_,Only.refl _ _⟩;congr 1;rw[bW];simp only[fC,aR,bL];omega
theorem RV(w:ay)(c:UInt8):aB au 212 #[.int .u8 (c.toNat:Int)] w λe w'=>e=aq (ao (fC c))/\aA [] w w':=by
 refine ret (v2w _ _ _ ?_);refine⟨?_,Only.refl _ _⟩;have h:∀n:Fin 256,decide ((av .u8 ((n.val:Int)-48))<10)=(decide (48<=n.val)&&decide (n.val<=57)):=by decide+kernel
 rw[h ⟨c.toNat,c.toNat_lt⟩];rfl
theorem RW{w:ay}{F:aL}{s:Sl}{l:aJ}(h:aD jF 1 w F s l)(c:UInt8):
  aB au 209 #[Sl.v s,.int .u8 (c.toNat:Int)] w λe w'=>∃i:Int,e=aq (O ae i)/\decide (i>=0)=l.contains c/\aA [] w w':=by
 refine(agc s _ (λv w'=>∃i:Int,v=O ae i/\decide (i>=0)=l.contains c/\aA [] w w') w ?_).mono (by
  rintro e w' ⟨v,rfl,i,rfl,h⟩;exact⟨i,rfl,h⟩)
 have fy:=h.len;have qR:=h.big;have lI:=h.cap;refine⟨λnv i w'=>∃n:Nat,n<=l.length/\i=(n:Int)/\nv=l.length-n/\(∀x,x∈l.take n->x≠c)/\w'=w,l.length,⟨0,bh _,rfl,rfl,aac,rfl⟩,?_⟩;rintro nv _ _ ⟨n,hn,rfl,rfl,hp,rfl⟩;refine⟨λhc=>?_,λhc=>?_⟩
 ·have bT:(n:Int)<s.n:=aP hc;obtain⟨ad,x,cs,g1,g2,g3,g4,g5,g6⟩:=h.get (bD n) bT;rw[aU]at g2;unfold jF gw at g6;subst g6;refine⟨ad,g1,_,g5,λhe=>⟨_,rfl,?_,Only.refl _ _⟩,λhe=>⟨l.length-(n+1),aG,n+1,aG,aad,rfl,?_,rfl⟩⟩
  ·have he:c=x:=Vf.1 (by have:=aP he;omega);rw[bJ aG];symm;rw[pY,he];exact bB g2
  intro y hy;rw[bE,g2]at hy;simp only[oc,bN,aO]at hy;rcases hy with hy | rfl
  ·exact hp y hy
  rintro rfl;simp at he
 have lz:¬((n:Int)<s.n):=aX hc;rw[bq aG]at hp;refine⟨_,rfl,?_,Only.refl _ _⟩;rw[bI aG];symm;rw[eu];intro hh;exact hp c (pY.1 hh) rfl
theorem Hh{w:ay}{F:aL}{s:Sl}{l:aJ}(h:aD jF 1 w F s l)(c:UInt8):
  aB au 188 #[Sl.v s,.int .u8 (c.toNat:Int)] w λe w'=>e=aq (ao (l.contains c))/\aA [] w w':=by
 refine ret (agb _ _ _ _ ?_);refine(RW h c).mono ?_;rintro _ w1 ⟨i,rfl,hi,hO⟩;exact⟨i,rfl,by rw[hi],hO⟩
theorem Hi{w:ay}{F:aL}{s:Sl}{l:aJ}(h:aD jF 1 w F s l)(c:UInt8):
  aB au 161 #[.int .u8 (c.toNat:Int),Sl.v s] w λe w'=>e=aq (ao (l.contains c))/\aA [] w w':=by
 refine ret (aga _ _ _ _ ?_);refine(Hh h c).mono ?_;rintro _ w1 ⟨rfl,hO⟩;exact⟨_,rfl,rfl,hO⟩
def lD:Rp (aJ):=λ_ _ l cs=>cs=[ah (T l)]
theorem dJ:lD.Ok where
 keep h _:=h
 inHeap h:=h
 mono h _:=h
 one:=by
  rintro w F x cs h v hv;unfold lD at h;subst h;simp only[aO]at hv;subst hv;rfl
theorem RY{w:ay}{F:aL}{s:Sl}{l:List (aJ)}(h:aD lD 1 w F s l)(c:aJ):
  aB au 170 #[Sl.v s,ah (T c)] w λe w'=>∃i:Int,e=aq (O ae i)/\decide (i>=0)=l.contains c/\aA [] w w':=by
 refine(Y3 s _ (λv w'=>∃i:Int,v=O ae i/\decide (i>=0)=l.contains c/\aA [] w w') w ?_).mono (by
  rintro e w' ⟨v,rfl,i,rfl,h⟩;exact⟨i,rfl,h⟩)
 have fy:=h.len;have qR:=h.big;have lI:=h.cap;refine⟨λnv i w'=>∃n:Nat,n<=l.length/\i=(n:Int)/\nv=l.length-n/\(∀x,x∈l.take n->x≠c)/\w'=w,l.length,⟨0,bh _,rfl,rfl,aac,rfl⟩,?_⟩;rintro nv _ _ ⟨n,hn,rfl,rfl,hp,rfl⟩;refine⟨λhc=>?_,λhc=>?_⟩
 ·have bT:(n:Int)<s.n:=aP hc;obtain⟨ad,x,cs,g1,g2,g3,g4,g5,g6⟩:=h.get (bD n) bT;rw[aU]at g2;unfold lD at g6;subst g6;refine⟨ad,g1,_,g5,?_⟩;dsimp only;rw[mM];refine⟨λhe=>⟨_,rfl,?_,Only.refl _ _⟩,λhe=>⟨l.length-(n+1),aG,n+1,aG,aad,rfl,?_,rfl⟩⟩
  ·have he:c=x:=aP he;rw[bJ aG];symm;rw[pY,he];exact bB g2
  intro y hy;rw[bE,g2]at hy;simp only[oc,bN,aO]at hy;rcases hy with hy | rfl
  ·exact hp y hy
  rintro rfl;simp at he
 have lz:¬((n:Int)<s.n):=aX hc;rw[bq aG]at hp;refine⟨_,rfl,?_,Only.refl _ _⟩;rw[bI aG];symm;rw[eu];intro hh;exact hp c (pY.1 hh) rfl
theorem tv{w:ay}{F:aL}{s:Sl}{l:List (aJ)}(h:aD lD 1 w F s l)(c:aJ):
  aB au 192 #[Sl.v s,ah (T c)] w λe w'=>e=aq (ao (l.contains c))/\aA [] w w':=by
 refine ret (agm _ _ _ _ ?_);refine(RY h c).mono ?_;rintro _ w1 ⟨i,rfl,hi,hO⟩;exact⟨i,rfl,by rw[hi],hO⟩
abbrev Wt(w:ay)(b:Nat)(t:TypeId)(l:aJ)(i:Nat)(r:aK):Prop:=aH w b t (ah (T l)::O ae (i:Int)::r)
theorem Y9{w:ay}{b:Nat}{t:TypeId}{l:aJ}{i:Nat}{r:aK}(h:Wt w b t l i r):
  aB au 125 #[ai (some ⟨b,0,none⟩)] w λe w'=>e=aq (ao (decide (l.length<=i)))/\aA [] w w':=by
 refine ret (af9 _ _ _ ?_);refine⟨i,Blk.eh h 1 rfl,T l,Blk.eh h 0 rfl,λw0 hO=>⟨?_,hO⟩⟩;rw[dP];congr 1;rw[ga];omega
theorem A2{w:ay}{b:Nat}{t:TypeId}{l:aJ}{i:Nat}{r:aK}(h:Wt w b t l i r)(hi:i<=l.length):
  aB au 163 #[ai (some ⟨b,0,none⟩)] w λe w'=>e=aq (ah (T (l.drop i)))/\aA [] w w':=by
 refine ret (agd _ _ _ ?_);refine⟨T l,Blk.eh h 0 rfl,i,Blk.eh h 1 rfl,i,⟨rfl,by rw[dP];exact hi⟩,λw0 hO=>⟨?_,hO⟩⟩;rw[Au,dP,bq (by rw[cP];exact ba _)]
theorem vt{p:UInt8->Bool}:∀{l:aJ} {n:Nat},n<=l.length->(∀x,x∈l.take n->p x=true)->(∀x,l[n]? =some x->p x=false)->l.takeWhile p=l.take n
 | [],n,_,_,_=>aac
 | c::r,0,_,_,h=>by
  have:=h c rfl;simp[this]
 | c::r,n+1,hn,h1,h2=>by
  have hc:=h1 c aac;rw[eV,bc hc,eF,vt (n:=n) acH (λx hx=>h1 x aev) (λx hx=>h2 x aa3)]
theorem RZ{w:ay}{b:Nat}{t:TypeId}{l:aJ}{i:Nat}{r:aK}(h:Wt w b t l i r)(hi:i<=l.length)(hl:l.length<9223372036854775807):
  aB au 191 #[ai (some ⟨b,0,none⟩)] w λe w'=>e=aq (ah (T ((l.drop i).takeWhile iQ)))/\aA [] w w':=by
 refine ret (agk _ _ _ ?_);refine(A2 h hi).mono ?_;rintro _ w0 ⟨rfl,cO⟩;have hlr:(l.drop i).length<=l.length:=by rw[cP];omega
 generalize l.drop i=m at*
 refine⟨T m,rfl,λnv j w'=>∃n:Nat,n<=m.length/\j=(n:Int)/\nv=m.length-n/\(∀x,x∈m.take n->iQ x=true)/\aA [] w w',m.length,⟨0,bh _,rfl,rfl,aac,cO⟩,?_⟩;rintro nv _ w1 ⟨n,hn,rfl,rfl,hp,cG⟩;rw[dP];refine⟨λb w'=>(b=true->∃x,m[n]? =some x/\iQ x=true)/\(b=false->∀x,m[n]? =some x->iQ x=false)/\aA [] w w',?_,λhc=>?_,λhc=>⟨λe=>aeF,λ_ x hx=>?_,cG⟩⟩
 ·rintro b w2 ⟨h1,h2,dk⟩;refine⟨λhb=>?_,λhb=>⟨n,⟨rfl,hn⟩,?_,dk⟩⟩
  ·obtain⟨x,hx,hw⟩:=h1 hb;have bT:=(aZ.1 hx).1;refine⟨m.length-(n+1),aG,n+1,aG,aad,rfl,λy hy=>?_,dk⟩;rw[bE,hx]at hy;simp only[oc,bN,aO]at hy;rcases hy with hy | rfl
   ·exact hp y hy
   exact hw
  rw[Au,fx,kD,vt hn hp (h2 hb)]
 ·have bT:(n:Int)<m.length:=aP hc;have hx:m[n]? =some (m[n]' aG):=aQ aG;generalize m[n]' aG=x at hx;have hg:(T m)[Int.toNat (n:Int)]? =some x:=by rw[yF,aU,hx]
  refine⟨x,⟨bD n,hg⟩,(A1 w1 x).mono ?_⟩;rintro _ w3 ⟨rfl,dz⟩;refine⟨_,rfl,λhb=>⟨λ_=>⟨x,hx,by unfold iQ;rw[hb];rfl⟩,λe=>aeF,cG.cr dz⟩,λhb=>⟨x,⟨bD n,hg⟩,(LS w3 x).mono ?_⟩⟩;rintro _ w4 ⟨rfl,dK⟩;refine⟨_,rfl,λhd=>⟨x,hx,by unfold iQ;rw[hd,K6]⟩,λhd y hy=>?_,cG.cr (dz.cr dK)⟩;rw[hx]at hy;injection hy with hy;subst hy;unfold iQ;rw[hb,hd];rfl
 have lz:¬(n:Int)<m.length:=aX hc;have:=(aZ.1 hx).1;omega
theorem Hj(w:ay)(l p:aJ)(hl:l.length<9223372036854775807)(hp:p.length<9223372036854775807):aB au 162 #[ah (T l),ah (T p)] w λe w'=>e=aq (ao (decide (l.take p.length=p)))/\aA [] w w':=by
 refine ret (age _ _ _ _ ?_);refine(ret (amp (T l) (T p) (λv w'=>v=ao (decide (l.take p.length=p))/\aA [] w w') w ?_)).mono ?_
 ·rw[dP,dP];refine⟨p.length,λh=>⟨rfl,by have:=aP h;omega⟩,?_,Only.refl _ _⟩;rw[Au,mM,fx,kD];congr 1;rw[bW];simp only[aR,bL];constructor
  ·exact λh=>h.2
  intro h;refine⟨?_,h⟩;have:=bm List.length h;rw[cJ]at this;omega
 rintro _ w1 ⟨rfl,hO⟩;exact⟨_,rfl,rfl,hO⟩
theorem rR:∀(l:aJ) (c:UInt8),Lib.indexByte l c=if c∈l then((l.takeWhile (· !=c)).length:Int)else -1
 | [],c=>by simp[Lib.indexByte]
 | b::l,c=>by
  rw[Lib.indexByte,rR l c];by_cases hbc:b=c
  ·subst hbc;simp
  ·by_cases hm:c∈l
   ·have h1:(b==c)=false:=by simpa using hbc
    have h2:(b !=c)=true:=by simpa using hbc
    have h3:c∈b::l:=by simp[hm]
    rw[h1,bc hm,bc h3,eV,bc h2];simp
   ·have h1:(b==c)=false:=by simpa using hbc
    have h3:¬c∈b::l:=by simp[hm];exact λe=>hbc e.symm
    rw[h1,aY hm,aY h3];simp
theorem A3{c:UInt8}:∀{l:aJ},¬c∈l->l.takeWhile (· !=c)=l
 | [],_=>rfl
 | b::l,h=>by
  simp only[aV,not_or]at h;rw[eV,bc (by simpa using λe=>h.1 e.symm),A3 h.2]
theorem rB{p:UInt8->Bool}:∀{l:aJ},l.takeWhile p=l.take (l.takeWhile p).length
 | []=>rfl
 | b::l=>by
  rw[eV];split
  ·rw[bn,eF,<-rB]
  rfl
theorem ahj(w:ay)(l:aJ)(c:UInt8)(hl:l.length<9223372036854775807):aB au 164 #[ah (T l),ah (T [c])] w λe w'=>∃(s:aM) (b:Bool),e=aq (ak #[ah (T (l.takeWhile (· !=c))),ah s,ao b])/\aA [] w w':=by
 refine(agf _ _ (λv w'=>∃(s:aM) (b:Bool),v=(ak #[ah (T (l.takeWhile (· !=c))),ah s,ao b])/\aA [] w w') w ?_).mono (by
  rintro e w' ⟨v,rfl,s,b,rfl,h⟩;exact⟨s,b,rfl,h⟩)
 refine(amq (T l) (T [c]) (λv w'=>∃(s:aM) (b:Bool),v=(ak #[ah (T (l.takeWhile (· !=c))),ah s,ao b])/\aA [] w w') w ?_).mono ?_
 ·refine(Tryz.stringslite_Index_one (T l) c w).mono ?_;rintro _ _ ⟨rfl,rfl⟩;have e:(T l).data.toList=l:=rfl;rw[e,rR];refine⟨_,rfl,λh=>?_,λh=>?_⟩
  ·by_cases hm:c∈l
   ·rw[bc hm];have bT:(l.takeWhile (· !=c)).length<l.length:=by
     have h1:=List.takeWhile_append_dropWhile (p:=(· !=c)) (l:=l);have h2:=bm List.length h1;rw[aW]at h2;have h3:l.dropWhile (· !=c)≠[]:=by
      intro h3;rw[h3,bQ]at h1;rw[<-h1]at hm;have:=List.all_takeWhile (p:=(· !=c)) (l:=l);rw[dF]at this;have:=this c (by rw[h1]at hm⊢;exact hm);simp at this
     have h4:=gz.2 h3;omega
    have hk:(T l).extract 0 (l.takeWhile (· !=c)).length=T (l.takeWhile (· !=c)):=by
     rw[Au,fx,kD,<-rB]
    refine⟨(l.takeWhile (· !=c)).length,⟨rfl,abQ⟩,(l.takeWhile (· !=c)).length+1,⟨by rw[dP,gx aae aae];rfl,abQ⟩,λw1 hO=>⟨(T l).extract ((l.takeWhile (· !=c)).length+1) (T l).size,true,?_,hO⟩⟩;rw[hk]
   ·rw[aY hm]at h;exact absurd (aP h) aG
  ·by_cases hm:c∈l
   ·rw[bc hm]at h;exact absurd (aX h) aG
   ·rw[A3 hm];exact⟨_,_,rfl,Only.refl _ _⟩
 ·rintro _ w1 ⟨v,rfl,s,b,rfl,hO⟩;exact⟨_,s,b,rfl,s,b,rfl,hO⟩
theorem xM(w:ay)(l:aJ){n:Nat}{parts:Array (Nat×az)}(hp:parts=(((l.map gw).zipIdx 0).map λx=>(x.2,x.1)).toArray)(hn:l.length=n)(h0:0<n)(CK:n*1<=16777216):
  ∃s w',(aw 214 n parts).run au w=.ok (Sl.v s) w'/\Own jF 1 5 w.heap.size w' (λ_=>True) s l/\aA [] w w'/\s.a=some ⟨w.heap.size,0,none⟩:=by
 obtain⟨s,w',h1,h2,h3,h4,_⟩:=jv (P:=au) (t:=214) (e:=5) (i:=Tryz.t5) (w:=w) (F:=λ_=>True) (r:=jF) (size:=1) (vs:=l.map gw) (xs:=l) (len:=n) (by kernel_rfl) (by kernel_rfl) rfl rfl aN hp (by rw[bA];exact hn) h0 CK vU (by
  clear hp hn
  induction l with
  | nil=>exact trivial
  | cons a l ih=>exact⟨⟨rfl,rfl⟩,ih⟩)
 exact⟨s,w',h1,h2,h3,h4⟩
theorem Wu(l:List (aJ))(w:ay):lV lD 1 w (λ_=>True) l ((l.map λx=>Value.string (T x)).map λv=>v.cells.toList):=by
 induction l with
 | nil=>exact trivial
 | cons a l ih=>exact⟨⟨rfl,rfl⟩,ih⟩
theorem oy(w:ay)(l:List (aJ)){n:Nat}{parts:Array (Nat×az)}(hp:parts=(((l.map λx=>Value.string (T x)).zipIdx 0).map λx=>(x.2,x.1)).toArray)(hn:l.length=n)(h0:0<n)(CK:n*1<=16777216):
  ∃s w',(aw 132 n parts).run au w=.ok (Sl.v s) w'/\Own lD 1 9 w.heap.size w' (λ_=>True) s l/\aA [] w w':=by
 obtain⟨s,w',h1,h2,h3,_⟩:=jv (P:=au) (t:=132) (e:=9) (i:=Tryz.t9) (w:=w) (F:=λ_=>True) (r:=lD) (size:=1) (vs:=l.map λx=>Value.string (T x)) (xs:=l) (len:=n) (by kernel_rfl) (by kernel_rfl) rfl rfl aN hp (by rw[bA];exact hn) h0 CK dJ (Wu l w);exact⟨s,w',h1,h2,h3⟩
theorem R0{α:Type}{r:Rp α}{size:Nat}{e:TypeId}{B:Nat}{w:ay}{F:aL}{s:Sl}{xs:List α}(hr:r.Ok)(hf:∀w F G x cs,r w F x cs->r w G x cs)(h:Own r size e B w F s xs):aD r size w (λk=>B<=k/\s.a=some ⟨k,0,none⟩) s xs:=by
 rcases h with⟨rfl,rfl⟩ | ⟨g,css,tail,a1,a2,a4,a5,a6,a7,a9,a8⟩
 ·exact SliceF.nil _ _ _ _
 have h':Own r size e B w (λ_=>False) s xs:=.inr ⟨g,css,tail,a1,a2,a4,a5,a6,a7,a9,gA.imp (λ_ _ h=>⟨h.1,hf _ _ _ _ _ h.2⟩) a8⟩;exact(h'.slice hr).mono hr λk hk=>hk.elim False.elim id
theorem C7{e:TypeId}{B:Nat}{w:ay}{F:aL}{s:Sl}{xs:aJ}(h:Own jF 1 e B w F s xs):aD jF 1 w (λk=>B<=k/\s.a=some ⟨k,0,none⟩) s xs:=R0 vU (λ_ _ _ _ _ h=>h) h
theorem wj{e:TypeId}{B:Nat}{w:ay}{F:aL}{s:Sl}{xs:List (aJ)}(h:Own lD 1 e B w F s xs):aD lD 1 w (λk=>B<=k/\s.a=some ⟨k,0,none⟩) s xs:=R0 dJ (λ_ _ _ _ _ h=>h) h
def nI:Bool->aJ->Nat
 | _,[]=>0
 | true,c::r=>1+nI (c !=10) r
 | false,c::r=>if EK c then 1+nI false r else if c==47&&r.head? ==some 47 then 1+nI true r else 0
theorem EM:∀{b:Bool} {l:aJ},nI b l<=l.length
 | b,[]=>by simp[nI]
 | true,c::r=>by
  rw[nI,bn];have:=EM (b:=c !=10) (l:=r);omega
 | false,c::r=>by
  rw[nI,bn];have h1:=EM (b:=false) (l:=r);have h2:=EM (b:=true) (l:=r);split
  ·omega
  split<;>omega
theorem Hk:∀(l:aJ),nI true l=(l.takeWhile (· !=10)).length+nI false (l.drop (l.takeWhile (· !=10)).length)
 | []=>rfl
 | c::r=>by
  by_cases hc:c=10
  ·subst hc;rw[nI];simp[nI,EK]
  ·have h:(c !=10)=true:=aai
   rw[nI,h,Hk r,eV,bc h,bn,gy];omega
theorem Ow{l:aJ}(h:l.take 2=[47,47]):nI false l=(l.takeWhile (· !=10)).length+nI false (l.drop (l.takeWhile (· !=10)).length):=by
 match l,h with
 | a::b::r,h=>
  simp only[eF,de,sK,and_true]at h;obtain⟨rfl,rfl⟩:=h;have e:nI false (47::47::r)=1+nI true (47::r):=by
   conv=>lhs;rw[nI]
   rw[aY aN,bc aac]
  have e2:=Hk (47::r);have e3:(47::47::r:aJ).takeWhile (· !=10)=47::(47::r:aJ).takeWhile (· !=10):=by
   rw[eV,bc aN]
  rw[e,e2,e3,bn,gy];omega
theorem C8{l:aJ}{j:Nat}{x:UInt8}(h:l[j]? =some x):l.drop j=x::l.drop (j+1):=by
 obtain⟨h1,h2⟩:=aZ.1 h;rw[fM h1,h2]
theorem R1{w:ay}{b:Nat}{t:TypeId}{l:aJ}{i:Nat}{r:aK}(h:Wt w b t l i r)(hi:i<=l.length)(hl:l.length<9223372036854775807):
  aB au 124 #[ai (some ⟨b,0,none⟩)] w λe w'=>e=aq (ak #[])/\aA [b] w w'/\Wt w' b t l (i+nI false (l.drop i)) r:=by
 refine ret (af8 _ _ _ ?_);refine⟨λnv w'=>∃j:Nat,j<=l.length/\nv=l.length-j/\i+nI false (l.drop i)=j+nI false (l.drop j)/\aA [b] w w'/\Wt w' b t l j r,l.length-i,⟨i,hi,rfl,rfl,Only.refl _ _,h⟩,?_⟩;rintro nv w0 ⟨j,hj,rfl,hjs,cO,h0⟩;have kp:∀{u u':ay} {n:Nat},aA [] u u'->Wt u b t l n r->Wt u' b t l n r:=λhO hC=>(hO.block b hC.lt aac).trans hC;refine(Y9 h0).mono ?_;rintro _ w1 ⟨rfl,cG⟩;have h1:=kp cG h0;refine⟨_,rfl,λhc=>?_,λhc=>⟨rfl,cO.trans cG aac,?_⟩⟩
 ·have bT:j<l.length:=aai
  have hx:l[j]? =some l[j]:=aQ bT;generalize l[j]=x at hx;have hd:=C8 hx;refine⟨T l,Blk.eh h1 0 rfl,j,Blk.eh h1 1 rfl,x,⟨bD j,by rw[yF,aU,hx]⟩,λw2 dk=>?_⟩;obtain⟨s,w3,k1,k2,k3,_⟩:=xM w2 [9,10,13,32] (n:=4) (parts:=#[(0,.int .u8 9),(1,.int .u8 10),(2,.int .u8 13),(3,.int .u8 32)]) rfl rfl aN aN;refine⟨s,w3,k1,(Hi (C7 k2) x).mono ?_⟩;rintro _ w4 ⟨rfl,dK⟩;have ey:=dk.cr (k3.cr dK);have h4:=kp ey h1;have F0:aA [b] w w4:=cO.trans (cG.cr ey) aac;refine⟨_,rfl,λhb=>⟨j,Blk.eh h4 1 rfl,b,1,_,t,by rw[fP],h4,aac,λw5 eJ xb=>⟨l.length-(j+1),aG,j+1,aG,rfl,?_,F0.trans eJ aac,?_⟩⟩,λhb=>(A2 h4 hj).mono ?_⟩
  ·have e:EK x=true:=hb;rw[hjs,hd,nI,bc e];omega
  ·rw[gx aG aG]at xb;exact xb
  rintro _ w6 ⟨rfl,eH⟩;have h6:=kp eH h4;have hlr:(l.drop j).length<=l.length:=by rw[cP];omega
  refine⟨_,rfl,(Hj w6 (l.drop j) [47,47] aG aN).mono ?_⟩;rintro _ w7 ⟨rfl,fN⟩;have h7:=kp fN h6;refine⟨_,rfl,λhs=>(A2 h7 hj).mono ?_,λhs=>⟨rfl,F0.trans (eH.cr fN) aac,?_⟩⟩
  ·rintro _ w8 ⟨rfl,fX⟩;have h8:=kp fX h7;refine⟨_,rfl,(ahj w8 (l.drop j) 10 aG).mono ?_⟩;rintro _ w9 ⟨s9,b9,rfl,gH⟩;have h9:=kp gH h8;have xd:(l.drop j).take 2=[47,47]:=aP hs;have hk:=Ow xd;have fy:((l.drop j).takeWhile (· !=10)).length<=(l.drop j).length:=by
    rw[rB,cJ];exact Nat.min_le_right _ _
   have uI:0<((l.drop j).takeWhile (· !=10)).length:=by
    match hq:l.drop j,xd with
    | a::r',xd=>
     have:a=47:=by
      match r',xd with
      | b'::r'',xd=>simp at xd;exact xd.1
     subst this;simp
   have hld:(l.drop j).length=l.length-j:=cP;generalize hn:((l.drop j).takeWhile (· !=10)).length=n at*
   refine⟨_,s9,b9,rfl,j,Blk.eh h9 1 rfl,b,1,_,t,by rw[fP],h9,aac,λdL dW uJ=>⟨l.length-(j+n),aG,j+n,aG,rfl,?_,(F0.trans (eH.cr (fN.cr (fX.cr gH))) aac).trans dW aac,?_⟩⟩
   ·rw[hjs,hk,oV];omega
   ·rw[dP,hn,gx aG aG]at uJ;exact uJ
  ·have hs:¬(l.drop j).take 2=[47,47]:=aX hs;have hb:EK x=false:=hb;have hz:nI false (l.drop j)=0:=by
    rw[hd,nI,aY (by simp[hb]),aY];intro hh;apply hs;rw[hd];simp only[aR,dq]at hh;obtain⟨rfl,hh⟩:=hh;cases hr:l.drop (j+1)with
    | nil=>rw[hr]at hh;simp at hh
    | cons y z=>
     rw[hr]at hh;simp only[List.head?_cons,be]at hh;rw[hh];rfl
   rw[hjs,hz];exact h7
 ·have lz:l.length<=j:=aai
  have hz:l.drop j=[]:=oW lz;rw[hjs,hz];exact h1
def Er(w:ay):Prop:=∃tp p,w.var? au "strconv.ErrRange" =some #[.iface tp p]
theorem er_num:Tryz.prog.globalNamed "strconv.ErrRange" =some 3:=by kernel_rfl
theorem Er.keep{w w':ay}(h:Er w)(hk:3<w.heap.size->w'.heap[3]? =w.heap[3]?):Er w':=by
 obtain⟨tp,p,h⟩:=h;refine⟨tp,p,?_⟩;unfold World.var? at h⊢;rw[er_num]at h⊢;simp only[yy]at h⊢;rw[hk]
 ·exact h
 refine cy λhn=>?_;rw[fm aG]at h;cases h
theorem Er.lt{w:ay}(h:Er w):3<w.heap.size:=by
 obtain⟨tp,p,h⟩:=h;unfold World.var? at h;rw[er_num]at h;simp only[yy]at h;refine cy λhn=>?_;rw[fm aG]at h;cases h
theorem Er.only{w w':ay}(h:Er w)(hO:aA [] w w'):Er w':=h.keep λbT=>hO.block _ bT aac
def xN(a:Nat)(ds:aJ):Nat:=ds.foldl (λa c=>a*10+(c.toNat-48)) a
theorem LU:∀(ds:aJ) (a:Nat),a<=xN a ds
 | [],a=>ba _
 | c::r,a=>by
  have:=LU r (a*10+(c.toNat-48));show a<=xN (a*10+(c.toNat-48)) r;omega
theorem pum:∀(ds:aJ) (a:Nat),(∀c,c∈ds->fC c=true)->a<=18446744073709551615->
  Lib.parseUintM 18446744073709551615 a ds=if xN a ds<=18446744073709551615 then .ok (xN a ds)else .range
 | [],a,_,h=>by rw[Lib.parseUintM];exact(bc h).symm
 | c::r,a,hd,h=>by
  have hc:=hd c aac;simp only[fC,aR,bL]at hc;have e:xN a (c::r)=xN (a*10+(c.toNat-48)) r:=rfl;have lz:=LU r (a*10+(c.toNat-48));rw[Lib.parseUintM,bc hc,e];split
  ·rw[aY aG]
  split
  ·rw[aY aG]
  rw[pum r _ (λx hx=>hd x aev) aG]
theorem pib{ds:aJ}(hd:∀c,c∈ds->fC c=true)(gq:ds≠[]):Lib.parseIntB 64 ds=if xN 0 ds<9223372036854775808 then .ok (xN 0 ds:Int)else .range:=by
 match ds,gq with
 | c::r,_=>
  have hc:=hd c aac;simp only[fC,aR,bL]at hc;have h1:¬(c.toNat=43∨c.toNat=45):=aG
  have h2:¬c.toNat=45:=aG
  have h3:Lib.parseUintB 64 (c::r)=Lib.parseUintM 18446744073709551615 0 (c::r):=by
   rw[Lib.parseUintB,aY aac]
  unfold Lib.parseIntB;dsimp only;rw[aY h1,h3,pum _ _ hd aN];by_cases hv:xN 0 (c::r)<=18446744073709551615
  ·rw[bc hv];by_cases hw:xN 0 (c::r)<9223372036854775808
   ·rw[bc hw];simp[h2];omega
   rw[aY hw];simp[h2];omega
  rw[aY hv,aY aG]
def ij(l:aJ):Nat×Nat×Int:=
 if l=[]then(0,0,3)else if l.takeWhile fC=[]∨(1<(l.takeWhile fC).length/\l.head? =some 48)then(0,0,4)
 else if xN 0 (l.takeWhile fC)<9223372036854775808 then(xN 0 (l.takeWhile fC),(l.takeWhile fC).length,0)else(0,0,20)
theorem Ox{p:UInt8->Bool}{l:aJ}:∀c,c∈l.takeWhile p->p c=true:=by
 have:=List.all_takeWhile (p:=p) (l:=l);rwa[dF]at this
theorem R2{w:ay}{l:aJ}(hE:Er w)(hl:l.length<281474976710656):
  aB au 194 #[ah (T l)] w λe w'=>e=aq (ak #[O ae (ij l).1,O ae (ij l).2.1,O ae (ij l).2.2])/\aA [] w w':=by
 refine ret (v0w _ _ _ ?_);refine⟨λnv j w'=>∃n:Nat,n<=l.length/\j=(n:Int)/\nv=l.length-n/\(∀x,x∈l.take n->fC x=true)/\aA [] w w',l.length,⟨0,bh _,rfl,rfl,aac,Only.refl _ _⟩,?_⟩;rintro nv _ w0 ⟨n,hn,rfl,rfl,hp,cO⟩;rw[dP];refine⟨λb w'=>(b=true->∃x,l[n]? =some x/\fC x=true)/\(b=false->∀x,l[n]? =some x->fC x=false)/\aA [] w w',?_,λhc=>?_,λhc=>⟨λe=>aeF,λ_ x hx=>?_,cO⟩⟩
 ·rintro b w1 ⟨h1,h2,cG⟩;refine⟨λhb=>?_,λhb=>?_⟩
  ·obtain⟨x,hx,hw⟩:=h1 hb;have bT:=(aZ.1 hx).1;refine⟨l.length-(n+1),aG,n+1,aG,aad,rfl,λy hy=>?_,cG⟩;rw[bE,hx]at hy;simp only[oc,bN,aO]at hy;rcases hy with hy | rfl
   ·exact hp y hy
   exact hw
  have hds:=vt hn hp (h2 hb);have zm:(l.takeWhile fC).length=n:=by rw[hds,cJ];omega
  have e0:(ar #[])=T []:=rfl;rw[e0,mM];refine⟨λh0=>⟨?_,cG⟩,λh0=>?_⟩
  ·have h0:l=[]:=aP h0;rw[ij,bc h0];rfl
  have h0:¬l=[]:=aX h0;refine⟨λb w'=>b=decide (l.takeWhile fC=[]∨(1<(l.takeWhile fC).length/\l.head? =some 48))/\aA [] w w',?_,λhz=>?_,λhz=>?_⟩
  ·rintro b w2 ⟨rfl,dk⟩;refine⟨λhb=>⟨?_,dk⟩,λhb=>⟨n,⟨rfl,hn⟩,?_⟩⟩
   ·rw[ij,aY h0,bc (aP hb)];rfl
   have hb:=aX hb;have hx:(T l).extract 0 n=T (l.takeWhile fC):=by rw[Au,fx,kD,hds]
   rw[hx];have gq:l.takeWhile fC≠[]:=λe=>hb (.inl e);have hpi:=pib (Ox (p:=fC) (l:=l)) gq;have hsz:(T (l.takeWhile fC)).size<=281474976710656:=abQ
   by_cases hv:xN 0 (l.takeWhile fC)<9223372036854775808
   ·rw[bc hv]at hpi;refine(Tryz.strconv_ParseInt_10_at64_ok (T (l.takeWhile fC)) (bf hsz aN) _ hpi w2).mono ?_;rintro _ w3 ⟨rfl,hw⟩;have dz:aA [] w2 w3:=by
     rcases hw with rfl | ⟨s,rfl⟩
     ·exact Only.refl _ _
     exact Only.oH (Lib.bytesWorld_below _ _ _)
    refine⟨_,⟨.nilIface,rfl⟩,rfl,.inl rfl,λe=>aeF,λ_=>⟨?_,dk.cr dz⟩⟩;rw[ij,aY h0,aY hb,bc hv,zm]
   rw[aY hv]at hpi;obtain⟨tp,p,ac5⟩:=hE.only dk;refine(Tryz.strconv_ParseInt_10_at64_range_var (T (l.takeWhile fC)) hsz hpi tp p w2 ac5).mono ?_;rintro _ w3 ⟨N,rfl,_,_,hw⟩;refine⟨_,⟨.iface _ _,rfl⟩,rfl,.inr ⟨_,_,rfl⟩,λ_=>⟨?_,dk.cr (Only.oH hw)⟩,λe=>aeF⟩;rw[ij,aY h0,aY hb,aY hv];rfl
  ·have hz:n=0:=by simpa using hz
   subst hz;refine⟨?_,cG⟩;symm;rw[bJ (.inl (bR zm))];rfl
  have hz:n≠0:=by simpa using hz
  obtain⟨x,r,rfl⟩:∃x r,l=x::r:=by
   cases l with
   | nil=>exact absurd rfl h0
   | cons x r=>exact⟨x,r,rfl⟩
  refine⟨x,λ_=>⟨kq _,by rw[yF];rfl⟩,?_,cG⟩;have gq:(x::r).takeWhile fC≠[]:=λe=>by rw[e]at zm;exact hz zm.symm
  rw[zm,bW];simp only[aR,bL,dq,List.head?_cons,be];constructor
  ·rintro⟨h1,h2⟩;exact .inr ⟨aG,Vf.1 (by show x.toNat=48;omega)⟩
  rintro(h | ⟨h1,rfl⟩)
  ·exact absurd h gq
  exact⟨aG,rfl⟩
 ·have bT:(n:Int)<l.length:=aP hc;have hx:l[n]? =some (l[n]' aG):=aQ aG;generalize l[n]' aG=x at hx;refine⟨x,⟨bD n,by rw[yF,aU,hx]⟩,(RV w0 x).mono ?_⟩;rintro _ w3 ⟨rfl,dz⟩;refine⟨_,rfl,λhb=>⟨x,hx,hb⟩,λhd y hy=>?_,cO.cr dz⟩;rw[hx]at hy;injection hy with hy;subst hy;exact hd
 have lz:¬(n:Int)<l.length:=aX hc;have:=(aZ.1 hx).1;omega
structure Tk where
 k:Int
 t:aJ
 n:Int
 a:Int
deriving DecidableEq
def Tk.v(x:Tk):az:=aj #[O ae x.k,ah (T x.t),O ae x.n,O ae x.a]
def Oy:Rp Tk:=λ_ _ x cs=>cs=[O ae x.k,ah (T x.t),O ae x.n,O ae x.a]
theorem jR:Oy.Ok where
 keep h _:=h
 inHeap h:=h
 mono h _:=h
 one:=by
  rintro w F x cs h v hv;unfold Oy at h;subst h;simp only[aV,bp,cm]at hv;rcases hv with rfl | rfl | rfl | rfl<;>rfl
abbrev nf(B:Nat)(w:ay)(s:Sl)(xs:List Tk):Prop:=Own Oy 4 161 B w (λ_=>True) s xs
theorem nf.of{B:Nat}{w:ay}{F:aL}{s:Sl}{xs:List Tk}(h:Own Oy 4 161 B w F s xs):nf B w s xs:=h.mono jR λ_ _=>trivial
theorem nf.sl{B:Nat}{w:ay}{s:Sl}{xs:List Tk}(h:nf B w s xs):aD Oy 4 w (λk=>B<=k/\s.a=some ⟨k,0,none⟩) s xs:=R0 jR (λ_ _ _ _ _ h=>h) h
theorem nf.flat{B:Nat}{w:ay}{s:Sl}{xs:List Tk}(h:nf B w s xs):Own Oy 4 161 B w (λ_=>False) s xs:=by
 rcases h with h | ⟨g,css,tail,a1,a2,a4,a5,a6,a7,a9,a8⟩
 ·exact .inl h
 exact .inr ⟨g,css,tail,a1,a2,a4,a5,a6,a7,a9,gA.imp (λ_ _ h=>h) a8⟩
theorem nf.keep{B:Nat}{w w':ay}{s:Sl}{xs:List Tk}(h:nf B w s xs)(hk:∀k,B<=k/\s.a=some ⟨k,0,none⟩->k<w.heap.size->w'.heap[k]? =w.heap[k]?):nf B w' s xs:=
 nf.of (h.flat.keep jR λk hF bT=>hk k (hF.elim False.elim id) bT)
theorem nf.only{B:Nat}{w w':ay}{s:Sl}{xs:List Tk}(h:nf B w s xs)(hO:aA [] w w'):nf B w' s xs:=h.keep λk _ bT=>hO.block k bT aac
theorem nf.p{B:Nat}{w w':ay}{s:Sl}{xs:List Tk}{D:aL}(h:nf B w s xs)(hO:aF D w w')(hD:∀k,B<=k->s.a=some ⟨k,0,none⟩->¬D k):nf B w' s xs:=h.keep λk hk bT=>hO.block k bT (hD k hk.1 hk.2)
theorem abi{w:ay}{B:Nat}{s:Sl}{xs:List Tk}(t:Tk)(hs:nf B w s xs)(hB:B<=w.heap.size)(hm:(xs.length+1)*40<=140737488355328):
  ∃y w1,(aw 144 1 #[(0,t.v)]).run au w=.ok (Sl.v y) w1/\aA [] w w1/\∃s' w2,(Builtin.append_ #[144,144] 144 #[Sl.v s,Sl.v y]).run au w1=.ok (Sl.v s') w2/\nf B w2 s' (xs++[t])/\aF (λk=>B<=k/\s.a=some ⟨k,0,none⟩) w1 w2:=by
 obtain⟨y,w1,k1,k2,s',w2,k3,k4,⟨gs,k5,k6⟩,_⟩:=jG (P:=au) (t:=144) (ty:=144) (e:=161) (i:=Tryz.t161) (bytes:=40) (size:=4) (v:=t.v) (x:=t) (G:=λ_=>False) (by kernel_rfl) (by kernel_rfl) rfl rfl rfl rfl aN aN aN jR hs hB rfl rfl (λk hk _=>hk.elim) hm;exact⟨y,w1,k1,k2,s',w2,k3,nf.of k4,k5.p λg hg=>.inl ⟨(k6 g hg).2.1,(k6 g hg).1⟩⟩
def tw:List (aJ):=[[97,102,116,101,114],[97,108,119,97,121,115],[99,104,97,114,116],[100,101,101,112],[101,109,105,116],[101,110,116,101,114],[104,105,115,116,111,114,121],[105,110],[105,110,105,116,105,97,108],[108,101,97,118,101],[111,110],[112,97,114,97,108,108,101,108],[114,97,105,115,101],[115,101,116],[115,116,97,116,101],[118,97,114]]
theorem LV(w:ay):aB au 123 #[] w λe w'=>∃s:Sl,e=aq s.v/\Own lD 1 9 w.heap.size w' (λ_=>True) s tw/\aA [] w w':=by
 refine(af7 (λv w'=>∃s:Sl,v=s.v/\Own lD 1 9 w.heap.size w' (λ_=>True) s tw/\aA [] w w') w ?_).mono (by
  rintro e w' ⟨v,rfl,s,rfl,h⟩;exact⟨s,rfl,h⟩)
 obtain⟨s,w',h1,h2,h3⟩:=oy w tw (n:=16) rfl rfl aN aN;exact⟨s,w',h1,s,rfl,h2,h3⟩
structure Cut (w:ay) (b:Nat) (l:aJ) (i:Nat) (rs:Sl) (acc:List Tk):Prop where
 blk:∃ws:Sl,aH w b 197 [ah (T l),O ae (i:Int),ws.v,rs.v]/\aD lD 1 w (λk=>k<b) ws tw
 own:nf (b+1) w rs acc
 er:Er w
 gb:3<b
 il:i<=l.length
 ll:l.length<=16384
theorem Cut.lt{w:ay}{b:Nat}{l:aJ}{i:Nat}{rs:Sl}{acc:List Tk}(h:Cut w b l i rs acc):b<w.heap.size:=by
 obtain⟨ws,h1,_⟩:=h.blk;exact h1.lt
theorem Cut.only{w w':ay}{b:Nat}{l:aJ}{i:Nat}{rs:Sl}{acc:List Tk}(h:Cut w b l i rs acc)(hO:aA [] w w'):Cut w' b l i rs acc:=by
 obtain⟨ws,h1,h2⟩:=h.blk;exact⟨⟨ws,(hO.block b h1.lt aac).trans h1,SliceF.only dJ aN h2 hO aac⟩,h.own.only hO,h.er.only hO,h.gb,h.il,h.ll⟩
theorem Cut.move{w w':ay}{b:Nat}{l:aJ}{i j:Nat}{rs:Sl}{acc:List Tk}(h:Cut w b l i rs acc)(hO:aA [b] w w')(hj:j<=l.length)(hB:∀ws:Sl,aH w b 197 [ah (T l),O ae (i:Int),ws.v,rs.v]->aH w' b 197 [ah (T l),O ae (j:Int),ws.v,rs.v]):Cut w' b l j rs acc:=by
 obtain⟨ws,h1,h2⟩:=h.blk;exact⟨⟨ws,hB ws h1,SliceF.only dJ aN h2 hO (by intro k hk _;simp only[aO];omega)⟩,h.own.keep λk hk bT=>hO.block k bT aat,h.er.keep λbT=>hO.block _ bT (by simp only[aO];have:=h.gb;omega),h.gb,hj,h.ll⟩
theorem LW{w:ay}{b:Nat}{l:aJ}{i:Nat}{rs:Sl}{acc:List Tk}(h:Cut w b l i rs acc)(k:Int)(t:aJ)(nn a0:Int)(n:Nat)(hn:i+n<=l.length)(ha:acc.length<=16384):
  aB au 127 #[ai (some ⟨b,0,none⟩),aj #[O ae k,ah (T t),O ae nn,O ae a0],O ae (n:Int)] w λe w'=>e=aq (ak #[])/\aF (λk=>b<=k) w w'/\∃Yk,Cut w' b l (i+n) Yk (acc++[⟨k,t,nn,i⟩]):=by
 refine ret (agn _ _ _ _ _ _ _ _ ?_);intro k0 w0 gU fD cO;have DY:=h.lt;have PS:=h.ll;have h0:=h.only cO;obtain⟨ws,xt,hw0⟩:=h0.blk;refine⟨i,Blk.eh xt 1 rfl,λw1 cG=>?_⟩;have zb0:=xt.lt;have pD:aH w1 b 197 _:=(cG.block b zb0 aat).trans xt;have ho1:nf (b+1) w1 rs acc:=h0.own.keep λq hq bT=>by
  refine cG.block q bT ?_;simp only[aO];rintro rfl;have:=(h.own.blk hq.2).2;dsimp only at this;omega
 have z1:=cG.size;obtain⟨y,w2,c1,c2,s',w3,c3,c4,c5⟩:=abi ⟨k,t,nn,i⟩ ho1 aG (bf (jD 40 (show acc.length+1<=16385 by omega)) aN);have z2:=c2.size;have z3:=c5.size;have ao8:∀q,rs.a=some ⟨q,0,none⟩->q≠k0:=λq hq=>by
  have:=(h.own.blk hq).2;dsimp only at this;omega
 refine⟨λq=>q=b,rfl,rs,Blk.eh pD 3 rfl,y,w2,c1,c2.same aae,bS.only c2,s',w3,c3,?_,?_,?_⟩
 ·exact c5.same (by intro x hx;simp only[aO]at hx;subst hx;exact⟨aG,λe=>ao8 _ e.2 rfl⟩)
 ·intro q hq bT;exact c5.block q bT aG
 have Yh:aH w3 b 197 [ah (T l),O ae (i:Int),ws.v,rs.v]:=(c5.block b aG aG).trans ((c2.block b aG aac).trans pD);refine⟨b,3,_,197,by rw[fP],Yh,aac,aG,λw4 dK Uy=>?_⟩;have Uy:aH w4 b 197 [ah (T l),O ae (i:Int),ws.v,s'.v]:=Uy;refine⟨i,Blk.eh Uy 1 rfl,b,1,_,197,by rw[C1,fP],Uy,aac,aG,λw5 eJ I9=>⟨rfl,?_,s',?_⟩⟩
 ·have e1:aF (λk=>b<=k) w w1:=cO.p0.trans (cG.p (F:=λq=>q=k0) λb hb=>.inl aaz) λq hq=>aG
  have e2:aF (λk=>b<=k) w w3:=(e1.cr c2).trans c5 λq hq=>.inl aG;have e3:aF (λk=>b<=k) w w4:=e2.trans (dK.p (F:=λq=>q=b) λb hb=>.inl aaz) λq hq=>.inl aG;exact e3.trans (eJ.p (F:=λq=>q=b) λb hb=>.inl aaz) λq hq=>.inl aG
 have z4:=dK.size;have I9:aH w5 b 197 [ah (T l),O ae (IntKind.i64.wrap ((i:Int)+n)),ws.v,s'.v]:=I9;rw[gx aG aG]at I9;have up:aF (λk=>b<=k) w w5:=by
  have e1:aF (λk=>b<=k) w w1:=cO.p0.trans (cG.p (F:=λq=>q=k0) λb hb=>.inl aaz) λq hq=>aG
  have e2:aF (λk=>b<=k) w w3:=(e1.cr c2).trans c5 λq hq=>.inl aG;have e3:aF (λk=>b<=k) w w4:=e2.trans (dK.p (F:=λq=>q=b) λb hb=>.inl aaz) λq hq=>.inl aG;exact e3.trans (eJ.p (F:=λq=>q=b) λb hb=>.inl aaz) λq hq=>.inl aG
 have hgb:=h.gb;obtain⟨PT,jL,hw'⟩:=h.blk;have hwe:PT=ws:=by
  have:aH w0 b 197 [ah (T l),O ae (i:Int),PT.v,rs.v]:=(cO.block b DY aac).trans jL;unfold aH at this xt;rw[this]at xt;simp[Sl.v]at xt;cases ws;cases PT;simp_all
 subst hwe;refine⟨⟨PT,I9,SliceF.nP dJ aN hw' up λq hq _ hd=>aG⟩,?_,h.er.keep λbT=>up.block _ bT aG,hgb,hn,PS⟩;have e4:nf (b+1) w4 s' _:=c4.keep λq hq bT=>dK.block q bT aat;exact e4.keep λq hq bT=>eJ.block q bT aat
abbrev Tq:=Int×aJ×Int×Nat
def uO(m:aJ):Except Int Tq:=
 if 24<(m.takeWhile iQ).length then .error 2 else .ok (if tw.contains (m.takeWhile iQ)then 2 else 1,m.takeWhile iQ,0,(m.takeWhile iQ).length)
def A4(m:aJ):Except Int Tq:=
 if(ij m).2.2≠0 then .error (ij m).2.2 else if(ij m).2.1<(m.takeWhile iQ).length then .error 4 else .ok (3,[],(ij m).1,(ij m).2.1)
def EN:aJ:=[123,125,40,41,91,93,59,44,61,43,45,42,47,37,60,62,33]
def LX(m:aJ):Bool:=match m with
 | c::d::_=>(d==61&&[60,62,61,33].contains c)||(d==c&&[38,124].contains c)||(c==45&&d==62)
 | _=>false
def nJ(m:aJ):Nat:=if LX m then 2 else match m with
 | c::_=>if EN.contains c then 1 else 0
 | []=>0
def uQ(m:aJ):Except Int Tq:=if nJ m=0 then .error 4 else .ok (4,m.take (nJ m),0,nJ m)
def wk(m:aJ):Except Int Tq:=match m with
 | []=>.error 4
 | c::_=>if rA c then uO m else if fC c then A4 m else uQ m
def Qf(w':ay)(b:Nat)(l:aJ)(i:Nat)(acc:List Tk)(r:Except Int Tq)(v:az):Prop:=match r with
 | .error e=>v=O ae e/\∃rs,Cut w' b l i rs acc
 | .ok q=>v=O ae 0/\∃rs,Cut w' b l (i+q.2.2.2) rs (acc++[⟨q.1,q.2.1,q.2.2.1,i⟩])
theorem uh{p:UInt8->Bool}{l:aJ}:(l.takeWhile p).length<=l.length:=by
 rw[rB,cJ];exact Nat.min_le_right _ _
theorem abj{w:ay}{b:Nat}{l:aJ}{i:Nat}{rs:Sl}{acc:List Tk}(h:Cut w b l i rs acc)(ha:acc.length<=16384):
  aB au 166 #[ai (some ⟨b,0,none⟩)] w λe w'=>∃v,e=aq v/\aF (λk=>b<=k) w w'/\Qf w' b l i acc (uO (l.drop i)) v:=by
 refine agj ⟨b,0,none⟩ (λv w'=>aF (λk=>b<=k) w w'/\Qf w' b l i acc (uO (l.drop i)) v) w ?_;obtain⟨ws,hb,hw⟩:=h.blk;have PS:=h.ll;refine(RZ hb h.il aG).mono ?_;rintro _ w0 ⟨rfl,cO⟩;have hwl:((l.drop i).takeWhile iQ).length<=l.length-i:=by
  have:=uh (p:=iQ) (l:=l.drop i);rwa[cP]at this
 have IP:=h.il;refine⟨_,rfl,λhc=>⟨cO.p0,?_⟩,λhc=>?_⟩
 ·rw[dP]at hc;rw[uO,bc abp];exact⟨rfl,rs,h.only cO⟩
 rw[dP]at hc;have hc:¬24<((l.drop i).takeWhile iQ).length:=aby
 rw[uO,aY hc];generalize hm:(l.drop i).takeWhile iQ=m at*
 have h0:=h.only cO;obtain⟨PT,jL,hw'⟩:=h0.blk;refine⟨λk w'=>k=(if tw.contains m then 2 else 1)/\aA [] w w',?_,PT,Blk.eh jL 2 rfl,(tv hw' m).mono ?_⟩
 ·rintro _ w1 ⟨rfl,cG⟩;refine(ret (Y4 (T m) (λv w'=>v=ah (T m)/\aA [] w1 w') w1 ?_)).mono ?_
  ·refine(Tryz.stringslite_Clone (T m) w1 abQ).mono ?_;rintro _ w2 ⟨rfl,hw⟩;exact⟨_,rfl,rfl,Only.oH hw⟩
  rintro _ w2 ⟨rfl,dk⟩;rw[dP];refine⟨_,rfl,(LW (h.only (cG.cr dk)) _ m 0 0 m.length aG ha).mono ?_⟩;rintro _ w3 ⟨rfl,dz,Yk,hC⟩;exact⟨rfl,(cG.cr dk).mZ dz,rfl,Yk,hC⟩
 rintro _ w4 ⟨rfl,dK⟩;refine⟨_,rfl,λhb=>⟨by rw[bc hb],cO.cr dK⟩,λhb=>⟨by rw[hb];rfl,cO.cr dK⟩⟩
theorem R3{w:ay}{b:Nat}{l:aJ}{i:Nat}{rs:Sl}{acc:List Tk}(h:Cut w b l i rs acc)(ha:acc.length<=16384):
  aB au 168 #[ai (some ⟨b,0,none⟩)] w λe w'=>∃v,e=aq v/\aF (λk=>b<=k) w w'/\Qf w' b l i acc (A4 (l.drop i)) v:=by
 refine ago ⟨b,0,none⟩ (λv w'=>aF (λk=>b<=k) w w'/\Qf w' b l i acc (A4 (l.drop i)) v) w ?_;obtain⟨ws,hb,hw⟩:=h.blk;have PS:=h.ll;have IP:=h.il;refine(A2 hb h.il).mono ?_;rintro _ w0 ⟨rfl,cO⟩;have zm:(l.drop i).length=l.length-i:=cP;refine⟨_,rfl,(R2 (h.er.only cO) aG).mono ?_⟩;rintro _ w1 ⟨rfl,cG⟩;have j9:=cO.cr cG;refine⟨_,_,_,rfl,λhe=>⟨j9.p0,?_⟩,λhe=>?_⟩
 ·rw[A4,bc acQ];exact⟨rfl,rs,h.only j9⟩
 have he:¬(ij (l.drop i)).2.2≠0:=acQ
 have hk:(ij (l.drop i)).2.1<=(l.drop i).length:=by
  have:=uh (p:=fC) (l:=l.drop i);unfold ij;split
  ·exact bh _
  split
  ·exact bh _
  split
  ·exact this
  exact bh _
 obtain⟨PT,jL,hw'⟩:=(h.only j9).blk;refine(RZ jL h.il aG).mono ?_;rintro _ w2 ⟨rfl,dk⟩;have pS:=j9.cr dk;refine⟨_,rfl,?_⟩;dsimp only;rw[dP];refine⟨λhc=>⟨pS.p0,?_⟩,λhc=>?_⟩
 ·rw[A4,aY he,bc abp];exact⟨rfl,rs,h.only pS⟩
 rw[A4,aY he,aY aby];refine(LW (h.only pS) 3 [] _ 0 (ij (l.drop i)).2.1 aG ha).mono ?_;rintro _ w3 ⟨rfl,dz,Yk,hC⟩;exact⟨rfl,pS.mZ dz,rfl,Yk,hC⟩
theorem tz(w:ay)(p:Addr)(n:Nat)(a:Addr):(w.freeze p n).cell? a=w.cell? a:=by
 unfold World.freeze;split
 ·rfl
 unfold World.cell?;simp only[gQ];by_cases VI:p.block=a.block
 ·rw[bc VI];cases h:w.heap[a.block]? with
  | none=>rfl
  | some o=>
   cases o with
   | cells c e f=>obtain⟨lo,hi⟩:=f;rfl
   | _=>rfl
 rw[aY VI]
theorem tA(w:ay)(p:Addr)(n:Nat):aF (λk=>k=p.block) w (w.freeze p n):=by
 unfold World.freeze;split
 ·exact OnlyP.refl _ _
 exact⟨rfl,rfl,rfl,aac,λk hk hn=>by
  simp only[gQ];rw[aY λe=>hn e.symm]⟩
theorem abk{w:ay}{F:aL}{s:Sl}{g B:Nat}{l:aJ}(ha:s.a=some ⟨g,0,none⟩)(h:Own jF 1 5 B w F s l)(bT:g<w.heap.size):
  ∃w',(convert 214 214 (Sl.v s)).run au w=.ok (Sl.v s) w'/\aD jF 1 w' (λ_=>True) s l/\aF (λk=>k=g) w w':=by
 have hs:=C7 h;obtain⟨g',css,tail,a1,a2,a4,_⟩:=h.resolve_left (λe=>by rw[e.1]at ha;cases ha);rw[ha]at a1;injection a1 with a1;injection a1 with a1;subst a1;have Jc:w.shape? g=some (5,(css.flatten++tail).toArray.size):=by
  unfold World.shape?;unfold aH at a4;rw[a4]
 have hu:Tryz.prog.underlying 214=some (.slice 5):=by kernel_rfl
 have hu2:Tryz.prog.underlying 5=some (.int .u8):=by kernel_rfl
 refine⟨w.freeze ⟨g,(css.flatten++tail).toArray.size,none⟩ 1,?_,⟨hs.len,hs.cap,hs.nil0,hs.big,λj x hj=>?_⟩,tA w ⟨g,(css.flatten++tail).toArray.size,none⟩ 1⟩
 ·unfold Sl.v;rw[ha];simp[convert,run_underlying hu,run_underlying hu2,markStringish,Jc,Result.andThen]
 obtain⟨base,cs,g1,g2,g3,g4,g5⟩:=hs.at_ j x hj;exact⟨base,cs,g1,trivial,g3,λq v hq=>by rw[tz];exact g4 q v hq,g5⟩
theorem u8i{c d:UInt8}:((c.toNat:Int)==(d.toNat:Int))=(c==d):=by
 rw[bW];simp only[dq];constructor
 ·intro h;exact Vf.1 aG
 rintro rfl;rfl
theorem Oz{m:aJ}(h:LX m=true):2<=m.length:=by
 match m,h with
 | _::_::_,_=>simp
theorem A5{m:aJ}:nJ m<=m.length:=by
 unfold nJ;split
 ·exact Oz (by assumption)
 split
 ·split
  ·simp
  exact bh _
 exact bh _
theorem abl{w:ay}{b:Nat}{l:aJ}{i:Nat}{rs:Sl}{acc:List Tk}(h:Cut w b l i rs acc)(ha:acc.length<=16384)(gq:i<l.length):
  aB au 169 #[ai (some ⟨b,0,none⟩)] w λe w'=>∃v,e=aq v/\aF (λk=>b<=k) w w'/\Qf w' b l i acc (uQ (l.drop i)) v:=by
 refine agp ⟨b,0,none⟩ (λv w'=>aF (λk=>b<=k) w w'/\Qf w' b l i acc (uQ (l.drop i)) v) w ?_;obtain⟨ws,hb,hw⟩:=h.blk;have PS:=h.ll;have IP:=h.il;refine(A2 hb h.il).mono ?_;rintro _ w0 ⟨rfl,cO⟩;have zm:(l.drop i).length=l.length-i:=cP;generalize hm:l.drop i=m at*
 obtain⟨c,r,rfl⟩:∃c r,m=c::r:=by
  cases m with
  | nil=>simp at zm;omega
  | cons c r=>exact⟨c,r,rfl⟩
 have g0:(0:Int)<=0/\(T (c::r))[0]? =some c:=⟨kq _,by rw[yF];rfl⟩
 refine⟨T (c::r),rfl,λi0 w'=>i0=(if EN.contains c then 1 else 0:Int)/\aA [] w w',?_,c,g0,?_⟩
 ·rintro _ w1 ⟨rfl,cG⟩;refine⟨λi1 w'=>i1=(nJ (c::r):Int)/\aA [] w w',?_,λb w'=>b=LX (c::r)/\aA [] w w',?_,?_,?_⟩
  ·rintro _ w2 ⟨rfl,dk⟩;refine⟨λhz=>⟨dk.p0,?_⟩,λhz=>⟨nJ (c::r),⟨rfl,by rw[dP];exact A5⟩,?_⟩⟩
   ·rw[uQ,bc (by have:(nJ (c::r):Int)=0:=(by simpa using hz);omega)];exact⟨rfl,rs,h.only dk⟩
   have hz:¬nJ (c::r)=0:=by
    intro e;rw[e]at hz;simp at hz
   rw[uQ,aY hz,Au,fx,kD];have hn:=A5 (m:=c::r);refine(ret (Y4 (T _) (λv w'=>v=ah (T ((c::r).take (nJ (c::r))))/\aA [] w2 w') w2 ?_)).mono ?_
   ·refine(Tryz.stringslite_Clone (T _) w2 (by rw[dP,cJ];omega)).mono ?_;rintro _ w3 ⟨rfl,hw⟩;exact⟨_,rfl,rfl,Only.oH hw⟩
   rintro _ w3 ⟨rfl,dz⟩;refine⟨_,rfl,(LW (h.only (dk.cr dz)) 4 _ 0 0 (nJ (c::r)) aG ha).mono ?_⟩;rintro _ w4 ⟨rfl,dK,Yk,hC⟩;exact⟨rfl,(dk.cr dz).mZ dK,rfl,Yk,hC⟩
  ·rintro _ w5 ⟨rfl,eJ⟩;refine⟨λhs=>⟨by rw[nJ,bc hs];rfl,eJ⟩,λhs=>⟨?_,eJ⟩⟩;have e:nJ (c::r)=if EN.contains c then 1 else 0:=by rw[nJ,aY (by rw[hs];decide)]
   rw[e];split<;>rfl
  ·intro hc;rw[dP]at hc;obtain⟨d,r,rfl⟩:∃d r',r=d::r':=by
    cases r with
    | nil=>simp at hc
    | cons d r=>exact⟨d,r,rfl⟩
   have g1:(0:Int)<=1/\(T (c::d::r))[1]? =some d:=⟨aN,by rw[yF];rfl⟩
   have ex:(T (c::d::r)).extract 0 2=T [c,d]:=by rw[Au];rfl
   have sz:2<=(T (c::d::r)).size:=by rw[dP];simp
   have lit:(ar #[45,62])=T [45,62]:=rfl;have eqx:((T [c,d]).toList==(T [45,62]).toList)=(c==45&&d==62):=by
    rw[mM,bW];simp
   have e61:((d.toNat:Int)==61)=(d==61):=u8i (d:=61);have hs2:LX (c::d::r)=((d==61&&[60,62,61,33].contains c)||(d==c&&[38,124].contains c)||(c==45&&d==62)):=rfl;rw[hs2];generalize KI:([60,62,61,33]:aJ).contains c=p1;generalize hp2:([38,124]:aJ).contains c=p2;have I8:((((T (c::d::r)).extract 0 2).toList)==((ar #[45,62]).toList))=(c==45&&d==62):=by rw[ex,lit,eqx]
   refine⟨d,g1,λUA=>⟨c,g0,λw6 eH=>?_⟩,λUA=>⟨d,g1,c,g0,λPU=>⟨c,g0,λdN dX=>?_⟩,λPU=>⟨sz,λfS ey=>⟨?_,cG.cr ey⟩⟩⟩⟩
   ·rw[e61]at UA;obtain⟨s,w7,k1,k2,k3,_⟩:=xM w6 [60,62,61,33] (n:=4) (parts:=#[(0,.int .u8 60),(1,.int .u8 62),(2,.int .u8 61),(3,.int .u8 33)]) rfl rfl aN aN;refine⟨s,w7,k1,(Hi (C7 k2) c).mono ?_⟩;rintro _ w8 ⟨rfl,fX⟩;have mw:=cG.cr (eH.cr (k3.cr fX));rw[KI];refine⟨_,rfl,λhb=>⟨by rw[UA,hb];rfl,mw⟩,λhb=>⟨d,g1,c,g0,λPU=>⟨c,g0,?_⟩,λPU=>⟨sz,?_,mw⟩⟩⟩
    ·rw[u8i]at PU;obtain⟨s,w9,k1,k2,k3,_⟩:=xM w8 [38,124] (n:=2) (parts:=#[(0,.int .u8 38),(1,.int .u8 124)]) rfl rfl aN aN;refine⟨s,w9,k1,(Hi (C7 k2) c).mono ?_⟩;rintro _ dL ⟨rfl,dW⟩;have hO:=mw.cr (k3.cr dW);rw[hp2];exact⟨_,rfl,λtV=>⟨by rw[UA,hb,PU,tV];rfl,hO⟩,λtV=>⟨sz,by rw[I8,UA,hb,PU,tV];rfl,hO⟩⟩
    rw[u8i]at PU;rw[I8,UA,hb,PU];rfl
   ·rw[e61]at UA;rw[u8i]at PU;obtain⟨s,eT,k1,k2,k3,_⟩:=xM dN [38,124] (n:=2) (parts:=#[(0,.int .u8 38),(1,.int .u8 124)]) rfl rfl aN aN;refine⟨s,eT,k1,(Hi (C7 k2) c).mono ?_⟩;rintro _ fI ⟨rfl,ez⟩;have hO:=cG.cr (dX.cr (k3.cr ez));rw[hp2];exact⟨_,rfl,λtV=>⟨by rw[UA,PU,tV];rfl,hO⟩,λtV=>⟨sz,by rw[I8,UA,PU,tV];rfl,hO⟩⟩
   rw[e61]at UA;rw[u8i]at PU;rw[I8,UA,PU];rfl
  intro hc ia iY;rw[dP]at hc;have hr:r=[]:=by
   cases r with
   | nil=>rfl
   | cons d r=>exact absurd (aX hc) (by simp only[bn];omega)
  subst hr;exact⟨rfl,cG.cr iY⟩
 obtain⟨s,io,k1,k2,k3,k4⟩:=xM w0 EN (n:=17) (parts:=#[(0,.int .u8 123),(1,.int .u8 125),(2,.int .u8 40),(3,.int .u8 41),(4,.int .u8 91),(5,.int .u8 93),(6,.int .u8 59),(7,.int .u8 44),(8,.int .u8 61),(9,.int .u8 43),(10,.int .u8 45),(11,.int .u8 42),(12,.int .u8 47),(13,.int .u8 37),(14,.int .u8 60),(15,.int .u8 62),(16,.int .u8 33)]) rfl rfl aN aN;obtain⟨gn,c1,c2,c3⟩:=abk k4 k2 (k2.blk k4).2;have iZ:aA [] w0 gn:=((k3.p0 (F:=λk=>w0.heap.size<=k)).trans c3 λk hk=>.inl aG).only λk hk=>hk;refine⟨s,io,k1,s,gn,c1,(Hi c2 c).mono ?_⟩;rintro _ jC ⟨rfl,mw⟩;have hO:=cO.cr (iZ.cr mw);exact⟨_,rfl,λhb=>⟨by rw[bc hb],hO⟩,λhb=>⟨by rw[hb];rfl,hO⟩⟩
theorem Qf.int{w':ay}{b:Nat}{l:aJ}{i:Nat}{acc:List Tk}{r:Except Int Tq}{v:az}(h:Qf w' b l i acc r v):∃k:Int,v=O ae k:=by
 unfold Qf at h;split at h
 ·exact⟨_,h.1⟩
 exact⟨_,h.1⟩
theorem Wv{w:ay}{b:Nat}{l:aJ}{i:Nat}{rs:Sl}{acc:List Tk}(h:Cut w b l i rs acc)(ha:acc.length<=16384)(gq:i<l.length):
  aB au 126 #[ai (some ⟨b,0,none⟩)] w λe w'=>∃v,e=aq v/\aF (λk=>b<=k) w w'/\Qf w' b l i acc (wk (l.drop i)) v:=by
 refine agh ⟨b,0,none⟩ (λv w'=>aF (λk=>b<=k) w w'/\Qf w' b l i acc (wk (l.drop i)) v) w ?_;obtain⟨ws,hb,hw⟩:=h.blk;have hx:l[i]? =some l[i]:=aQ gq;generalize l[i]=x at hx;have ht:wk (l.drop i)=if rA x then uO (l.drop i)else if fC x then A4 (l.drop i)else uQ (l.drop i):=by
  rw[C8 hx];rfl
 rw[ht];refine⟨T l,Blk.eh hb 0 rfl,i,Blk.eh hb 1 rfl,x,⟨bD i,by rw[yF,aU,hx]⟩,λw0 cO=>(A1 w0 x).mono ?_⟩;rintro _ w1 ⟨rfl,cG⟩;have j9:=cO.cr cG;refine⟨_,rfl,λhl=>?_,λhl=>(LS w1 x).mono ?_⟩
 ·rw[bc hl];refine(abj (h.only j9) ha).mono ?_;rintro _ w2 ⟨v,rfl,dk,hd⟩;obtain⟨k,rfl⟩:=hd.int;exact⟨k,rfl,j9.mZ dk,hd⟩
 rintro _ w3 ⟨rfl,dz⟩;have Ca:=j9.cr dz;rw[aY (by rw[hl];decide)];refine⟨_,rfl,λhd=>?_,λhd=>?_⟩
 ·rw[bc hd];refine(R3 (h.only Ca) ha).mono ?_;rintro _ w2 ⟨v,rfl,dk,hd⟩;obtain⟨k,rfl⟩:=hd.int;exact⟨k,rfl,Ca.mZ dk,hd⟩
 rw[aY (by rw[hd];decide)];refine(abl (h.only Ca) ha gq).mono ?_;rintro _ w2 ⟨v,rfl,dk,hd⟩;obtain⟨k,rfl⟩:=hd.int;exact⟨k,rfl,Ca.mZ dk,hd⟩
theorem wl{m:aJ}{q:Tq}(h:wk m=.ok q):1<=q.2.2.2:=by
 cases m with
 | nil=>cases h
 | cons c r=>
  simp only[wk]at h;split at h
  ·rename_i hc;unfold uO at h;split at h
   ·cases h
   injection h with h;subst h;have:iQ c=true:=by unfold iQ;rw[hc];rfl
   dsimp only;rw[eV,bc this,bn];omega
  split at h
  ·rename_i hc;unfold A4 at h;split at h
   ·cases h
   split at h
   ·cases h
   rename_i h1 h2;injection h with h;subst h;dsimp only;rw[eV,bc (by unfold iQ;rw[hc,K6]),bn]at h2;omega
  unfold uQ at h;split at h
  ·cases h
  injection h with h;subst h;dsimp only;omega
theorem LY{m:aJ}{e:Int}(h:wk m=.error e):e≠0:=by
 cases m with
 | nil=>injection h with h;omega
 | cons c r=>
  simp only[wk]at h;split at h
  ·unfold uO at h;split at h
   ·injection h with h;omega
   cases h
  split at h
  ·unfold A4 at h;split at h
   ·injection h with h;omega
   split at h
   ·injection h with h;omega
   cases h
  unfold uQ at h;split at h
  ·injection h with h;omega
  cases h
def A6(l:aJ):Nat->Nat->Except (Int×Nat) (List Tk)
 | 0,_=>.ok []
 | f+1,i=>
  if l.length<=i+nI false (l.drop i)then .ok [⟨5,[],0,(i+nI false (l.drop i):Nat)⟩]
  else match wk (l.drop (i+nI false (l.drop i)))with
   | .error e=>.error (e,i+nI false (l.drop i))
   | .ok q=>match A6 l f (i+nI false (l.drop i)+q.2.2.2)with
    | .error x=>.error x
    | .ok r=>.ok (⟨q.1,q.2.1,q.2.2.1,(i+nI false (l.drop i):Nat)⟩::r)
theorem R4{l:aJ}:(ij l).2.1<=l.length:=by
 have:=uh (p:=fC) (l:=l);unfold ij;split
 ·exact bh _
 split
 ·exact bh _
 split
 ·exact this
 exact bh _
theorem EO{m:aJ}{q:Tq}(h:wk m=.ok q):q.2.2.2<=m.length:=by
 cases m with
 | nil=>cases h
 | cons c r=>
  simp only[wk]at h;split at h
  ·unfold uO at h;split at h
   ·cases h
   injection h with h;subst h;exact uh
  split at h
  ·unfold A4 at h;split at h
   ·cases h
   split at h
   ·cases h
   injection h with h;subst h;exact R4
  unfold uQ at h;split at h
  ·cases h
  injection h with h;subst h;exact A5
theorem R5{l:aJ}{i:Nat}(hi:i<=l.length):i+nI false (l.drop i)<=l.length:=by
 have:=EM (b:=false) (l:=l.drop i);rw[cP]at this;omega
theorem Hl(l:aJ):∀(f g i:Nat),i<=l.length->l.length<i+f->l.length<i+g->A6 l f i=A6 l g i
 | 0,_,i,hi,h,_=>aG
 | _,0,i,hi,_,h=>aG
 | f+1,g+1,i,hi,h1,h2=>by
  rw[A6,A6];split
  ·rfl
  split
  ·rfl
  rename_i q hq;have h3:=wl hq;have h4:=EO hq;rw[cP]at h4;rw[Hl l f g _ aG aG aG]
def wm(l:aJ)(i:Nat):Except (Int×Nat) (List Tk):=A6 l (l.length+1) i
theorem qo{l:aJ}{i:Nat}(hi:i<=l.length):wm l i=if l.length<=i+nI false (l.drop i)then .ok [⟨5,[],0,(i+nI false (l.drop i):Nat)⟩]
  else match wk (l.drop (i+nI false (l.drop i)))with
   | .error e=>.error (e,i+nI false (l.drop i))
   | .ok q=>match wm l (i+nI false (l.drop i)+q.2.2.2)with
    | .error x=>.error x
    | .ok r=>.ok (⟨q.1,q.2.1,q.2.2.1,(i+nI false (l.drop i):Nat)⟩::r):=by
 unfold wm;rw[A6];split
 ·rfl
 split
 ·rfl
 rename_i q hq;have h3:=wl hq;have h4:=EO hq;rw[cP]at h4;rw[Hl l l.length (l.length+1) _ aG aG aG]
def dC(l:aJ):List Tk×Int×Int:=if 16384<l.length then([],2, -1)else match wm l 0 with
 | .error x=>([],x.1,(x.2:Nat))
 | .ok r=>(r,0,0)
def jj(acc:List Tk):Except (Int×Nat) (List Tk)->Except (Int×Nat) (List Tk)
 | .error x=>.error x
 | .ok r=>.ok (acc++r)
theorem ui(b:Bool):∀(l:aJ),nI false (l.drop (nI b l))=0
 | []=>by simp[nI]
 | c::r=>by
  cases b with
  | true=>
   rw[nI,jE,gy];exact ui _ r
  | false=>
   rw[nI];split
   ·rw[jE,gy];exact ui _ r
   split
   ·rw[jE,gy];exact ui _ r
   rename_i h1 h2;rw[fx,nI,aY h1,aY h2]
theorem C9{l:aJ}{i:Nat}(hi:i<=l.length):wm l i=wm l (i+nI false (l.drop i)):=by
 have h1:=R5 hi;have h2:nI false (l.drop (i+nI false (l.drop i)))=0:=by
  rw[<-oV];exact ui false (l.drop i)
 rw[qo hi,qo h1,h2,fJ]
theorem Ww{a b:List Tk}{x:Except (Int×Nat) (List Tk)}:jj a (jj b x)=jj (a++b) x:=by
 cases x with
 | error _=>rfl
 | ok r=>simp[jj]
theorem Hm{w:ay}(l:aJ)(hE:Er w):
  aB au 87 #[ah (T l)] w λe w'=>∃rs:Sl,e=aq (ak #[rs.v,aj #[O ae (dC l).2.1,O ae (dC l).2.2]])/\nf w.heap.size w' rs (dC l).1/\aA [] w w':=by
 refine(af6 (T l) (λv w'=>∃rs:Sl,v=(ak #[rs.v,aj #[O ae (dC l).2.1,O ae (dC l).2.2]])/\nf w.heap.size w' rs (dC l).1/\aA [] w w') w ?_).mono (by
  rintro e w' ⟨v,rfl,rs,rfl,h⟩;exact⟨rs,rfl,h⟩)
 rw[dP];refine⟨λhc k0 w0 _ _ hO=>⟨Sl.nil,?_,?_,hO⟩,λhc k1 w1 kc jO cG=>(LV w1).mono ?_⟩
 ·rw[dC,bc abp]
 ·rw[dC,bc abp];exact Own.nil _ _ _ _ _ _
 have PS:l.length<=16384:=aby
 have htm:dC l=match wm l 0 with
  | .error x=>([],x.1,(x.2:Nat))
  | .ok r=>(r,0,0):=by rw[dC,aY aG]
 rintro _ w2 ⟨ws,rfl,hws,dk⟩;refine⟨ws,rfl,dk.same aae,λb w3 hb jL dz hblk=>?_⟩;have ez:=cG.cr (dk.cr dz);have z1:=cG.size;have z2:=dk.size;have z3:=dz.size;have hC0:Cut w3 b l 0 Sl.nil []:=⟨⟨ws,hblk,(SliceF.only dJ aN ((wj hws).inHeap dJ aN) dz aac).mono dJ λk hk=>aG⟩,Own.nil _ _ _ _ _ _,hE.only ez,by have:=hE.lt;omega,bh _,PS⟩
 have sm:∀{u u':ay},w2.heap.size<=u.heap.size->aF (λk=>b<=k) u u'->ci [k1] u u':=λhu hO=>hO.same (by intro x hx;simp only[aO]at hx;subst hx;omega);refine(R1 hblk (bh _) aG).mono ?_;rintro _ w4 ⟨rfl,dK,Uy⟩;have p4:aF (λk=>b<=k) w3 w4:=dK.p λx hx=>.inl aaj;have hC4:Cut w4 b l (0+nI false (l.drop 0)) Sl.nil []:=hC0.move dK (R5 (bh _)) λPT h'=>by
  have:PT=ws:=by
   unfold aH at h' hblk;rw[h']at hblk;simp[Sl.v]at hblk;cases ws;cases PT;simp_all
  subst this;exact Uy
 refine⟨rfl,sm aG p4,T l,_,ws,Sl.nil,Uy,λnv e1 e2 s0 i0 l1 l2 w'=>e1=0/\e2=0/\s0=T l/\∃(i:Nat) (acc:List Tk),i0=(i:Int)/\Cut w' b l i l2 acc/\acc.length<=i/\nI false (l.drop i)=0/\wm l 0=jj acc (wm l i)/\nv=l.length-i/\aF (λk=>b<=k) w3 w'/\aH w' b 197 [ah (T l),O ae (i:Int),l1.v,l2.v],l.length-(0+nI false (l.drop 0)),?_,?_⟩
 ·refine⟨rfl,rfl,rfl,_,[],rfl,hC4,bh _,?_,?_,rfl,p4,Uy⟩
  ·rw[<-oV];exact ui false (l.drop 0)
  rw[<-C9 (bh _)];cases wm l 0<;>rfl
 rintro nv _ _ _ _ l1 rs w5 ⟨rfl,rfl,rfl,i,acc,rfl,hC,fy,hsk,mJ,rfl,eJ,I9⟩;have z5:=eJ.size;have IP:=hC.il;refine(Y9 I9).mono ?_;rintro _ w6 ⟨rfl,eH⟩;have hC6:=hC.only eH;have hb6:aH w6 b 197 [ah (T l),O ae (i:Int),l1.v,rs.v]:=(eH.block b I9.lt aac).trans I9;have z6:=eH.size;have lH:=qo hC.il;rw[hsk,fJ]at lH;refine⟨_,rfl,eH.same aae,T l,i,l1,rs,hb6,λhc=>?_,λhc=>?_⟩
 ·have bT:i<l.length:=aai
  rw[aY aG]at lH;refine(Wv hC6 aG bT).mono ?_;rintro _ w7 ⟨v,rfl,fN,hd⟩;have p7:aF (λk=>b<=k) w3 w7:=(eJ.cr eH).trans fN λk hk=>.inl hk;have z7:=fN.size;unfold Qf at hd;cases hq:wk (l.drop i)with
  | error e=>
   rw[hq]at hd lH;obtain⟨rfl,rs7,hC7⟩:=hd;obtain⟨ws7,NU,_⟩:=hC7.blk;refine⟨e,rfl,sm aG fN,T l,i,ws7,rs7,NU,λ_ w8 fX _=>⟨Sl.nil,?_,?_,?_⟩,λhe=>absurd (LY hq) acQ⟩
   ·rw[htm,mJ,lH];rfl
   ·rw[htm,mJ,lH];exact Own.nil _ _ _ _ _ _
   exact(((ez.p0 (F:=λk=>w.heap.size<=k)).trans p7 λk hk=>.inl aG).trans (fX.p (F:=λk=>k=k1) λx hx=>.inl aa3) λk hk=>.inl aG).only λk hk=>hk
  | ok q=>
   rw[hq]at hd lH;obtain⟨rfl,rs7,hC7⟩:=hd;obtain⟨ws7,NU,_⟩:=hC7.blk;have hq1:=wl hq;have h7l:=hC7.il;refine⟨0,rfl,sm aG fN,T l,(i+q.2.2.2:Nat),ws7,rs7,NU,λhe=>(by simp at he),λ_=>(R1 NU h7l aG).mono ?_⟩;rintro _ w9 ⟨rfl,gH,hb9⟩;have p9:aF (λk=>b<=k) w7 w9:=gH.p λx hx=>.inl aaj;have hC9:=hC7.move gH (R5 h7l) λPT h'=>by
    have:PT=ws7:=by
     unfold aH at h' NU;rw[h']at NU;simp[Sl.v]at NU;cases ws7;cases PT;simp_all
    subst this;exact hb9
   refine⟨rfl,sm aG p9,T l,_,ws7,rs7,hb9,l.length-(i+q.2.2.2+nI false (l.drop (i+q.2.2.2))),aG,rfl,rfl,rfl,_,_,rfl,hC9,?_,?_,?_,rfl,p7.trans p9 λk hk=>.inl hk,hb9⟩
   ·rw[aW,bK];omega
   ·rw[<-oV];exact ui false _
   rw[mJ,lH,<-C9 h7l,<-Ww];dsimp only;cases wm l (i+q.2.2.2)<;>rfl
 have lz:l.length<=i:=aai
 rw[bc lz]at lH;refine(LW hC6 5 [] 0 0 0 aG aG).mono ?_;rintro _ dL ⟨rfl,dW,ac8,aiL⟩;obtain⟨ape,ac0,_⟩:=aiL.blk;have p10:aF (λk=>b<=k) w3 dL:=(eJ.cr eH).trans dW λk hk=>.inl hk;have htt:dC l=(acc++[⟨5,[],0,(i:Nat)⟩],0,0):=by
  rw[htm,mJ,lH];rfl
 refine⟨rfl,sm aG dW,T l,_,ape,ac8,ac0,λdN dX _=>⟨ac8,?_,?_,?_⟩⟩
 ·rw[htt]
 ·rw[htt];have:nf (b+1) dN ac8 _:=aiL.own.keep λk hk bT=>dX.block k bT aat;exact Own.low this aG
 exact(((ez.p0 (F:=λk=>w.heap.size<=k)).trans p10 λk hk=>.inl aG).trans (dX.p (F:=λk=>k=k1) λx hx=>.inl aa3) λk hk=>.inl aG).only λk hk=>hk
inductive Ex where
 | mk (k n:Int) (s:aJ) (op:Int) (subs:List Ex) (a:Int)
def Ex.k:Ex->Int | .mk k _ _ _ _ _=>k
def Ex.n:Ex->Int | .mk _ n _ _ _ _=>n
def Ex.s:Ex->aJ | .mk _ _ s _ _ _=>s
def Ex.op:Ex->Int | .mk _ _ _ op _ _=>op
def Ex.gp:Ex->List Ex | .mk _ _ _ _ l _=>l
def Ex.a:Ex->Int | .mk _ _ _ _ _ a=>a
def tk0:Tk:=⟨5,[],0, -1⟩
def tk(ts:List Tk)(i:Nat):Tk:=(ts[i]?).getD tk0
def sg(ts:List Tk)(i:Nat)(s:aJ):Bool:=(tk ts i).k==4&&decide ((tk ts i).t=s)
def iE(ts:List Tk)(i:Nat):Int×Int:=(if(tk ts i).k=5 then 3 else 4,(tk ts i).a)
theorem L0{ts:List Tk}{i:Nat}(h:i<ts.length):ts[i]? =some (tk ts i):=by
 unfold tk;rw[aQ h];rfl
def xO(ts:List Tk):Prop:=∀i,i<ts.length->((tk ts i).k=5↔i+1=ts.length)
theorem xO.next{ts:List Tk}(h:xO ts){i:Nat}(hi:i<ts.length)(hk:(tk ts i).k≠5):i+1<ts.length:=by
 have h2:¬(i+1=ts.length):=λe=>hk ((h i hi).2 e);omega
theorem EP{ts:List Tk}{i:Nat}{s:aJ}(h:sg ts i s=true):(tk ts i).k≠5:=by
 simp only[sg,aR,dq]at h;rw[h.1];decide
def CD:List (aJ):=[[],[43],[45],[42],[47],[37],[60],[60,61],[62],[62,61],[61,61],[33,61],[38,38],[124,124],[45],[33]]
def lN(op:Int):Int:=if 3<=op/\op<=5 then 5 else if op=1∨op=2 then 4 else if 6<=op/\op<=9 then 3 else if op=10∨op=11 then 2 else if op=12 then 1 else if op=13 then 0 else 6
def mf(op:Nat):aJ:=(CD[op]?).getD []
def xP(ts:List Tk)(k:Int)(i:Nat):Nat->Nat->Int
 | 0,_=>0
 | f+1,op=>if lN (op:Int)=k/\sg ts i (mf op)=true then(op:Int)else xP ts k i f (op+1)
def A7(ts:List Tk)(k:Int)(i:Nat):Int:=xP ts k i 13 1
theorem xQ{ts:List Tk}{k:Int}{i:Nat}:∀(f op:Nat),xP ts k i f op≠0->(tk ts i).k≠5
 | 0,_,h=>absurd rfl h
 | f+1,op,h=>by
  rw[xP]at h;split at h
  ·rename_i hc;exact EP hc.2
  exact xQ f _ h
abbrev Pr:=Except (Int×Int) (Ex×Nat)
def Wx(g:Ex->Ex):Pr->Pr
 | .error e=>.error e
 | .ok (x,j)=>.ok (g x,j)
def OA:Pr->(Ex->Nat->Pr)->Pr
 | .error e,_=>.error e
 | .ok (x,j),g=>g x j
def CE(ts:List Tk):Pr->Pr
 | .error e=>.error e
 | .ok (x,j)=>if sg ts j [41]then .ok (x,j+1)else .error (iE ts j)
def rS(d:Nat)(a:Int)(r:Pr):Pr:=if d=20 then .error (21,a)else r
def Wy(ts:List Tk)(i:Nat):Pr:=
 if sg ts (i+1) [40]then
  (if(tk ts (i+2)).k=1 then
   (if sg ts (i+3) [41]then .ok (.mk 3 0 (tk ts (i+2)).t 0 [] (tk ts i).a,i+4)else .error (iE ts (i+3)))
  else .error (iE ts (i+2)))
 else .error (iE ts (i+1))
def ER(ts:List Tk)(E0 O9:Nat->Pr)(d i:Nat):Pr:=
 if(sg ts i [45]||sg ts i [33])=true then Wx (λx=>.mk 4 0 [] (if(tk ts i).t=[33]then 15 else 14) [x] (tk ts i).a) (rS d (tk ts i).a (O9 (i+1)))
 else if sg ts i [40]=true then rS d (tk ts i).a (CE ts (E0 (i+1)))
 else if(tk ts i).k=3 then .ok (.mk 1 (tk ts i).n [] 0 [] (tk ts i).a,i+1)
 else if(tk ts i).k=1 then .ok (.mk 2 0 (tk ts i).t 0 [] (tk ts i).a,i+1)
 else if(tk ts i).k=2/\(tk ts i).t=[105,110]then Wy ts i
 else .error (iE ts i)
def nK(ts:List Tk)(E:Nat->Pr)(k:Int):Nat->Ex->Nat->Pr
 | 0,x,j=>.ok (x,j)
 | g+1,x,j=>if A7 ts k j=0 then .ok (x,j)else OA (E (j+1)) λy j'=>nK ts E k g (.mk 5 0 [] (A7 ts k j) [x,y] x.a) j'
def gj(ts:List Tk):Nat->Nat->Nat->Nat->Pr
 | 0,_,_,_=>.error (1,0)
 | f+1,k,d,i=>if k=6 then ER ts (gj ts f 0 (d+1)) (gj ts f 6 (d+1)) d i else OA (gj ts f (k+1) d i) λx j=>nK ts (gj ts f (k+1) d) (k:Int) (ts.length-j) x j
theorem L1{g:Ex->Ex}{r:Pr}{x:Ex}{j:Nat}(h:Wx g r=.ok (x,j)):∃y,r=.ok (y,j)/\x=g y:=by
 cases r with
 | error e=>cases h
 | ok q=>
  obtain⟨y,j'⟩:=q;simp only[Wx,jw,jP]at h;obtain⟨rfl,rfl⟩:=h;exact⟨y,rfl,rfl⟩
theorem wo{d:Nat}{a:Int}{r:Pr}{q:Ex×Nat}(h:rS d a r=.ok q):r=.ok q/\d≠20:=by
 unfold rS at h;split at h
 ·cases h
 exact⟨h,by assumption⟩
theorem L2{ts:List Tk}{r:Pr}{x:Ex}{j:Nat}(h:CE ts r=.ok (x,j)):∃j',r=.ok (x,j')/\sg ts j' [41]=true/\j=j'+1:=by
 cases r with
 | error e=>cases h
 | ok q=>
  obtain⟨y,j'⟩:=q;simp only[CE]at h;split at h
  ·simp only[jw,jP]at h;obtain⟨rfl,rfl⟩:=h;exact⟨j',rfl,by assumption,rfl⟩
  cases h
theorem zM{r:Pr}{g:Ex->Nat->Pr}{q:Ex×Nat}(h:OA r g=.ok q):∃x j,r=.ok (x,j)/\g x j=.ok q:=by
 cases r with
 | error e=>cases h
 | ok p=>exact⟨p.1,p.2,rfl,h⟩
theorem abm{ts:List Tk}{i:Nat}{x:Ex}{j:Nat}(h:Wy ts i=.ok (x,j)):j=i+4/\x=.mk 3 0 (tk ts (i+2)).t 0 [] (tk ts i).a:=by
 unfold Wy at h;split at h
 ·split at h
  ·split at h
   ·simp only[jw,jP]at h;exact⟨h.2.symm,h.1.symm⟩
   cases h
  cases h
 cases h
theorem OB{ts:List Tk}{E0 O9:Nat->Pr}{d i:Nat}{x:Ex}{j:Nat}(hE:∀i x j,E0 i=.ok (x,j)->i<j)(hO:∀i x j,O9 i=.ok (x,j)->i<j)(h:ER ts E0 O9 d i=.ok (x,j)):i<j:=by
 unfold ER at h;split at h
 ·obtain⟨y,h1,_⟩:=L1 h;have:=hO _ _ _ (wo h1).1;omega
 split at h
 ·obtain⟨j',h1,_,rfl⟩:=L2 (wo h).1;have:=hE _ _ _ h1;omega
 split at h
 ·simp only[jw,jP]at h;omega
 split at h
 ·simp only[jw,jP]at h;omega
 split at h
 ·have:=(abm h).1;omega
 cases h
theorem A8{ts:List Tk}{E:Nat->Pr}{k:Int}(hE:∀i x j,E i=.ok (x,j)->i<j):∀(g:Nat) (x:Ex) (j:Nat) {x':Ex} {j':Nat},nK ts E k g x j=.ok (x',j')->j<=j'
 | 0,x,j,x',j',h=>by
  simp only[nK,jw,jP]at h;omega
 | g+1,x,j,x',j',h=>by
  rw[nK]at h;split at h
  ·simp only[jw,jP]at h;omega
  obtain⟨y,m,h1,h2⟩:=zM h;have:=hE _ _ _ h1;have:=A8 hE g _ _ h2;omega
theorem mg{ts:List Tk}:∀(f k d i:Nat) {x:Ex} {j:Nat},gj ts f k d i=.ok (x,j)->i<j
 | 0,_,_,_,_,_,h=>aal
 | f+1,k,d,i,x,j,h=>by
  rw[gj]at h;split at h
  ·exact OB (λi x j h=>mg f _ _ i h) (λi x j h=>mg f _ _ i h) h
  obtain⟨y,m,h1,h2⟩:=zM h;have:=mg f _ _ _ h1;have:=A8 (λi x j h=>mg f _ _ i h) _ _ _ h2;omega
def lG(k d:Nat):Nat:=(20-d)*8+(7-k)
def JP(ts:List Tk)(i:Nat):Pr:=gj ts (lG 0 0) 0 0 i
structure Rd (F G:aL) (ts:List Tk) (w:ay) (b:Nat) (l sn:Sl) (i:Nat) (fc fa d:Int):Prop where
 blk:aH w b 297 [l.v,O ae (i:Int),O ae fc,O ae fa,O ae d,sn.v]
 tok:aD Oy 4 w F l ts
 sig:aD lD 1 w G sn CD
 hF:∀k,F k->k<b
 hG:∀k,G k->k<b
 en:xO ts
 lt:i<ts.length
section
variable {F G:aL} {ts:List Tk} {w w':ay} {b:Nat} {l sn:Sl} {i:Nat} {fc fa d:Int}
theorem Rd.only(h:Rd F G ts w b l sn i fc fa d)(hO:aA [] w w'):Rd F G ts w' b l sn i fc fa d:=
 ⟨hO.blk h.blk aac,SliceF.only jR aN h.tok hO aac,SliceF.only dJ aN h.sig hO aac,h.hF,h.hG,h.en,h.lt⟩
theorem Rd.nZ(h:Rd F G ts w b l sn i fc fa d)(hO:aA [b] w w'){i':Nat}{fc' fa' d':Int}(hB:aH w' b 297 [l.v,O ae (i':Int),O ae fc',O ae fa',O ae d',sn.v])(hi:i'<ts.length):Rd F G ts w' b l sn i' fc' fa' d':=
 ⟨hB,SliceF.only jR aN h.tok hO λk hk _ hm=>by have:=h.hF k hk;simp only[aO]at hm;omega,SliceF.only dJ aN h.sig hO λk hk _ hm=>aaZ,h.hF,h.hG,h.en,hi⟩
theorem Rd.own(h:Rd F G ts w b l sn i fc fa d){bs:List Nat}(hO:aA bs w w')(hb:∀x,x∈bs->b<x):Rd F G ts w' b l sn i fc fa d:=
 ⟨hO.blk h.blk λhm=>by have:=hb b hm;omega,SliceF.only jR aN h.tok hO λk hk _ hm=>(by have:=h.hF k hk;have:=hb k hm;omega),SliceF.only dJ aN h.sig hO λk hk _ hm=>(by have:=h.hG k hk;have:=hb k hm;omega),h.hF,h.hG,h.en,h.lt⟩
theorem Rd.lb(h:Rd F G ts w b l sn i fc fa d):b<w.heap.size:=h.blk.lt
theorem Rd.big(h:Rd F G ts w b l sn i fc fa d):ts.length<=9223372036854775807:=by
 have h1:=h.tok.len;have h2:=h.tok.cap;have h3:=h.tok.big;omega
theorem Rd.now(h:Rd F G ts w b l sn i fc fa d):∃ad,dE l (i:Int) 4 ad/\aE w ad [O ae (tk ts i).k,ah (T (tk ts i).t),O ae (tk ts i).n,O ae (tk ts i).a]:=by
 have hl:=h.tok.len;have bT:=h.lt;obtain⟨ad,x,cs,g1,g2,g3,g4,g5,g6⟩:=h.tok.get (bD i) aG;rw[aU,L0 h.lt]at g2;injection g2 with g2;subst g2;unfold Oy at g6;subst g6;exact⟨ad,g1,g5⟩
theorem Hn(h:Rd F G ts w b l sn i fc fa d):aB au 262 #[ai (some ⟨b,0,none⟩)] w λe w'=>e=aq (tk ts i).v/\aA [] w w':=by
 refine ret (amv _ _ _ ?_);intro k0 w0 hk iJ hO;have h0:=h.only hO;obtain⟨ad,g1,g2⟩:=h0.now;exact⟨l,Blk.eh h0.blk 0 rfl,_,Blk.eh h0.blk 1 rfl,ad,g1,_,_,_,_,g2,λw1 cG=>⟨rfl,hO.new cG hk⟩⟩
theorem Da(h:Rd F G ts w b l sn i fc fa d):aB au 232 #[ai (some ⟨b,0,none⟩)] w λe w'=>e=aq (ao (fc !=0))/\aA [] w w':=by
 refine ret (amw _ _ _ ?_);exact⟨fc,Blk.eh h.blk 2 rfl,rfl,Only.refl _ _⟩
theorem ES(h:Rd F G ts w b l sn i fc fa d)(c:Int):aB au 272 #[ai (some ⟨b,0,none⟩),O ae c] w λe w'=>e=aq (ak #[])/\aA [b] w w'/\
  Rd F G ts w' b l sn i (if fc=0 then c else fc) (if fc=0 then(tk ts i).a else fa) d:=by
 refine ret (amz _ _ _ _ ?_);refine(Da h).mono ?_;rintro _ w0 ⟨rfl,cO⟩;have h0:=h.only cO;refine⟨_,rfl,λhc=>(Hn h0).mono ?_,λhc=>?_⟩
 ·have hc:fc=0:=aai
  subst hc;rintro _ w1 ⟨rfl,cG⟩;have h1:=h0.only cG;refine⟨_,_,_,_,rfl,b,2,_,_,rfl,h1.blk,aac,λw2 dk pF=>⟨rfl,(cO.cr cG).weaken (λ_ h=>aal) |>.trans dk (λx hx=>.inl hx),?_⟩⟩;rw[bc rfl,bc rfl];exact h1.nZ dk pF h.lt
 have hc:fc≠0:=aai
 rw[aY hc,aY hc];exact⟨rfl,cO.weaken λ_ h=>aal,h0⟩
theorem ET(h:Rd F G ts w b l sn i fc fa d):aB au 268 #[ai (some ⟨b,0,none⟩)] w λe w'=>e=aq (ak #[])/\aA [b] w w'/\
  Rd F G ts w' b l sn i (if fc=0 then(iE ts i).1 else fc) (if fc=0 then(iE ts i).2 else fa) d:=by
 refine ret (amC _ _ _ ?_);refine⟨λw'=>aA [b] w w'/\((tk ts i).k=5->Rd F G ts w' b l sn i (if fc=0 then 3 else fc) (if fc=0 then(tk ts i).a else fa) d)/\((tk ts i).k≠5->Rd F G ts w' b l sn i fc fa d),?_,(Hn h).mono ?_⟩
 ·rintro w0 ⟨cO,h1,h2⟩;by_cases hk:(tk ts i).k=5
  ·refine(ES (h1 hk) 4).mono ?_;rintro _ w1 ⟨rfl,cG,hR⟩;refine⟨rfl,rfl,cO.trans cG (λx hx=>.inl hx),?_⟩;unfold iE;rw[bc hk];by_cases hc:fc=0
   ·rw[bc hc,bc hc,aY aN,aY aN]at hR;rw[bc hc,bc hc];exact hR
   rw[aY hc,aY hc,aY hc,aY hc]at hR;rw[aY hc,aY hc];exact hR
  refine(ES (h2 hk) 4).mono ?_;rintro _ w1 ⟨rfl,cG,hR⟩;refine⟨rfl,rfl,cO.trans cG (λx hx=>.inl hx),?_⟩;unfold iE;rw[aY hk];exact hR
 rintro _ w2 ⟨rfl,dk⟩;have h2:=h.only dk;refine⟨_,_,_,_,rfl,λhc=>(ES h2 3).mono ?_,λhc=>⟨dk.weaken λ_ h=>aal,λe=>?_,λ_=>h2⟩⟩
 ·rintro _ w3 ⟨rfl,dz,hR⟩;exact⟨rfl,dk.weaken (λ_ h=>aal) |>.trans dz (λx hx=>.inl hx),λ_=>hR,λe=>absurd aai e⟩
 rw[e]at hc;simp at hc
theorem ahl(h:Rd F G ts w b l sn i fc fa d){H:aL}{s:Sl}{ss:List (aJ)}(hs:aD lD 1 w H s ss):aB au 263 #[ai (some ⟨b,0,none⟩),s.v] w λe w'=>
  e=aq (ao (fc==0&&(tk ts i).k==4&&ss.contains (tk ts i).t))/\aA [] w w':=by
 refine ret (amx _ _ _ _ ?_);refine(Hn h).mono ?_;rintro _ w0 ⟨rfl,cO⟩;refine⟨_,_,_,_,rfl,λk0 w1 hk iJ cG=>⟨λc w'=>c=(fc==0&&(tk ts i).k==4&&ss.contains (tk ts i).t)/\aA [] w w',λc w2 h2=>⟨by rw[h2.1],h2.2⟩,?_⟩⟩;have j9:=cO.cr cG;refine(Da (h.only j9)).mono ?_;rintro _ w3 ⟨rfl,dz⟩;have e:(!(fc !=0))=(fc==0):=by cases h:(fc==0)<;>simp[bne,h]
 refine⟨_,rfl,dz.same aae,λhc=>(tv (SliceF.only dJ aN hs (j9.cr dz) aac) _).mono ?_,λhc=>⟨?_,j9.cr dz⟩⟩
 ·rintro _ w4 ⟨rfl,dK⟩;rw[e]at hc;have hl:=h.lb;have z3:=dz.size;exact⟨_,rfl,dK.same aae,by rw[hc,cT],j9.cr (dz.cr dK)⟩
 rw[e]at hc;rw[hc,eN]
theorem is1(h:Rd F G ts w b l sn i fc fa d)(s:aJ):∃(s0:Sl) (w0:ay),(aw 132 1 #[.mk 0 (ah (T s))]).run au w=.ok s0.v w0/\aA [] w w0/\
  aB au 263 #[ai (some ⟨b,0,none⟩),s0.v] w0 λe w'=>e=aq (ao (fc==0&&sg ts i s))/\aA [] w0 w':=by
 obtain⟨s0,w0,k1,k2,k3⟩:=oy w [s] (n:=1) (parts:=#[(0,ah (T s))]) rfl rfl aN aN;refine⟨s0,w0,k1,k3,(ahl (h.only k3) (wj k2)).mono ?_⟩;rintro _ w1 ⟨rfl,cG⟩;have e:[s].contains (tk ts i).t=decide ((tk ts i).t=s):=by
  by_cases e:(tk ts i).t=s
  ·rw[bJ e,e];simp
  rw[bI e];simp[e]
 refine⟨?_,cG⟩;unfold sg;rw[CS,e]
theorem is2(h:Rd F G ts w b l sn i fc fa d):∃(s0:Sl) (w0:ay),(aw 132 2 #[.mk 0 (ah (ar #[45])),.mk 1 (ah (ar #[33]))]).run au w=.ok s0.v w0/\aA [] w w0/\
  aB au 263 #[ai (some ⟨b,0,none⟩),s0.v] w0 λe w'=>e=aq (ao (fc==0&&(sg ts i [45]||sg ts i [33])))/\aA [] w0 w':=by
 obtain⟨s0,w0,k1,k2,k3⟩:=oy w [[45],[33]] (n:=2) (parts:=#[(0,ah (T [45])),(1,ah (T [33]))]) rfl rfl aN aN;refine⟨s0,w0,k1,k3,(ahl (h.only k3) (wj k2)).mono ?_⟩;rintro _ w1 ⟨rfl,cG⟩;have e:[[45],[33]].contains (tk ts i).t=(decide ((tk ts i).t=[45])||decide ((tk ts i).t=[33])):=by
  rw[bW];simp
 refine⟨?_,cG⟩;unfold sg;rw[CS,<-Bool.and_or_distrib_left,e]
theorem A9(h:Rd F G ts w b l sn i fc fa d)(s:aJ):aB au 266 #[ai (some ⟨b,0,none⟩),ah (T s)] w λe w'=>e=aq (ak #[])/\aA [b] w w'/\
  (if fc==0&&sg ts i s then Rd F G ts w' b l sn (i+1) fc fa d else Rd F G ts w' b l sn i (if fc=0 then(iE ts i).1 else fc) (if fc=0 then(iE ts i).2 else fa) d):=by
 refine ret (amB _ _ _ _ ?_);obtain⟨s0,w0,k1,k2,k3⟩:=is1 h s;refine⟨s0,w0,k1,k3.mono ?_⟩;rintro _ w1 ⟨rfl,cG⟩;have h1:=h.only (k2.cr cG);have j9:aA [b] w w1:=(k2.cr cG).weaken λ_ h=>aal
 refine⟨_,rfl,λhc=>(ET h1).mono ?_,λhc=>?_⟩
 ·rintro _ w2 ⟨rfl,dk,hR⟩;have hc:(fc==0&&sg ts i s)=false:=by rwa[da]at hc
  rw[hc];exact⟨rfl,rfl,j9.trans dk (λx hx=>.inl hx),hR⟩
 have hc:(fc==0&&sg ts i s)=true:=by rwa[I0]at hc
 rw[hc];simp only[aR]at hc;have hn:=h.en.next h.lt (EP hc.2);have hb:=h.big;refine⟨(i:Int),Blk.eh h1.blk 1 rfl,b,1,_,_,rfl,h1.blk,aac,λw3 dz xf=>⟨rfl,j9.trans dz (λx hx=>.inl hx),h1.nZ dz ?_ hn⟩⟩;rw[gx aG aG]at xf;exact xf
theorem L3(h:Rd F G ts w b l sn i fc fa d):aB au 267 #[ai (some ⟨b,0,none⟩)] w λe w'=>aA [b] w w'/\
  (if fc=0/\(tk ts i).k=1 then e=aq (ah (T (tk ts i).t))/\Rd F G ts w' b l sn (i+1) fc fa d else e=aq (ah (T []))/\Rd F G ts w' b l sn i (if fc=0 then(iE ts i).1 else fc) (if fc=0 then(iE ts i).2 else fa) d):=by
 refine(amD ⟨b,0,none⟩ (λv w'=>aA [b] w w'/\(if fc=0/\(tk ts i).k=1 then v=(ah (T (tk ts i).t))/\Rd F G ts w' b l sn (i+1) fc fa d else v=(ah (T []))/\Rd F G ts w' b l sn i (if fc=0 then(iE ts i).1 else fc) (if fc=0 then(iE ts i).2 else fa) d)) w ?_).mono (by
  rintro e w' ⟨v,rfl,hO,hv⟩;refine⟨hO,?_⟩;split at hv
  ·rename_i hc;rw[bc hc];exact⟨by rw[hv.1],hv.2⟩
  rename_i hc;rw[aY hc];exact⟨by rw[hv.1],hv.2⟩)
 refine(Hn h).mono ?_;rintro _ w0 ⟨rfl,cO⟩;refine⟨_,_,_,_,rfl,λk0 w1 hk iJ cG=>?_⟩;have j9:=cO.cr cG;have z0:=cO.size;have hl:=h.lb;refine(Da (h.only j9)).mono ?_;rintro _ w2 ⟨rfl,dk⟩;have z2:=dk.size;have h2:=h.only (j9.cr dk);have pS:aA [b] w w2:=(j9.cr dk).weaken λ_ h=>aal
 refine⟨_,rfl,dk.same aae,λhc=>(ET h2).mono ?_,λhc=>?_⟩
 ·rintro _ w3 ⟨rfl,dz,hR⟩;refine⟨rfl,dz.same aae,pS.trans dz (λx hx=>.inl hx),?_⟩;rw[aY (λhh=>by rw[hh.1,hh.2]at hc;simp at hc)];exact⟨rfl,hR⟩
 have hc:fc=0/\(tk ts i).k=1:=aai
 have hn:=h.en.next h.lt (by rw[hc.2];decide);have hb:=h.big;refine⟨(i:Int),Blk.eh h2.blk 1 rfl,b,1,_,_,rfl,h2.blk,aac,aG,λw3 dz xf=>⟨pS.trans dz (λx hx=>.inl hx),?_⟩⟩;rw[bc hc];refine⟨rfl,h2.nZ dz ?_ hn⟩;rw[gx aG aG]at xf;exact xf
end
theorem JQ(w:ay)(op:Int):aB au 254 #[O ae op] w λe w'=>e=aq (O ae (lN op))/\w'=w:=by
 refine ret (amF _ _ _ ?_);have fin:∀{k:Int} {w1:ay},lN op=k->(Value.int ae k=O ae (lN op)/\w1=w1):=λe=>⟨by rw[e],rfl⟩
 refine⟨λh=>fin ?_,λh=>⟨λb w'=>b=decide (op=1∨op=2)/\w'=w,?_,λh1=>⟨?_,rfl⟩,λh1=>⟨?_,rfl⟩⟩⟩
 ·simp only[aR,bL]at h;unfold lN;rw[bc aG]
 ·rintro _ w1 ⟨rfl,rfl⟩;have h:¬(3<=op/\op<=5):=λhh=>by rw[bJ hh.1,bJ hh.2]at h;cases h
  refine⟨λh1=>fin ?_,λh1=>⟨λh2=>fin ?_,λh2=>⟨λb w2=>b=decide (op=10∨op=11)/\w2=w1,?_,λh3=>⟨?_,rfl⟩,λh3=>⟨?_,rfl⟩⟩⟩⟩
  ·have h1:=aP h1;unfold lN;rw[aY h,bc h1]
  ·have h1:=aX h1;simp only[aR,bL]at h2;unfold lN;rw[aY h,aY h1,bc aG]
  ·rintro _ _ ⟨rfl,rfl⟩;have h1:=aX h1;have h2:¬(6<=op/\op<=9):=λhh=>by rw[bJ hh.1,bJ hh.2]at h2;cases h2
   refine⟨λh3=>fin ?_,λh3=>⟨λh4=>fin ?_,λh4=>⟨λh5=>fin ?_,λh5=>fin ?_⟩⟩⟩
   ·have h3:=aP h3;unfold lN;rw[aY h,aY h1,aY h2,bc h3]
   ·have h3:=aX h3;have h4:op=12:=aea
    unfold lN;rw[aY h,aY h1,aY h2,aY h3,bc h4]
   ·have h3:=aX h3;have h4:¬op=12:=aea
    have h5:op=13:=by simpa using h5
    unfold lN;rw[aY h,aY h1,aY h2,aY h3,aY h4,bc h5]
   have h3:=aX h3;have h4:¬op=12:=aea
   have h5:¬op=13:=by simpa using h5
   unfold lN;rw[aY h,aY h1,aY h2,aY h3,aY h4,aY h5]
  ·have h3:op=10:=by simpa using h3
   rw[h3];rfl
  have h3:¬op=10:=by simpa using h3
  rw[bW];simp[h3]
 ·have h1:op=1:=abB
  rw[h1];rfl
 have h1:¬op=1:=abB
 rw[bW];simp[h1]
section
variable {F G:aL} {ts:List Tk} {w w':ay} {b:Nat} {l sn:Sl} {i:Nat} {fc fa d:Int}
theorem Ba(h:Rd F G ts w b l sn i fc fa d)(k:Int):aB au 249 #[ai (some ⟨b,0,none⟩),O ae k] w λe w'=>e=aq (O ae (if fc=0 then A7 ts k i else 0))/\aA [] w w':=by
 refine ret (amE _ _ _ _ ?_);refine⟨λnv i0 w'=>∃op:Nat,1<=op/\op<=14/\i0=(op:Int)/\nv=14-op/\(if fc=0 then A7 ts k i else 0)=(if fc=0 then xP ts k i (14-op) op else 0)/\aA [] w w',13,⟨1,aN,aN,rfl,rfl,rfl,Only.refl _ _⟩,?_⟩;rintro nv _ w0 ⟨op,h1,h2,rfl,rfl,hV,cO⟩;refine⟨λhc=>?_,λhc=>?_⟩
 ·have hc:(op:Int)<=13:=aP hc;obtain⟨m,hm⟩:∃m,14-op=m+1:=⟨13-op,aG⟩
  rw[hm,xP]at hV;refine⟨λc w'=>c=(decide (lN (op:Int)=k)&&(fc==0&&sg ts i (mf op)))/\aA [] w w',?_,λw2 dk=>(JQ w2 _).mono ?_⟩
  ·rintro _ w1 ⟨rfl,cG⟩;refine⟨λhb=>⟨?_,cG⟩,λhb=>⟨m,aG,op+1,aG,aG,aad,aG,?_,cG⟩⟩
   ·simp only[aR,bL,dq]at hb;rw[hV,bc hb.2.1,bc ⟨hb.1,hb.2.2⟩]
   rw[hV,show 14-(op+1)=m by omega];by_cases h0:fc=0
   ·rw[bc h0,bc h0,aY];rintro⟨e1,e2⟩;rw[bJ e1,e2,h0]at hb;simp at hb
   rw[aY h0,aY h0]
  rintro _ w3 ⟨rfl,rfl⟩;have h3:=h.only (cO.cr dk);refine⟨_,rfl,λhk=>?_,λhk=>?_⟩
  ·have hk:lN (op:Int)=k:=aas
   have hn:=h3.sig.len;have hol:CD.length=16:=rfl;obtain⟨ad,x,cs,g1,g2,g3,g4,g5,g6⟩:=h3.sig.get (i:=(op:Int)) aG aG;unfold lD at g6;subst g6;rw[aU]at g2;have hx:mf op=x:=by unfold mf;rw[g2];rfl
   subst hx;obtain⟨s0,w4,k1,k2,k3⟩:=is1 h3 (mf op);refine⟨sn,Blk.eh h3.blk 5 rfl,ad,g1,_,g5,s0,w4,k1,k3.mono ?_⟩;rintro _ w5 ⟨rfl,eJ⟩;exact⟨_,rfl,by rw[bJ hk,cT],cO.cr (dk.cr (k2.cr eJ))⟩
  have hk:¬lN (op:Int)=k:=aas
  exact⟨by rw[bI hk,eN],cO.cr dk⟩
 have hc:¬(op:Int)<=13:=aX hc;have:op=14:=aG
 subst this;rw[hV];refine⟨?_,cO⟩;split<;>rfl
end
abbrev tB(k n:Int)(s:aJ)(op:Int)(sl:Sl)(a:Int):aK:=[O ae k,O ae n,ah (T s),O ae op,sl.v,O ae a]
inductive RXN (w:ay) (N:aL):Nat->Nat->Ex->aK->Prop
 | leaf (lo hi:Nat) (k n:Int) (s:aJ) (op a:Int):RXN w N lo hi (.mk k n s op [] a) (tB k n s op Sl.nil a)
 | one (lo m g hi:Nat) (k n:Int) (s:aJ) (op a:Int) (x:Ex) (cs:aK):RXN w N lo m x cs->lo<=g->m<=g->g<hi->¬N g->aH w g 131 cs->RXN w N lo hi (.mk k n s op [x] a) (tB k n s op ⟨some ⟨g,0,none⟩,1,1⟩ a)
 | two (lo m m' m2 g hi:Nat) (k n:Int) (s:aJ) (op a:Int) (x y:Ex) (cs ds:aK):RXN w N lo m x cs->m<=m'->RXN w N m' m2 y ds->lo<=m'->m<=g->m'<=g->m2<=g->g<hi->¬N g->aH w g 131 (cs++ds)->RXN w N lo hi (.mk k n s op [x,y] a) (tB k n s op ⟨some ⟨g,0,none⟩,2,2⟩ a)
abbrev RX(w:ay):Nat->Nat->Ex->aK->Prop:=RXN w λ_=>False
section
variable {w w':ay} {N N':aL} {lo hi:Nat} {x:Ex} {cs:aK}
theorem RXN.keep(h:RXN w N lo hi x cs):(∀k,lo<=k->k<hi->¬N k->k<w.heap.size->w'.heap[k]? =w.heap[k]?)->RXN w' N lo hi x cs:=by
 induction h with
 | leaf lo hi k n s op a=>exact λ_=>.leaf ..
 | one lo m g hi k n s op a x cs h1 h2 h3 h4 hn h5 ih=>
  intro hk;exact .one lo m g hi k n s op a x cs (ih λj h6 h7 h8=>hk j h6 aG h8) h2 h3 h4 hn ((hk g h2 h4 hn h5.lt).trans h5)
 | two lo m m' m2 g hi k n s op a x y cs ds h1 h2 h3 h4 h5 h6 h7 h8 hn h9 QA VJ=>
  intro hk;exact .two lo m m' m2 g hi k n s op a x y cs ds (QA λj a1 a2 a3=>hk j a1 aG a3) h2 (VJ λj a1 a2 a3=>hk j aG aG a3) h4 h5 h6 h7 h8 hn ((hk g aG h8 hn h9.lt).trans h9)
theorem RXN.wide(h:RXN w N lo hi x cs):∀{lo' B7:Nat},lo'<=lo->hi<=B7->RXN w N lo' B7 x cs:=by
 induction h with
 | leaf lo hi k n s op a=>exact λ_ _=>.leaf ..
 | one lo m g hi k n s op a x cs h1 h2 h3 h4 hn h5 ih=>
  intro lo' B7 a1 a2;exact .one lo' m g B7 k n s op a x cs (ih a1 (ba _)) aG h3 aG hn h5
 | two lo m m' m2 g hi k n s op a x y cs ds h1 h2 h3 h4 h5 h6 h7 h8 hn h9 QA VJ=>
  intro lo' B7 a1 a2;exact .two lo' m m' m2 g B7 k n s op a x y cs ds (QA a1 (ba _)) h2 h3 aG h5 h6 h7 aG hn h9
theorem RXN.Ua(h:RXN w N lo hi x cs):(∀k,lo<=k->k<hi->¬N k->¬N' k)->RXN w N' lo hi x cs:=by
 induction h with
 | leaf lo hi k n s op a=>exact λ_=>.leaf ..
 | one lo m g hi k n s op a x cs h1 h2 h3 h4 hn h5 ih=>
  intro hk;exact .one lo m g hi k n s op a x cs (ih λj h6 h7=>hk j h6 aG) h2 h3 h4 (hk g h2 h4 hn) h5
 | two lo m m' m2 g hi k n s op a x y cs ds h1 h2 h3 h4 h5 h6 h7 h8 hn h9 QA VJ=>
  intro hk;exact .two lo m m' m2 g hi k n s op a x y cs ds (QA λj a1 a2=>hk j a1 aG) h2 (VJ λj a1 a2=>hk j aG aG) h4 h5 h6 h7 h8 (hk g aG h8 hn) h9
theorem RXN.cells(h:RXN w N lo hi x cs):∃sl:Sl,cs=tB x.k x.n x.s x.op sl x.a/\(sl.n=x.gp.length):=by
 cases h with
 | leaf=>exact⟨_,rfl,rfl⟩
 | one=>exact⟨_,rfl,rfl⟩
 | two=>exact⟨_,rfl,rfl⟩
theorem RXN.only(h:RXN w N lo hi x cs){bs:List Nat}(hO:aA bs w w')(hb:∀k,k∈bs->k<lo∨hi<=k∨N k):RXN w' N lo hi x cs:=
 h.keep λk h1 h2 hn h3=>hO.block k h3 λhm=>by
  rcases hb k hm with e | e | e
  ·omega
  ·omega
  exact hn e
end
theorem R6(w:ay)(vs:List (aK))(hv:∀v,v∈vs->v.length=6)(h0:0<vs.length)(hm:vs.length<=100){parts:Array (Nat×az)}(hp:parts=(((vs.map λv=>Value.agg v.toArray).zipIdx 0).map λx=>(x.2,x.1)).toArray):
  ∃w',(aw 129 vs.length parts).run au w=.ok (Sl.v ⟨some ⟨w.heap.size,0,none⟩,vs.length,vs.length⟩) w'/\aH w' w.heap.size 131 vs.flatten/\aA [] w w':=by
 have hc:((vs.map λv=>Value.agg v.toArray).flatMap λv=>v.cells.toList)=vs.flatten:=by
  clear hv h0 hm hp
  induction vs with
  | nil=>rfl
  | cons v vs ih=>rw[bH,vO,ih,dy];rfl
 have hs:Tryz.t131.size=6:=rfl;have tU:=run_buildSlice (P:=au) w 129 131 vs.length parts ((vs.map λv=>Value.agg v.toArray).flatMap λv=>v.cells.toList).toArray Tryz.t131 _ (by kernel_rfl) (by kernel_rfl) rfl (by rw[hs];omega) (by rw[hs];omega)
  (by
   subst hp;rw[iG,hs];refine Go.Great.fill_whole (s:=6) aN (vs.map λv=>Value.agg v.toArray) _ (λv hm=>?_) ?_
   ·obtain⟨x,hx,rfl⟩:=cQ.1 hm;have:=hv x hx;simpa[Value.cells]using this
   simp)
 rw[hc]at tU;exact⟨_,tU,Blk.alloc w _ _,Only.alloc _ _⟩
def exT(v:az):Prop:=∃(k n:Int) (s:aJ) (op:Int) (sl:Sl) (a:Int),v=aj (tB k n s op sl a).toArray
def pH(F G:aL)(ts:List Tk)(w w':ay)(b:Nat)(l sn:Sl)(d:Nat)(r:Pr)(v:az):Prop:=aA [b] w w'/\match r with
 | .ok (x,j)=>∃cs,v=aj cs.toArray/\RX w' w.heap.size w'.heap.size x cs/\Rd F G ts w' b l sn j 0 0 (d:Int)
 | .error e=>e.1≠0/\exT v/\∃j,Rd F G ts w' b l sn j e.1 e.2 (d:Int)
section
variable {F G:aL} {ts:List Tk} {w w':ay} {b:Nat} {l sn:Sl} {i:Nat} {fc fa d:Int}
theorem iR:(iE ts i).1≠0:=by
 unfold iE;dsimp only;split<;>decide
theorem Ho{d:Nat}(hd:d<=20)(h:Rd F G ts w b l sn i 0 0 (d:Int))(hi:i+1<ts.length){g:Nat}{z1 z2:aK}(hg:∀(x:Array az) (w:ay),(callFunc g x).run au w=.ok (.enter g x) w)(f:OV)(hf:f.v=.func (.func g) z1.toArray z2.toArray){r:Pr}
  (hr:d≠20->∀w1,aA [b] w w1->Rd F G ts w1 b l sn (i+1) 0 0 ((d+1:Nat):Int)->aB au g (z1++z2).toArray w1 λe w'=>∃v,e=aq v/\pH F G ts w1 w' b l sn (d+1) r v):
  aB au 264 #[ai (some ⟨b,0,none⟩),f.v] w λe w'=>∃v,e=aq v/\pH F G ts w w' b l sn d (rS d (tk ts i).a r) v:=by
 refine amy ⟨b,0,none⟩ f (λv w'=>pH F G ts w w' b l sn d (rS d (tk ts i).a r) v) w ?_;intro k0 w0 hk iJ cO;have hb:=h.lb;have h0:=h.only cO;refine⟨(d:Int),Blk.eh h0.blk 4 rfl,λhc=>(ES h0 21).mono ?_,λhc=>?_⟩
 ·have hc:d=20:=by have:(d:Int)=20:=aai;omega
  rintro _ w1 ⟨rfl,cG,hR⟩;rw[bc rfl,bc rfl]at hR;have z1:=cG.size;refine⟨rfl,cG.same aae,λw2 dk=>⟨?_,?_⟩⟩
  ·exact((cO.weaken (bs':=[b]) λ_ h=>aal).trans cG λx hx=>.inl hx).new dk hk
  rw[rS,bc hc];exact⟨(by decide:(21:Int)≠0),⟨0,0,[],0,Sl.nil,0,rfl⟩,i,hR.own dk aae⟩
 have hc:d≠20:=λe=>by subst e;simp at hc
 have Jd:=h.big;refine⟨(i:Int),Blk.eh h0.blk 1 rfl,b,1,_,_,rfl,h0.blk,aac,aG,λw3 dz xf=>?_⟩;rw[gx aG aG]at xf;have h3:Rd F G ts w3 b l sn (i+1) 0 0 (d:Int):=h0.nZ dz xf hi;have z3:=dz.size;refine⟨(d:Int),Blk.eh h3.blk 4 rfl,b,4,_,_,rfl,h3.blk,aac,aG,λw4 dK sS=>?_⟩;rw[gx aG aG]at sS;have h4:Rd F G ts w4 b l sn (i+1) 0 0 ((d+1:Nat):Int):=h3.nZ dK sS hi;have z4:=dK.size;have F0:aA [b] w w4:=((cO.weaken (bs':=[b]) λ_ h=>aal).trans dz λx hx=>.inl hx).trans dK λx hx=>.inl hx;refine⟨g,z1,z2,hf,hg,?_⟩;have e:uB (uB z1 []) z2=z1++z2:=by unfold uB;rw[bQ]
 rw[e];refine(hr hc w4 F0 h4).mono ?_;rintro _ w6 ⟨v,rfl,eH,hd⟩;have z6:=eH.size;rw[rS,aY hc];have hv:∃(k n:Int) (s:aJ) (op:Int) (sl:Sl) (a:Int),v=aj (tB k n s op sl a).toArray:=by
  cases r with
  | error e=>exact hd.2.1
  | ok q=>
   obtain⟨cs,rfl,hx,_⟩:=hd;obtain⟨sl,rfl,_⟩:=hx.cells;exact⟨_,_,_,_,_,_,rfl⟩
 obtain⟨vk,vn,vs,vo,vsl,va,rfl⟩:=hv;refine⟨_,_,_,_,_,_,rfl,eH.same aae,λk8 w7 hk8 Yl fN=>?_⟩;have z7:=fN.size;have key:∀{j:Nat} {fc fa:Int},Rd F G ts w6 b l sn j fc fa ((d+1:Nat):Int)->∃i7:Int,aE w7 (Addr.add ⟨b,0,none⟩ 4) [O ae i7]/\∃k9 pV:Nat,∃z4:aK,∃sE:Nat,(Addr.add ⟨b,0,none⟩ 4)=⟨k9,pV,none⟩/\aH w7 k9 sE z4/\(pV+1)<=z4.length/\k0≠k9/\k8≠k9/\
   ∀w8:ay,aA [k9] w7 w8->aH w8 k9 sE (cz z4 pV [O ae (av ae (i7-1))])->∀w9:ay,aA [k0] w8 w9->aA [b] w w9/\aA [b,k0] w6 w9/\Rd F G ts w9 b l sn j fc fa (d:Int):=fun{j fc fa} h6=>by
  have h7:=h6.only fN;refine⟨((d+1:Nat):Int),Blk.eh h7.blk 4 rfl,b,4,_,_,rfl,h7.blk,aac,aG,aG,λw8 fX ve w9 gH=>?_⟩;have ed:((d+1:Nat):Int)-1=d:=aG
  rw[ed,gx aG aG]at ve;have h8:Rd F G ts w8 b l sn j fc fa (d:Int):=h7.nZ fX ve h7.lt;have aiM:aA [b,k0] w6 w9:=((fN.weaken (bs':=[b,k0]) λ_ h=>aal).trans fX λx hx=>.inl aan).trans gH λx hx=>.inl aan;exact⟨(F0.trans eH λx hx=>.inl hx).trans aiM (λx hx=>by
   simp only[aV,bp,cm]at hx;rcases hx with rfl | rfl
   ·exact .inl aac
   exact .inr hk),aiM,h8.own gH aae⟩
 have hd2:=hd;cases r with
 | error e=>
  obtain⟨h1,h2,j,h3⟩:=hd2;obtain⟨i7,k1,k9,pV,z,sE,k2,k3,k4,k5,k6,k7⟩:=key h3;refine⟨i7,k1,k9,pV,z,sE,k2,k3,k4,k5,k6,λw8 fX ve w9 gH=>?_⟩;obtain⟨a1,a2,a3⟩:=k7 w8 fX ve w9 gH;exact⟨a1,h1,h2,j,a3⟩
 | ok q=>
  obtain⟨x,j⟩:=q;obtain⟨cs,h1,h2,h3⟩:=hd2;obtain⟨i7,k1,k9,pV,z,sE,k2,k3,k4,k5,k6,k7⟩:=key h3;refine⟨i7,k1,k9,pV,z,sE,k2,k3,k4,k5,k6,λw8 fX ve w9 gH=>?_⟩;obtain⟨a1,a2,a3⟩:=k7 w8 fX ve w9 gH;have z9:=a2.size;exact⟨a1,cs,h1,(h2.only a2 λk hk=>.inl (by simp only[aV,bp,cm]at hk;omega)).wide aG z9,a3⟩
end
section
variable {F G:aL} {ts:List Tk} {w w':ay} {b:Nat} {l sn:Sl} {i:Nat} {fc fa d:Int}
theorem pH.B5{w w':ay}{d:Nat}{r:Pr}{v:az}(h:pH F G ts w w' b l sn d r v):exT v:=by
 obtain⟨_,h⟩:=h;cases r with
 | error e=>exact h.2.1
 | ok q=>
  obtain⟨cs,rfl,hx,_⟩:=h;obtain⟨sl,rfl,_⟩:=hx.cells;exact⟨_,_,_,_,_,_,rfl⟩
theorem pH.Ub{w0 w1 w2 w3:ay}{d:Nat}{r:Pr}{v:az}(h:pH F G ts w1 w2 b l sn d r v)(cO:aA [b] w0 w1){bs:List Nat}(dk:aA bs w2 w3)(hb:∀x,x∈bs->b<x/\w0.heap.size<=x/\x<w1.heap.size):pH F G ts w0 w3 b l sn d r v:=by
 obtain⟨hO,h⟩:=h;have z0:=cO.size;have z1:=hO.size;have z2:=dk.size;refine⟨(cO.trans hO λx hx=>.inl hx).trans dk λx hx=>.inr (hb x hx).2.1,?_⟩;cases r with
 | error e=>
  obtain⟨h1,h2,j,h3⟩:=h;exact⟨h1,h2,j,h3.own dk λx hx=>(hb x hx).1⟩
 | ok q=>
  obtain⟨cs,h1,h2,h3⟩:=h;exact⟨cs,h1,(h2.only dk λx hx=>.inl (hb x hx).2.2).wide z0 z2,h3.own dk λx hx=>(hb x hx).1⟩
theorem ahm{d:Nat}{r:Pr}{k0:Nat}(h:Rd F G ts w b l sn i 0 0 (d:Int))(hk:b<k0)(hB:aH w k0 293 [ai (some ⟨b,0,none⟩)])
  (hE:∀w1,aA [] w w1->aB au 231 #[ai (some ⟨b,0,none⟩),O ae 0] w1 λe w'=>∃v,e=aq v/\pH F G ts w1 w' b l sn d r v):
  aB au 265 #[ai (some ⟨k0,0,none⟩)] w λe w'=>∃v,e=aq v/\pH F G ts w w' b l sn d (CE ts r) v:=by
 refine amA ⟨k0,0,none⟩ (λv w'=>pH F G ts w w' b l sn d (CE ts r) v) w ?_;intro k1 w0 kc jO cO;have hb:=h.lb;have sF:aH w0 k0 293 [ai (some ⟨b,0,none⟩)]:=cO.blk hB aac;have KN:=hB.lt;refine⟨_,Blk.eh sF 0 rfl,(hE w0 cO).mono ?_⟩;rintro _ w1 ⟨v,rfl,hd⟩;obtain⟨k,n,s,op,sl,a,rfl⟩:=hd.B5;have z1:=hd.1.size;refine⟨_,_,_,_,_,_,rfl,hd.1.same aae,λk2 w2 vf xh dk=>?_⟩;have z2:=dk.size;have pF:aH w2 k0 293 [ai (some ⟨b,0,none⟩)]:=dk.blk (hd.1.blk sF aae) aac;refine⟨_,Blk.eh pF 0 rfl,_,rfl,?_⟩;obtain⟨cG,hd⟩:=hd;have pS:aA [b] w w2:=((cO.weaken λ_ h=>aal).trans cG λx hx=>.inl hx).cr dk;cases r with
 | error e=>
  obtain⟨h1,h2,j,h3⟩:=hd;have h3:=h3.only dk;refine(A9 h3 [41]).mono ?_;rintro _ w3 ⟨rfl,dz,hR⟩;rw[aY aeP,aY h1,aY h1]at hR;refine⟨rfl,dz.same aae,λw4 dK=>⟨((pS.trans dz λx hx=>.inl hx).new dK kc),h1,⟨_,_,_,_,_,_,rfl⟩,j,hR.own dK aae⟩⟩
 | ok q=>
  obtain⟨x,j⟩:=q;obtain⟨cs,h1,h2,h3⟩:=hd;have h3:=h3.only dk;refine(A9 h3 [41]).mono ?_;rintro _ w3 ⟨rfl,dz,hR⟩;have z3:=dz.size;refine⟨rfl,dz.same aae,λw4 dK=>⟨((pS.trans dz λx hx=>.inl hx).new dK kc),?_⟩⟩;have z4:=dK.size;by_cases hs:sg ts j [41]=true
  ·rw[bc (by simp[hs])]at hR;simp only[CE,hs,zC];exact⟨cs,h1,(((h2.only dk aac).only dz λk hk=>.inl acI).only dK λk hk=>.inl acI).wide aG aG,hR.own dK aae⟩
  rw[aY (by simp[hs]),bc rfl,bc rfl]at hR;simp only[CE,hs,ka];exact⟨iR,⟨_,_,_,_,_,_,rfl⟩,j,hR.own dK aae⟩
theorem abn{f d:Nat}(hd:d<=20)(h:Rd F G ts w b l sn i 0 0 (d:Int))
  (hE:d≠20->∀w i,Rd F G ts w b l sn i 0 0 ((d+1:Nat):Int)->aB au 231 #[ai (some ⟨b,0,none⟩),O ae 0] w λe w'=>∃v,e=aq v/\pH F G ts w w' b l sn (d+1) (gj ts f 0 (d+1) i) v)
  (apg:d≠20->∀w i,Rd F G ts w b l sn i 0 0 ((d+1:Nat):Int)->aB au 248 #[ai (some ⟨b,0,none⟩)] w λe w'=>∃v,e=aq v/\pH F G ts w w' b l sn (d+1) (gj ts f 6 (d+1) i) v):
  aB au 248 #[ai (some ⟨b,0,none⟩)] w λe w'=>∃v,e=aq v/\pH F G ts w w' b l sn d (gj ts (f+1) 6 d i) v:=by
 have eR:gj ts (f+1) 6 d i=ER ts (gj ts f 0 (d+1)) (gj ts f 6 (d+1)) d i:=by rw[gj,bc rfl]
 rw[eR];generalize hgE:gj ts f 0 (d+1)=E0 at*
 generalize hgO:gj ts f 6 (d+1)=O9 at*
 generalize hR:ER ts E0 O9 d i=R;rw[ER]at hR;refine amu ⟨b,0,none⟩ (λv w'=>pH F G ts w w' b l sn d R v) w ?_;intro k0 k1 w0 gU fD kc jO cO;have hb:=h.lb;refine(Hn (h.only cO)).mono ?_;rintro _ w1 ⟨rfl,cG⟩;have z1:=cG.size;have j9:=cO.cr cG;refine⟨_,_,_,_,rfl,cG.same aae,λk2 k3 w2 vf xh zr xi dk=>?_⟩;have z2:=dk.size;have z0:=cO.size;have pS:=j9.cr dk;have h2:=h.only pS;have Jd:=h.big;have sm:∀{u u':ay},w2.heap.size<=u.heap.size->aA [b] u u'->ci [k0,k1,k2,k3] u u':=λhu hO=>hO.same (by intro x hx;simp only[aV,bp,cm]at hx⊢;omega);have sm0:∀{u u':ay},w2.heap.size<=u.heap.size->aA [] u u'->ci [k0,k1,k2,k3] u u':=λhu hO=>hO.same (by intro x hx;simp only[aV,bp,cm]at hx;exact⟨aG,aac⟩);refine⟨λq _ _ _ _ _ _ vk vn vs vo vl va w'=>q=some ⟨b,0,none⟩/\aA [] w w'/\(tk ts i).k≠5/\∃t,vs=T t/\vl=Sl.nil/\R=.ok (.mk vk vn t vo [] va,i+1),?_,?_⟩
 ·rintro _ _ _ _ _ _ _ vk vn _ vo _ va w3 ⟨rfl,dz,gq,t,rfl,rfl,PV⟩;have h3:=h.only dz;have hn:=h.en.next h.lt gq;refine⟨_,rfl,(i:Int),Blk.eh h3.blk 1 rfl,_,rfl,b,1,_,_,rfl,h3.blk,aac,aG,aG,aG,aG,λw4 dK sS w5 eJ=>?_⟩;rw[gx aG aG]at sS;have h4:Rd F G ts w4 b l sn (i+1) 0 0 (d:Int):=h3.nZ dK sS hn;rw[PV];refine⟨((dz.weaken (bs':=[b]) λ_ h=>aal).trans dK λx hx=>.inl hx).new eJ aG,_,rfl,.leaf ..,h4.own eJ aae⟩
 refine(Da h2).mono ?_;rintro _ w6 ⟨rfl,eH⟩;have z6:=eH.size;have h6:=h2.only eH;refine⟨_,rfl,sm0 aG eH,λhc=>(by simp at hc),λ_=>?_⟩;obtain⟨s8,w8,k8,fX,hc8⟩:=is2 h6;have z8:=fX.size;refine⟨s8,w8,k8,sm0 aG fX,hc8.mono ?_⟩;rintro _ w9 ⟨rfl,gH⟩;have z9:=gH.size;have tX:=eH.cr (fX.cr gH);have h9:=h2.only tX;rw[show((0:Int)==0)=true from rfl,cT];have ada:=pS.cr tX;refine⟨_,rfl,sm0 aG gH,λhc dL dW=>?_,λhc=>?_⟩
 ·rw[bc hc]at hR;have gq:(tk ts i).k≠5:=by
   rcases bU _ _▸hc with e | e<;>exact EP e
  have hn:=h.en.next h.lt gq;have key:∀op:Int,op=(if(tk ts i).t=[33]then 15 else 14)->∀dN,aA [] w dN->w2.heap.size<=dN.heap.size->_:=λop F1 dN dX adb=>Ho hd (h.only dX) hn (g:=248) (z1:=[ai (some ⟨b,0,none⟩)]) (z2:=[]) (eU (by kernel_rfl)) ⟨.func (.func 248) #[ai (some ⟨b,0,none⟩)] #[],rfl⟩ rfl (r:=O9 (i+1)) λade w1 _ h1=>apg ade w1 (i+1) h1;refine⟨λk n s op sl a w'=>k=4/\n=0/\s=T []/\op=(if(tk ts i).t=[33]then 15 else 14)/\sl=Sl.nil/\a=(tk ts i).a/\aA [] w w'/\w2.heap.size<=w'.heap.size,?_,?_,?_⟩
  ·rintro _ _ _ _ _ _ dN ⟨rfl,rfl,rfl,F1,rfl,rfl,dX,adb⟩;refine(key _ F1 dN dX adb).mono ?_;rintro _ eT ⟨v,rfl,hD⟩;obtain⟨vk,vn,vs,vo,vl,va,rfl⟩:=hD.B5;have z12:=hD.1.size;obtain⟨fI,yu,Cf,ez⟩:=R6 eT [tB vk vn vs vo vl va] aac aac aac (parts:=#[(0,aj (tB vk vn vs vo vl va).toArray)]) rfl;refine⟨_,_,_,_,_,_,rfl,sm adb hD.1,⟨some ⟨eT.heap.size,0,none⟩,1,1⟩,fI,yu,sm0 aG ez,λfS ey=>?_⟩;have VK:=ez.size;have z14:=ey.size;have hOf:aA [b] w fS:=(((dX.weaken (bs':=[b]) λ_ h=>aal).trans hD.1 λx hx=>.inl hx).cr ez).trans ey λx hx=>.inr aam;have hob:∀x,x∈[k1,k3]->b<x:=aae
   have hoo:∀x,x∈[k1,k3]->x<dN.heap.size:=aae
   refine⟨hOf,?_⟩;obtain⟨_,hD⟩:=hD;rw[<-hR];cases hN:rS d (tk ts i).a (O9 (i+1))with
   | error e=>
    rw[hN]at hD;obtain⟨a1,a2,j,a3⟩:=hD;exact⟨a1,⟨_,_,_,_,_,_,rfl⟩,j,(a3.only ez).own ey hob⟩
   | ok q=>
    obtain⟨x,j⟩:=q;rw[hN]at hD;obtain⟨cs,a1,a2,a3⟩:=hD;refine⟨_,rfl,?_,(a3.only ez).own ey hob⟩;have oP:(tB vk vn vs vo vl va)=cs:=bm Array.toList (Value.agg.inj a1);rw[F1];have api:RX fS dN.heap.size eT.heap.size x cs:=(a2.only ez aac).only ey λk hk=>.inl (hoo k hk);have IQ:aH fS eT.heap.size 131 cs:=by
     have:=ey.blk Cf λhm=>by have:=hoo _ hm;omega
     rw[dy,List.flatten_nil,bQ]at this;rw[<-oP];exact this
    exact .one w.heap.size eT.heap.size eT.heap.size _ _ _ _ _ _ x cs (api.wide aG (ba _)) aG (ba _) (by have:=Cf.lt;omega) id IQ
  ·rw[show(ar #[33])=T [33]from rfl,mM];intro he ia iY;have he:=aP he;exact⟨rfl,rfl,rfl,by rw[bc he],rfl,rfl,(ada.new dW aG).new iY aG,by have:=iY.size;have:=dW.size;omega⟩
  rw[show(ar #[33])=T [33]from rfl,mM];intro he;have he:=aX he;exact⟨rfl,rfl,rfl,by rw[aY he],rfl,rfl,ada.new dW aG,by have:=dW.size;omega⟩
 rw[aY (by rw[hc];decide)]at hR;obtain⟨Z7,io,DZ,ic,apj⟩:=is1 h9 [40];have z16:=ic.size;refine⟨Z7,io,DZ,sm0 aG ic,apj.mono ?_⟩;rintro _ gn ⟨rfl,iZ⟩;have z17:=iZ.size;have NV:=ada.cr (ic.cr iZ);have QB:=h.only NV;have KO:aA [b] w gn:=NV.weaken λ_ h=>aal
 rw[show((0:Int)==0)=true from rfl,cT];refine⟨_,rfl,sm0 aG iZ,λhp hB _ _ _=>?_,λhp=>?_⟩
 ·rw[bc hp]at hR;have hn:=h.en.next h.lt (EP hp);subst hR;refine(Ho hd QB hn (g:=265) (z1:=[]) (z2:=[ai (some ⟨k0,0,none⟩)]) (eU (by kernel_rfl)) ⟨.func (.func 265) #[] #[ai (some ⟨k0,0,none⟩)],rfl⟩ rfl (r:=CE ts (E0 (i+1))) λade w1 cG h1=>ahm h1 aG (cG.blk hB aae) λw1' adf=>hE ade w1' (i+1) (h1.only adf)).mono ?_;rintro _ jC ⟨v,rfl,hD⟩;obtain⟨vk,vn,vs,vo,vl,va,rfl⟩:=hD.B5;have z18:=hD.1.size;refine⟨_,_,_,_,_,_,rfl,hD.1.same aae,_,hD.1.blk hB aae,λj8 kj _=>?_⟩;exact hD.Ub KO kj aae
 rw[aY (by rw[hp];decide)]at hR;have hp':(tk ts i).k≠5->i+1<ts.length:=h.en.next h.lt;refine⟨λhi jM nu _ _ _ _ _ gq=>⟨λk=>k=k2,rfl,λe=>gq e.symm,λe=>gq e.symm,λlQ kU=>?_⟩,λhi=>⟨λhv pR PW _ _ _ _ _ gq=>⟨λk=>k=k2,rfl,λe=>gq e.symm,λe=>gq e.symm,λpE lJ=>?_⟩,λhv=>⟨λhw=>?_,λhw=>?_⟩⟩⟩
 ·have hi:(tk ts i).k=3:=acR
  rw[bc hi]at hR;exact⟨rfl,(NV.cr nu).new kU aG,by rw[hi];decide,[],rfl,rfl,hR.symm⟩
 ·have hi:¬(tk ts i).k=3:=acR
  have hv:(tk ts i).k=1:=aeC
  rw[aY hi,bc hv]at hR;exact⟨rfl,(NV.cr PW).new lJ aG,by rw[hv];decide,_,rfl,rfl,hR.symm⟩
 ·have hi:¬(tk ts i).k=3:=acR
  have hv:¬(tk ts i).k=1:=aeC
  rw[show(ar #[105,110])=T [105,110]from rfl,mM]at hw;have hw:(tk ts i).k=2/\(tk ts i).t=[105,110]:=by simpa using hw
  rw[aY hi,aY hv,bc hw]at hR;have hn:=hp' (by rw[hw.1];decide);refine⟨(i:Int),Blk.eh QB.blk 1 rfl,b,1,_,_,rfl,QB.blk,aac,aG,aG,aG,aG,λoQ yw aiO=>?_⟩;rw[gx aG aG]at aiO;have h24:Rd F G ts oQ b l sn (i+1) 0 0 (d:Int):=QB.nZ yw aiO hn;have z24:=yw.size;refine(A9 h24 [40]).mono ?_;rintro _ ob ⟨rfl,xj,Ym⟩;have z25:=xj.size;refine⟨rfl,sm aG xj,?_⟩;have aaf:aA [b] w ob:=(KO.trans yw λx hx=>.inl hx).trans xj λx hx=>.inl hx;have bad:∀{j:Nat} {c a:Int},Rd F G ts ob b l sn j c a (d:Int)->c≠0->aB au 267 #[ai (some ⟨b,0,none⟩)] ob λe w'=>e=aq (ah (T []))/\aA [b] ob w'/\Rd F G ts w' b l sn j c a (d:Int):=fun{j c a} Yn hc=>by
   refine(L3 Yn).mono ?_;rintro e rY ⟨jU,hh⟩;rw[aY (λhh=>hc hh.1),aY hc,aY hc]at hh;exact⟨hh.1,jU,hh.2⟩
  have aiQ:∀{rY vM:ay} {j:Nat} {c a:Int},aA [b] ob rY->aA [k3] rY vM->Rd F G ts rY b l sn j c a (d:Int)->c≠0->R=.error (c,a)->∀s6:aM,aB au 266 #[ai (some (Addr.add ⟨b,0,none⟩ 0)),ah (ar #[41])] vM λe8 B8=>e8=(aq (ak #[]))/\ci [k0,k1,k2,k3] vM B8/\∀CL:ay,aA [k1] B8 CL->pH F G ts w CL b l sn d R (aj #[O ae 3,O ae 0,ah s6,O ae 0,Sl.nil.v,O ae (tk ts i).a]):=fun{rY vM j c a} jU tY h26 hc PV s6=>by
   have z26:=jU.size;have z27:=tY.size;refine(A9 (h26.own tY aae) [41]).mono ?_;rintro _ B8 ⟨rfl,yx,KP⟩;rw[aY (by simp[hc]),aY hc,aY hc]at KP;refine⟨rfl,sm aG yx,λCL tX=>?_⟩;rw[PV];refine⟨((((aaf.trans jU λx hx=>.inl hx).new tY aG).trans yx λx hx=>.inl hx).new tX aG),hc,⟨3,0,s6.data.toList,0,Sl.nil,_,by unfold tB;rw[<-Ar]⟩,j,KP.own tX aae⟩
  by_cases h1:sg ts (i+1) [40]=true
  ·rw[bc aeP]at Ym;rw[Wy,bc h1]at hR;refine(L3 Ym).mono ?_;rintro _ rY ⟨jU,hh⟩;have z26:=jU.size;by_cases h2:(tk ts (i+2)).k=1
   ·rw[bc ⟨rfl,h2⟩]at hh;obtain⟨rfl,UB⟩:=hh;rw[bc h2]at hR;refine⟨_,rfl,sm aG jU,λvM tY=>?_⟩;have z27:=tY.size;have h27:=UB.own tY aae;refine(A9 h27 [41]).mono ?_;rintro _ B8 ⟨rfl,yx,KP⟩;refine⟨rfl,sm aG yx,λCL tX=>?_⟩;have hOf:aA [b] w CL:=(((aaf.trans jU λx hx=>.inl hx).new tY aG).trans yx λx hx=>.inl hx).new tX aG;refine⟨hOf,?_⟩;by_cases h3:sg ts (i+3) [41]=true
    ·rw[bc (by simp[h3])]at KP;rw[bc h3]at hR;rw[<-hR];exact⟨_,rfl,.leaf ..,KP.own tX aae⟩
    rw[aY (by simp[h3]),bc rfl,bc rfl]at KP;rw[aY h3]at hR;rw[<-hR];exact⟨iR,⟨_,_,_,_,_,_,rfl⟩,_,KP.own tX aae⟩
   rw[aY (λhh=>h2 hh.2),bc rfl,bc rfl]at hh;obtain⟨rfl,UB⟩:=hh;rw[aY h2]at hR;exact⟨_,rfl,sm aG jU,λvM tY=>aiQ jU tY UB iR hR.symm _⟩
  rw[aY aeP,bc rfl,bc rfl]at Ym;rw[Wy,aY h1]at hR;refine(bad Ym iR).mono ?_;rintro _ rY ⟨rfl,jU,UB⟩;exact⟨_,rfl,sm aG jU,λvM tY=>aiQ jU tY UB iR hR.symm _⟩
 have hi:¬(tk ts i).k=3:=acR
 have hv:¬(tk ts i).k=1:=aeC
 rw[show(ar #[105,110])=T [105,110]from rfl,mM]at hw;rw[aY hi,aY hv,aY (λhh=>by rw[hh.1,hh.2]at hw;simp at hw)]at hR;refine(ET QB).mono ?_;rintro _ Qy ⟨rfl,aiT,aiU⟩;rw[bc rfl,bc rfl]at aiU;refine⟨rfl,sm aG aiT,λVG UC=>⟨(KO.trans aiT λx hx=>.inl hx).new UC aG,?_⟩⟩;rw[<-hR];exact⟨iR,⟨0,0,[],0,Sl.nil,_,rfl⟩,i,aiU.own UC aae⟩
end
section
variable {F G:aL} {ts:List Tk} {w w':ay} {b:Nat} {l sn:Sl} {i:Nat} {fc fa d:Int}
theorem OC{E}{k}{g}{x}{j}(h:A7 ts k j=0):nK ts E k g x j=.ok (x,j):=by
 cases g with
 | zero=>rfl
 | succ g=>rw[nK,bc h]
def At5(F G:aL)(ts:List Tk)(w:ay)(b:Nat)(l sn:Sl)(d:Nat)(N:aL)(E:Nat->Pr)(k:Int)(R:Pr)(nv:Nat)(op:Int)(cs:aK)(w':ay):Prop:=aA [b] w w'/\
 ((∃(c a:Int) (j:Nat),op=0/\c≠0/\R=.error (c,a)/\Rd F G ts w' b l sn j c a d)∨
  (∃(x:Ex) (j:Nat),op=A7 ts k j/\RXN w' N w.heap.size w'.heap.size x cs/\Rd F G ts w' b l sn j 0 0 d/\R=nK ts E k nv x j/\ts.length-j<=nv))
theorem OD{f k d:Nat}(hk6:k<6)(h:Rd F G ts w b l sn i 0 0 (d:Int))
  (hE:∀w i,Rd F G ts w b l sn i 0 0 (d:Int)->aB au 231 #[ai (some ⟨b,0,none⟩),O ae ((k+1:Nat):Int)] w λe w'=>∃v,e=aq v/\pH F G ts w w' b l sn d (gj ts f (k+1) d i) v):
  aB au 231 #[ai (some ⟨b,0,none⟩),O ae (k:Int)] w λe w'=>∃v,e=aq v/\pH F G ts w w' b l sn d (gj ts (f+1) k d i) v:=by
 have eR:gj ts (f+1) k d i=OA (gj ts f (k+1) d i) λx j=>nK ts (gj ts f (k+1) d) (k:Int) (ts.length-j) x j:=by rw[gj,aY aG]
 rw[eR];have aiV:∀i x j,gj ts f (k+1) d i=.ok (x,j)->i<j:=λi x j h=>mg f _ _ i h;generalize hgE:gj ts f (k+1) d=E at*
 generalize hR:(OA (E i) λx j=>nK ts E (k:Int) _ x j)=R;refine agG _ _ _ w ?_;have ek:av ae ((k:Int)+1)=((k+1:Nat):Int):=aad
 refine⟨λhc=>absurd aai (by omega:¬(k:Int)=6),λ_ k1 w3 kc jO dz=>?_⟩;have hb:=h.lb;rw[ek];refine(hE w3 i (h.only dz)).mono ?_;rintro _ w4 ⟨v,rfl,hD⟩;obtain⟨vk,vn,vs,vo,vl,va,rfl⟩:=hD.B5;have z3:=dz.size;have z4:=hD.1.size;refine⟨_,_,_,_,_,_,rfl,hD.1.same aae,λk2 w5 vf xh eJ=>?_⟩;have adg:=((dz.weaken (bs':=[b]) λ_ h=>aal).trans hD.1 λx hx=>.inl hx).cr eJ;have sm:∀{u u':ay},w5.heap.size<=u.heap.size->aA [b] u u'->ci [k1,k2] u u':=λhu hO=>hO.same (by intro x hx;simp at hx⊢;omega);have Jd:=h.big;have lH:∃(j:Nat) (c a:Int),Rd F G ts w4 b l sn j c a (d:Int)/\∀w6,aA [] w4 w6->∃nv,At5 F G ts w b l sn d (λq=>q=k1∨q=k2) E (k:Int) R nv (if c=0 then A7 ts (k:Int) j else 0) (tB vk vn vs vo vl va) w6:=by
  obtain⟨dK,Yo⟩:=hD;have F0:=(dz.weaken (bs':=[b]) λ_ h=>aal).trans dK λx hx=>.inl hx;cases PA:E i with
  | error e=>
   rw[PA]at Yo hR;obtain⟨c,a⟩:=e;obtain⟨a1,a2,j,a3⟩:=Yo;exact⟨j,c,a,a3,λw6 eH=>⟨0,F0.cr eH,.inl ⟨c,a,j,aY a1,a1,hR.symm,a3.only eH⟩⟩⟩
  | ok q=>
   obtain⟨x,j⟩:=q;rw[PA]at Yo hR;obtain⟨cs,a1,a2,a3⟩:=Yo;have oP:(tB vk vn vs vo vl va)=cs:=bm Array.toList (Value.agg.inj a1);rw[oP];exact⟨j,0,0,a3,λw6 eH=>⟨ts.length-j,F0.cr eH,.inr ⟨x,j,bc rfl,((a2.only eH aac).Ua λq h1 h2 _=>aG).wide z3 eH.size,a3.only eH,hR.symm,ba _⟩⟩⟩
 obtain⟨j0,c0,a0,hR4,lH⟩:=lH;refine(Ba (hR4.only eJ) (k:Int)).mono ?_;rintro _ w6 ⟨rfl,eH⟩;have z6:=eH.size;obtain⟨nv0,hA0⟩:=lH w6 (eJ.cr eH);refine⟨_,rfl,eH.same aae,λnv op i10 i11 s2 i12 l2 i13 w'=>w5.heap.size<=w'.heap.size/\At5 F G ts w b l sn d _ E (k:Int) R nv op [O ae i10,O ae i11,ah s2,O ae i12,l2.v,O ae i13] w',nv0,⟨z6,hA0⟩,?_⟩;rintro nv op i10 i11 s2 i12 l2 i13 w7 ⟨z7,fN,hA⟩;refine⟨λF1=>?_,λF1 fS ey=>?_⟩
 ·have F1:op≠0:=by simpa using F1
  rcases hA with⟨_,_,_,e,_⟩ | ⟨x,j,rfl,hX,Uo,PV,hnv⟩
  ·exact absurd e F1
  have hn:=Uo.en.next Uo.lt (xQ _ _ F1);obtain⟨g,rfl⟩:∃g,nv=g+1:=⟨nv-1,aG⟩
  rw[nK,aY F1]at PV;refine⟨(j:Int),Blk.eh Uo.blk 1 rfl,b,1,_,_,rfl,Uo.blk,aac,aG,aG,λw8 fX ve=>?_⟩;rw[gx aG aG]at ve;have h8:=Uo.nZ fX ve hn;have z8:=fX.size;refine(hE w8 (j+1) h8).mono ?_;rintro _ w9 ⟨v,rfl,hD9⟩;obtain⟨yk,yn,ys,yo,yl,ya,rfl⟩:=hD9.B5;have z9:=hD9.1.size;refine⟨_,_,_,_,_,_,rfl,sm aG hD9.1,λk8 dL hk8 Yl dW=>?_⟩;have PM:=dW.size;obtain⟨dN,sE,IR,dX⟩:=R6 dL [[O ae i10,O ae i11,ah s2,O ae i12,l2.v,O ae i13],tB yk yn ys yo yl ya] aac aac aac (parts:=#[_,_]) rfl;have D1:=dX.size;refine⟨⟨some _,2,2⟩,dN,sE,dX.same aae,λeT fk=>?_⟩;have z12:=fk.size;have aag:aA [b] w eT:=((((fN.trans fX λx hx=>.inl hx).trans hD9.1 λx hx=>.inl hx).cr dW).cr dX).new fk aG;have IT:aA [k2] w9 eT:=((dW.cr dX).weaken (bs':=[k2]) λ_ h=>aal).trans fk λx hx=>.inl hx;have adh:∃(j':Nat) (c a:Int),Rd F G ts w9 b l sn j' c a (d:Int)/\∀fI,aA [] eT fI->∃nv,nv<g+1/\At5 F G ts w b l sn d (λq=>q=k1∨q=k2) E (k:Int) R nv (if c=0 then A7 ts (k:Int) j' else 0) (tB 5 0 [] (A7 ts (k:Int) j) ⟨some ⟨dL.heap.size,0,none⟩,2,2⟩ i13) fI:=by
   obtain⟨gH,Yo⟩:=hD9;cases PA:E (j+1)with
   | error e=>
    rw[PA]at Yo PV;obtain⟨c,a⟩:=e;obtain⟨a1,a2,j',a3⟩:=Yo;exact⟨j',c,a,a3,λfI ez=>⟨0,aG,aag.cr ez,.inl ⟨c,a,j',aY a1,a1,PV,(a3.own IT aae).only ez⟩⟩⟩
   | ok q=>
    obtain⟨y,j'⟩:=q;rw[PA]at Yo PV;obtain⟨cs,a1,a2,a3⟩:=Yo;have oP:_=cs:=bm Array.toList (Value.agg.inj a1);have hjj:=aiV _ _ _ PA;obtain⟨xl,Gs,_⟩:=hX.cells;have hxa:=by
     simp only[tB,sK,Value.int.injEq]at Gs;exact Gs.2.2.2.2.2.1.2
    refine⟨j',0,0,a3,λfI ez=>⟨g,aG,aag.cr ez,.inr ⟨.mk 5 0 [] (A7 ts (k:Int) j) [x,y] x.a,j',bc rfl,?_,(a3.own IT aae).only ez,PV,?_⟩⟩⟩
    ·have aiX:=(((((fX.weaken (bs':=[b,k2]) λx hx=>.inl aan).trans gH λx hx=>.inl aan).trans IT λx hx=>.inl aan).cr ez))
     have aiY:=IT.cr ez;have Cf:aH fI dL.heap.size 131 ([O ae i10,O ae i11,ah s2,O ae i12,l2.v,O ae i13]++cs):=by
      have:=ez.blk (fk.blk IR aae) aac;rw[<-oP];simpa using this
     have apl:RXN fI (λq=>q=k1∨q=k2) w.heap.size w7.heap.size x [O ae i10,O ae i11,ah s2,O ae i12,l2.v,O ae i13]:=by
      exact hX.only aiX λq hq=>by
       simp only[aV,bp,cm]at hq;rcases hq with rfl | rfl
       ·exact .inl hb
       exact .inr (.inr (.inr rfl))
     have apm:RXN fI (λq=>q=k1∨q=k2) w8.heap.size w9.heap.size y cs:=(a2.only aiY λq hq=>.inl (by simp only[aO]at hq;omega)).Ua λq h1 h2 _=>aG
     rw[hxa];exact .two w.heap.size w7.heap.size w8.heap.size w9.heap.size dL.heap.size _ _ _ _ _ _ x y _ cs apl z8 apm aG aG aG aG (by have:=Cf.lt;omega) aG Cf
    omega
  obtain⟨j',c',a',hR9,adh⟩:=adh;refine(Ba (hR9.own IT aae) (k:Int)).mono ?_;rintro _ fI ⟨rfl,ez⟩;obtain⟨nv',apn,UD⟩:=adh fI ez;exact⟨_,rfl,ez.same aae,nv',apn,by have:=ez.size;omega,UD⟩
 have F1:op=0:=by simpa using F1
 refine⟨fN.new ey aG,?_⟩;rcases hA with⟨c,a,j,_,hc,PV,Uo⟩ | ⟨x,j,ZT,hX,Uo,PV,hnv⟩
 ·rw[PV];exact⟨hc,⟨i10,i11,s2.data.toList,i12,l2,i13,rfl⟩,j,Uo.own ey aae⟩
 rw[PV,OC (by rw[<-ZT,F1])];exact⟨_,rfl,((hX.only ey λq hq=>.inr (.inr (.inl (by simpa using hq)))).Ua λ_ _ _ _ h=>h).wide (ba _) ey.size,Uo.own ey aae⟩
theorem Hp : ∀ f, (∀ k d i w, k <= 6 -> d <= 20 -> lG k d <= f -> Rd F G ts w b l sn i 0 0 d ->
      aB au 231 #[ai (some ⟨b, 0, none⟩), O ae k] w λe w' => ∃ v, e = aq v /\ pH F G ts w w' b l sn d (gj ts f k d i) v) /\
    (∀ d i w, d <= 20 -> lG 6 d <= f -> Rd F G ts w b l sn i 0 0 d ->
      aB au 248 #[ai (some ⟨b, 0, none⟩)] w λe w' => ∃ v, e = aq v /\ pH F G ts w w' b l sn d (gj ts f 6 d i) v)
  | 0 => ⟨λk d i w hk hd hn => by unfold lG at hn; omega, λd i w hd hn => by unfold lG at hn; omega⟩
  | f + 1 => by
    obtain ⟨QA, VJ⟩ := Hp f
    have one : ∀ (d i) w, d <= 20 -> lG 6 d <= f + 1 -> Rd F G ts w b l sn i 0 0 d ->
      aB au 248 #[ai _] w λe w' => ∃ v, e = aq v /\ pH F G ts w w' b l sn d _ v := λd i w hd hn h => by
      unfold lG at hn
      exact abn hd h (λh20 w i h => QA 0 _ i w aG aG (by unfold lG; omega) h) (λh20 w i h => VJ _ i w aG (by unfold lG; omega) h)
    refine ⟨λk d i w hk hd hn h => ?_, one⟩
    by_cases h6 : k = 6
    · subst h6
      refine agG _ _ _ w ?_
      refine ⟨λ_ k0 w0 gU fD cO => ?_, λhc => absurd hc aN⟩
      refine (one d i w0 hd hn (h.only cO)).mono ?_
      rintro _ w1 ⟨v, rfl, hD⟩
      obtain ⟨vk, vn, vs, vo, vl, va, rfl⟩ := hD.B5
      have hb := h.lb
      exact ⟨_, _, _, _, _, _, rfl, hD.1.same (by simp; omega), λw2 dk => hD.Ub (cO.weaken λ_ h => aal) dk (by simp; omega)⟩
    · unfold lG at hn
      exact OD aG h λw i h => QA _ d i w aG hd (by unfold lG; omega) h
end
end Go.Proofs.YtpbgcbdclnfpnaaGreatDoor.Con
