import Derived.Test.YtmhoiicofhlgbaaGreatDoorQw3
set_option linter.unusedSectionVars false
namespace Go.Proofs.YtmhoiicofhlgbaaGreatDoor.Vc
open Go.Value renaming int->O,string->ab,pointer->ae,agg->ah,tuple->ai,bool->aj
open Go.IntKind renaming i64->U,wrap->ar
open Go.Ending renaming returned->ak
open _root_.ByteArray renaming mk->ao
open _root_.Go.Proofs.Tryz renaming prog->aq
open Go.Instr renaming buildSlice->au
open Go renaming World->av,Value->aw,Calls->az
open Go.Kt renaming Only->ay
open Go Go.RowKit Go.Kt Go.Kt.V
set_option linter.unusedVariables false
set_option maxRecDepth 100000
set_option maxHeartbeats 40000000
def aaZ (s:asw) (R:aA) (w:av):Prop:=
 (((s.toList==((ao #[]).toList))||(decide ((s.size:Int)>24)))=true->R (aj false) w)/\
 (((s.toList==((ao #[]).toList))||(decide ((s.size:Int)>24)))=false->∃c0:UInt8,((0:Int)<=0/\
  s[0]? =(some c0))/\
 az aq 160 #[.int .u8 (UInt8.toNat c0:Int)] w fun e0 w0=>∃b0:Bool,e0=(ak (aj b0))/\
  az aq 161 #[ab s] w0 fun e1 w1=>∃b1:Bool,e1=(ak (aj b1))/\
   ∃J0:Bool->av->Prop,(∀b2:Bool,∀w2:av,J0 b2 w2->R (aj b2) w2)/\
   ((b0&&(!b1))=true->az aq 162 #[ab s,O U 0] w1 fun e2 w3=>∃i0:Int,e2=(ak (O U i0))/\
    J0 (i0==(s.size:Int)) w3)/\
   ((b0&&(!b1))=false->J0 false w1))
theorem agU (s:asw) (R:aA) (w:av) (h:aaZ s R w):Cr 94 #[ab s] w R:=
 fB (an:=.s .o (.s (.s .o (.s (.s .o .o) .o)) (.s .o (.s .o (.s (.j [] [.s 2 .bool] .o .o) .o))))) (args:=[.str s]) h
def aa0 (s:asw) (R:aA) (w:av):Prop:=
 az aq 219 #[] w fun e0 w0=>∃l0:Sl,e0=(ak l0.v)/\
  ∃J0:Nat->Int->av->Prop,∃k0:Nat,J0 k0 0 w0/\
  ∀k1:Nat,∀i0:Int,∀w1:av,J0 k1 i0 w1->((decide (i0<(l0.n:Int)))=true->∃p0:Addr,ck l0 i0 1 p0/\
   ∃s0:asw,Cells w1 p0 [ab s0]/\
   ((s0.toList==s.toList)=true->R (aj true) w1)/\
   ((s0.toList==s.toList)=false->∃k2:Nat,k2<k1/\
   J0 k2 (ar U (i0+1)) w1))/\
  ((decide (i0<(l0.n:Int)))=false->R (aj false) w1)
theorem agV (s:asw) (R:aA) (w:av) (h:aa0 s R w):Cr 161 #[ab s] w R:=
 fB (an:=.s .o (.s .o (.s (.s .o (.j [0,3] [.s 4 (.int .i64)] (.s (.s .o (.s .o .o)) (.s (.s .o (.s (.s .o .o) .o)) .o)) .o)) (.s .o .o)))) (args:=[.str s]) h
def aa1 (R:aA) (w:av):Prop:=
 ∃l0:Sl,∃w0:av,((au 52 16 #[.mk 0 (ab (ao #[97,102,116,101,114])),.mk 1 (ab (ao #[97,108,119,97,121,115])),.mk 2 (ab (ao #[99,104,97,114,116])),.mk 3 (ab (ao #[100,101,101,112])),.mk 4 (ab (ao #[101,109,105,116])),.mk 5 (ab (ao #[101,110,116,101,114])),.mk 6 (ab (ao #[104,105,115,116,111,114,121])),.mk 7 (ab (ao #[105,110])),.mk 8 (ab (ao #[105,110,105,116,105,97,108])),.mk 9 (ab (ao #[108,101,97,118,101])),.mk 10 (ab (ao #[111,110])),.mk 11 (ab (ao #[112,97,114,97,108,108,101,108])),.mk 12 (ab (ao #[114,97,105,115,101])),.mk 13 (ab (ao #[115,101,116])),.mk 14 (ab (ao #[115,116,97,116,101])),.mk 15 (ab (ao #[118,97,114]))]).run aq w)=(.ok l0.v w0)/\
 R l0.v w0
theorem agW (R:aA) (w:av) (h:aa1 R w):Cr 219 #[] w R:=
 fB (an:=.s .o (.s .o .o)) (args:=[]) h
def aa2 (s:asw) (at_:Int) (R:aA) (w:av):Prop:=
 ∃J0:Int->av->Prop,(∀i0:Int,∀w0:av,J0 i0 w0->R (O U i0) w0)/\
 ∃J1:Nat->Int->av->Prop,∃k0:Nat,J1 k0 0 w/\
 ∀k1:Nat,∀i1:Int,∀w1:av,J1 k1 i1 w1->((decide ((ar U (at_+i1))<(s.size:Int)))=true->∃c0:UInt8,(0<=(ar U (at_+i1))/\
   (s[Int.toNat (ar U (at_+i1))]?)=(some c0))/\
  az aq 160 #[.int .u8 (UInt8.toNat c0:Int)] w1 fun e0 w2=>∃b0:Bool,e0=(ak (aj b0))/\
   ∃c1:UInt8,(0<=(ar U (at_+i1))/\
    (s[Int.toNat (ar U (at_+i1))]?)=(some c1))/\
   az aq 220 #[.int .u8 (UInt8.toNat c1:Int)] w2 fun e1 w3=>∃b1:Bool,e1=(ak (aj b1))/\
    (((!b0)&&(!b1))=true->J0 i1 w3)/\
    (((!b0)&&(!b1))=false->∃k4:Nat,k4<k1/\
    J1 k4 (ar U (i1+1)) w3))/\
 ((decide ((ar U (at_+i1))<(s.size:Int)))=false->J0 i1 w1)
theorem agX (s:asw) (at_:Int) (R:aA) (w:av) (h:aa2 s at_ R w):Cr 162 #[ab s,O U at_] w R:=
 fB (an:=.s .o (.s .o (.j [] [.s 5 (.int .i64)] (.j [0,1] [.s 5 (.int .i64)] (.s (.s .o (.s .o .o)) (.s .o (.s .o (.s (.s .o (.s .o .o)) .o)))) .o) (.s .o .o)))) (args:=[.str s,.int .i64 at_]) h
def aa3 (c:Int) (R:aA) (w:av):Prop:=
 R (aj ((decide (c>=48))&&(decide (c<=57)))) w
theorem agY (c:Int) (R:aA) (w:av) (h:aa3 c R w):Cr 220 #[.int .u8 c] w R:=
 fB (an:=.s .o (.s .o .o)) (args:=[.int .u8 c]) h
def aa4 (n_:Addr) (x:Int) (x1 x2 x3:asw) (x4 x5 x6 x7:Sl) (x8 deep:Int) (R:aA) (w:av):Prop:=
 ∀k0:Nat,∀w0:av,w.heap.size<=k0->k0<w0.heap.size->ay [] w w0->∃i0:Int,Cells w0 (n_.add 0) [O U i0]/\
 ∃k1 k2:Nat,∃z0:List aw,∃k3:Nat,(n_.add 0)=⟨k1,k2,none⟩/\
 Blk w0 k1 k3 z0/\
 (k2+1)<=z0.length/\
 k0≠k1/\
 ∀w1:av,ay [k1] w0 w1->Blk w1 k1 k3 (bO z0 k2 [O U (ar U (i0+1))])->az aq 94 #[ab x1] w1 fun e0 w2=>∃b0:Bool,e0=(ak (aj b0))/\
  aR [k0] w1 w2/\
  ∃i1:Int,(((!b0)||(decide (deep>=12)))=false->Cells w2 (n_.add 0) [O U i1])/\
  ((((!b0)||(decide (deep>=12)))||(decide (i1>64)))=true->R (aj false) w2)/\
  ((((!b0)||(decide (deep>=12)))||(decide (i1>64)))=false->(((x==3)||(x==4))=true->az aq 94 #[ab x3] w2 fun e1 w3=>∃b1:Bool,e1=(ak (aj b1))/\
   aR [k0] w2 w3/\
   R (aj (((((b1&&(x2.toList==((ao #[]).toList)))&&((x4.n:Int)==0))&&((x5.n:Int)==0))&&((x6.n:Int)==0))&&((x7.n:Int)==0))) w3)/\
  (((x==3)||(x==4))=false->∃J0:Bool->av->Prop,(∀b2:Bool,∀w4:av,J0 b2 w4->az aq 163 #[ae (some n_),x4.v] w4 fun e2 w5=>∃b3:Bool,e2=(ak (aj b3))/\
   aR [k0] w4 w5/\
   az aq 163 #[ae (some n_),x5.v] w5 fun e3 w6=>∃b4:Bool,e3=(ak (aj b4))/\
    aR [k0] w5 w6/\
    (((((((x !=1)&&(x !=2))||(!(x3.toList==((ao #[]).toList))))||(!b2))||(!b3))||(!b4))=true->R (aj false) w6)/\
    (((((((x !=1)&&(x !=2))||(!(x3.toList==((ao #[]).toList))))||(!b2))||(!b3))||(!b4))=false->∃J1:Nat->Int->av->Prop,∃k4:Nat,J1 k4 0 w6/\
    ∀k5:Nat,∀i2:Int,∀w7:av,J1 k5 i2 w7->((decide (i2<(x6.n:Int)))=true->∃p0:Addr,ck x6 i2 13 p0/\
     ∃i3:Int,∃s0:asw,∃i4:Int,∃b5:Bool,∃i5 i6:Int,∃s1:asw,∃i7:Int,∃l0:Sl,∃i8:Int,∃l1 l2:Sl,∃i9:Int,Cells w7 p0 [O U i3,ab s0,O U i4,aj b5,O U i5,O U i6,ab s1,O U i7,l0.v,O U i8,l1.v,l2.v,O U i9]/\
     az aq 164 #[ae (some n_),ah #[O U i3,ab s0,O U i4,aj b5,O U i5,O U i6,ab s1,O U i7,l0.v,O U i8,l1.v,l2.v,O U i9]] w7 fun e4 w8=>∃b6:Bool,e4=(ak (aj b6))/\
      aR [k0] w7 w8/\
      ((!b6)=true->R (aj false) w8)/\
      ((!b6)=false->∃k6:Nat,k6<k5/\
      J1 k6 (ar U (i2+1)) w8))/\
    ((decide (i2<(x6.n:Int)))=false->∃J2:Nat->Int->av->Prop,∃k7:Nat,J2 k7 0 w7/\
    ∀k8:Nat,∀i10:Int,∀w9:av,J2 k8 i10 w9->((decide (i10<(x7.n:Int)))=true->∃p1:Addr,ck x7 i10 9 p1/\
     ∃i11:Int,∃s2 s3 s4:asw,∃l3 l4 l5 l6:Sl,∃i12:Int,Cells w9 p1 [O U i11,ab s2,ab s3,ab s4,l3.v,l4.v,l5.v,l6.v,O U i12]/\
     az aq 95 #[ae (some n_),ah #[O U i11,ab s2,ab s3,ab s4,l3.v,l4.v,l5.v,l6.v,O U i12],O U (ar U (deep+1))] w9 fun e5 cK=>∃b7:Bool,e5=(ak (aj b7))/\
      aR [k0] w9 cK/\
      ((!b7)=true->R (aj false) cK)/\
      ((!b7)=false->∃k9:Nat,k9<k8/\
      J2 k9 (ar U (i10+1)) cK))/\
    ((decide (i10<(x7.n:Int)))=false->R (aj true) w9))))/\
  ((!(x2.toList==((ao #[]).toList)))=true->az aq 94 #[ab x2] w2 fun e6 cY=>∃b8:Bool,e6=(ak (aj b8))/\
   aR [k0] w2 cY/\
   J0 b8 cY)/\
  ((!(x2.toList==((ao #[]).toList)))=false->J0 (x2.toList==((ao #[]).toList)) w2)))
theorem agZ (n_:Addr) (x:Int) (x1 x2 x3:asw) (x4 x5 x6 x7:Sl) (x8 deep:Int) (R:aA) (w:av) (h:aa4 n_ x x1 x2 x3 x4 x5 x6 x7 x8 deep R w):Cr 95 #[ae (some n_),ah #[O U x,ab x1,ab x2,ab x3,x4.v,x5.v,x6.v,x7.v,O U x8],O U deep] w R:=
 fB (an:=.s .o (.s .o (.s .o (.s (.s .o (.s (.s .o .o) .o)) (.s (.s .o (.s (.s .o (.s .o .o)) .o)) (.s .o (.j [0,2,4] [.s 9 .bool] (.s .o (.s .o .o)) (.s .o (.s .o (.s (.s .o (.s (.s .o .o) .o)) (.s (.s .o (.j [0,2,4] [.s 12 (.int .i64)] (.s (.s .o (.s .o .o)) (.s (.s .o (.s .o (.s (.s .o .o) .o))) .o)) .o)) (.s (.s .o (.j [0,2,4] [.s 14 (.int .i64)] (.s (.s .o (.s .o .o)) (.s (.s .o (.s .o (.s (.s .o .o) .o))) .o)) .o)) (.s .o .o))))))))))))) (args:=[.ad n_,.agg (jU [.int .i64 x,.str x1,.str x2,.str x3,.sl x4,.sl x5,.sl x6,.sl x7,.int .i64 x8]),.int .i64 deep]) h
def aa5 (n_:Addr) (l:Sl) (R:aA) (w:av):Prop:=
 ∃J0:Nat->Int->av->Prop,∃k0:Nat,J0 k0 0 w/\
 ∀k1:Nat,∀i0:Int,∀w0:av,J0 k1 i0 w0->((decide (i0<(l.n:Int)))=true->∃i1:Int,Cells w0 (n_.add 2) [O U i1]/\
  ∃k2 k3:Nat,∃z0:List aw,∃k4:Nat,(n_.add 2)=⟨k2,k3,none⟩/\
  Blk w0 k2 k4 z0/\
  (k3+1)<=z0.length/\
  ∀w1:av,ay [k2] w0 w1->Blk w1 k2 k4 (bO z0 k3 [O U (ar U (i1+1))])->∃p0:Addr,ck l i0 9 p0/\
  ∃s0:asw,Cells w1 (p0.add 1) [ab s0]/\
  az aq 94 #[ab s0] w1 fun e0 w2=>∃b0:Bool,e0=(ak (aj b0))/\
   ∃p1:Addr,ck l i0 9 p1/\
   ∃i2 i3:Int,∃s1:asw,∃i4:Int,∃l0:Sl,∃i5:Int,Cells w2 (p1.add 2) [O U i2,O U i3,ab s1,O U i4,l0.v,O U i5]/\
   az aq 221 #[ah #[O U i2,O U i3,ab s1,O U i4,l0.v,O U i5]] w2 fun e1 w3=>∃b1:Bool,e1=(ak (aj b1))/\
    ∃J1:Bool->av->Prop,(∀b2:Bool,∀w4:av,J1 b2 w4->∃p2:Addr,ck l i0 9 p2/\
     ∃i6:Int,Cells w4 (p2.add 0) [O U i6]/\
     ∃p3:Addr,((decide (i6<1))=false->ck l i0 9 p3)/\
     ∃i7:Int,((decide (i6<1))=false->Cells w4 (p3.add 0) [O U i7])/\
     (((((decide (i6<1))||(decide (i7>3)))||(!b0))||(!b2))=true->R (aj false) w4)/\
     (((((decide (i6<1))||(decide (i7>3)))||(!b0))||(!b2))=false->∃k5:Nat,k5<k1/\
     J0 k5 (ar U (i0+1)) w4))/\
    ∃p4:Addr,ck l i0 9 p4/\
    ∃i8:Int,Cells w3 (p4.add 0) [O U i8]/\
    ((i8==2)=true->∃p5:Addr,ck l i0 9 p5/\
     ∃i9 i10:Int,∃s2:asw,∃i11:Int,∃l1:Sl,∃i12:Int,Cells w3 (p5.add 2) [O U i9,O U i10,ab s2,O U i11,l1.v,O U i12]/\
     az aq 222 #[ah #[O U i9,O U i10,ab s2,O U i11,l1.v,O U i12]] w3 fun e2 w5=>∃b3:Bool,e2=(ak (aj b3))/\
      J1 b3 w5)/\
    ((i8==2)=false->J1 b1 w3))/\
 ((decide (i0<(l.n:Int)))=false->R (aj true) w0)
theorem ag0 (n_:Addr) (l:Sl) (R:aA) (w:av) (h:aa5 n_ l R w):Cr 163 #[ae (some n_),l.v] w R:=
 fB (an:=.s .o (.s (.s .o (.j [0,1] [.s 5 (.int .i64)] (.s (.s .o (.s .o .o)) (.s (.s .o (.s .o (.s .o (.j [0,1,5,6] [.s 7 .bool] (.s .o (.s .o .o)) (.s .o (.s (.s .o .o) .o)))))) .o)) .o)) (.s .o .o))) (args:=[.ad n_,.sl l]) h
def aa6 (x x1:Int) (x2:asw) (x3:Int) (x4:Sl) (x5:Int) (R:aA) (w:av):Prop:=
 ∀k0:Nat,∀w0:av,w.heap.size<=k0->k0<w0.heap.size->ay [] w w0->az aq 183 #[ah #[O U x,O U x1,ab x2,O U x3,x4.v,O U x5]] w0 fun e0 w1=>∃s0:asw,∃b0:Bool,e0=(ak (ai #[ab s0,aj b0]))/\
  aR [k0] w0 w1/\
  R (aj b0) w1
theorem ag1 (x x1:Int) (x2:asw) (x3:Int) (x4:Sl) (x5:Int) (R:aA) (w:av) (h:aa6 x x1 x2 x3 x4 x5 R w):Cr 221 #[ah #[O U x,O U x1,ab x2,O U x3,x4.v,O U x5]] w R:=
 fB (an:=.s .o (.s .o (.s .o .o))) (args:=[.agg (jU [.int .i64 x,.int .i64 x1,.str x2,.int .i64 x3,.sl x4,.int .i64 x5])]) h
def aa7 (x x1:Int) (x2:asw) (x3:Int) (x4:Sl) (x5:Int) (R:aA) (w:av):Prop:=
 ∀k0:Nat,∀w0:av,w.heap.size<=k0->k0<w0.heap.size->ay [] w w0->az aq 231 #[ah #[O U x,O U x1,ab x2,O U x3,x4.v,O U x5]] w0 fun e0 w1=>∃b0:Bool,e0=(ak (aj b0))/\
  aR [k0] w0 w1/\
  ((!b0)=true->R (ai #[ab (ao #[]),aj false]) w1)/\
  ((!b0)=false->∀k1:Nat,∀w2:av,w1.heap.size<=k1->k1<w2.heap.size->ay [] w1 w2->Blk w2 k1 263 [Sl.nil.v]->az aq 232 #[ae (some ⟨k1,0,none⟩),ah #[O U x,O U x1,ab x2,O U x3,x4.v,O U x5]] w2 fun e1 w3=>e1=(ak (ai #[]))/\
   aR [k0] w2 w3/\
   ∃l0:Sl,Blk w3 k1 263 [l0.v]/\
   ∃z0:aB,pY w3 l0 z0/\
   az aq 233 #[ab (ao z0.toArray)] w3 fun e2 w4=>∃i0 i1:Int,∃s0:asw,∃i2:Int,∃l1:Sl,∃i3 i4 i5:Int,e2=(ak (ai #[ah #[O U i0,O U i1,ab s0,O U i2,l1.v,O U i3],ah #[O U i4,O U i5]]))/\
    aR [k0] w3 w4/\
    ∃l2:Sl,Blk w4 k1 263 [l2.v]/\
    ∀k2 k3:Nat,∀w5:av,w4.heap.size<=k2->k2<w5.heap.size->w4.heap.size<=k3->k3<w5.heap.size->ay [] w4 w5->Blk w5 k1 263 [l2.v]->az aq 159 #[ah #[O U x,O U x1,ab x2,O U x3,x4.v,O U x5],ah #[O U i0,O U i1,ab s0,O U i2,l1.v,O U i3],aj false] w5 fun e3 w6=>∃b1:Bool,e3=(ak (aj b1))/\
     aR [k0,k2,k3] w5 w6/\
     ∃l3:Sl,Blk w6 k1 263 [l3.v]/\
     ((((decide (((ao z0.toArray).size:Int)>16384))||(i4 !=0))||(!b1))=true->R (ai #[ab (ao #[]),aj false]) w6)/\
     ((((decide (((ao z0.toArray).size:Int)>16384))||(i4 !=0))||(!b1))=false->R (ai #[ab (ao z0.toArray),aj true]) w6))
theorem ag2 (x x1:Int) (x2:asw) (x3:Int) (x4:Sl) (x5:Int) (R:aA) (w:av) (h:aa7 x x1 x2 x3 x4 x5 R w):Cr 183 #[ah #[O U x,O U x1,ab x2,O U x3,x4.v,O U x5]] w R:=
 fB (an:=.s .o (.s .o (.s (.s .o (.s (.s .o .o) .o)) (.s .o (.s .o (.s .o (.s .o (.s .o (.s (.s .o (.s (.s .o .o) .o)) (.s .o .o)))))))))) (args:=[.agg (jU [.int .i64 x,.int .i64 x1,.str x2,.int .i64 x3,.sl x4,.int .i64 x5])]) h
def aa8 (x x1:Int) (x2:asw) (x3:Int) (x4:Sl) (x5:Int) (R:aA) (w:av):Prop:=
 ∀k0:Nat,∀w0:av,w.heap.size<=k0->k0<w0.heap.size->ay [] w w0->∃J0:Nat->Int->av->Prop,∃k1:Nat,J0 k1 0 w0/\
 ∀k2:Nat,∀i0:Int,∀w1:av,J0 k2 i0 w1->((decide (i0<(x4.n:Int)))=true->∃p0:Addr,ck x4 i0 6 p0/\
  ∃i1 i2:Int,∃s0:asw,∃i3:Int,∃l0:Sl,∃i4:Int,Cells w1 p0 [O U i1,O U i2,ab s0,O U i3,l0.v,O U i4]/\
  az aq 231 #[ah #[O U i1,O U i2,ab s0,O U i3,l0.v,O U i4]] w1 fun e0 w2=>∃b0:Bool,e0=(ak (aj b0))/\
   aR [k0] w1 w2/\
   ((!b0)=true->R (aj false) w2)/\
   ((!b0)=false->∃k3:Nat,k3<k2/\
   J0 k3 (ar U (i0+1)) w2))/\
 ((decide (i0<(x4.n:Int)))=false->az aq 94 #[ab x2] w1 fun e1 w3=>∃b1:Bool,e1=(ak (aj b1))/\
  aR [k0] w1 w3/\
  ((x==1)=true->R (aj ((((decide (x1>=0))&&(x2.toList==((ao #[]).toList)))&&(x3==0))&&((x4.n:Int)==0))) w3)/\
  ((x==1)=false->∃J1:Bool->av->Prop,(∀b2:Bool,∀w4:av,J1 b2 w4->(b2=true->R (aj ((((x1==0)&&b1)&&(x3==0))&&((x4.n:Int)==0))) w4)/\
   (b2=false->((x==4)=true->R (aj ((((x1==0)&&(x2.toList==((ao #[]).toList)))&&((x3==14)||(x3==15)))&&((x4.n:Int)==1))) w4)/\
   ((x==4)=false->((x==5)=true->∃J2:Bool->av->Prop,(∀b3:Bool,∀w5:av,J2 b3 w5->R (aj b3) w5)/\
    (((x1==0)&&(x2.toList==((ao #[]).toList)))=true->az aq 272 #[ah #[O U x,O U x1,ab x2,O U x3,x4.v,O U x5]] w4 fun e2 w6=>∃i5:Int,e2=(ak (O U i5))/\
     aR [k0] w4 w6/\
     J2 ((decide (i5<6))&&((x4.n:Int)==2)) w6)/\
    (((x1==0)&&(x2.toList==((ao #[]).toList)))=false->J2 false w4))/\
   ((x==5)=false->R (aj false) w4))))/\
  ((x==2)=true->J1 (x==2) w3)/\
  ((x==2)=false->J1 (x==3) w3)))
theorem ag3 (x x1:Int) (x2:asw) (x3:Int) (x4:Sl) (x5:Int) (R:aA) (w:av) (h:aa8 x x1 x2 x3 x4 x5 R w):Cr 231 #[ah #[O U x,O U x1,ab x2,O U x3,x4.v,O U x5]] w R:=
 fB (an:=.s .o (.s (.s .o (.j [1] [.s 3 (.int .i64)] (.s (.s .o (.s .o .o)) (.s (.s .o (.s .o (.s (.s .o .o) .o))) .o)) .o)) (.s .o (.s .o (.s (.s .o (.s .o (.s (.s .o .o) (.j [1,5,6,29] [.s 49 .bool] (.s .o (.s .o .o)) (.s (.s .o .o) (.s .o (.s (.s .o .o) (.s .o (.s (.s (.j [1] [.s 2 .bool] .o .o) .o) .o))))))))) (.s .o .o)))))) (args:=[.agg (jU [.int .i64 x,.int .i64 x1,.str x2,.int .i64 x3,.sl x4,.int .i64 x5])]) h
def aa9 (x x1:Int) (x2:asw) (x3:Int) (x4:Sl) (x5:Int) (R:aA) (w:av):Prop:=
 ∀k0:Nat,∀w0:av,w.heap.size<=k0->k0<w0.heap.size->ay [] w w0->az aq 275 #[] w0 fun e0 w1=>∃l0:Sl,e0=(ak l0.v)/\
  aR [k0] w0 w1/\
  ∃J0:Nat->Int->av->Prop,∃k1:Nat,J0 k1 0 w1/\
  ∀k2:Nat,∀i0:Int,∀w2:av,J0 k2 i0 w2->(((decide (i0<6))&&(x==5))=true->∃J1:Nat->Int->av->Prop,∃k3:Nat,J1 k3 0 w2/\
   ∀k4:Nat,∀i1:Int,∀w3:av,J1 k4 i1 w3->∃p0:Addr,ck l0 i0 1 p0/\
   ∃l1:Sl,Cells w3 p0 [l1.v]/\
   ((decide (i1<(l1.n:Int)))=true->∃p1:Addr,ck l0 i0 1 p1/\
    ∃l2:Sl,Cells w3 p1 [l2.v]/\
    ∃p2:Addr,ck l2 i1 1 p2/\
    ∃i2:Int,Cells w3 p2 [O U i2]/\
    ((i2==x3)=true->∀w4:av,ay [] w3 w4->R (O U i0) w4)/\
    ((i2==x3)=false->∀w5:av,ay [] w3 w5->∃k5:Nat,k5<k4/\
    J1 k5 (ar U (i1+1)) w5))/\
   ((decide (i1<(l1.n:Int)))=false->∃k6:Nat,k6<k2/\
   J0 k6 (ar U (i0+1)) w3))/\
  (((decide (i0<6))&&(x==5))=false->R (O U 6) w2)
theorem ag4 (x x1:Int) (x2:asw) (x3:Int) (x4:Sl) (x5:Int) (R:aA) (w:av) (h:aa9 x x1 x2 x3 x4 x5 R w):Cr 272 #[ah #[O U x,O U x1,ab x2,O U x3,x4.v,O U x5]] w R:=
 fB (an:=.s .o (.s .o (.s (.s .o (.j [1,3] [.s 4 (.int .i64)] (.s (.s .o (.s .o .o)) (.s (.s .o (.j [1,3,4] [.s 5 (.int .i64)] (.s (.s .o (.s .o .o)) (.s (.s .o (.s (.s .o .o) .o)) .o)) .o)) .o)) .o)) (.s .o .o)))) (args:=[.agg (jU [.int .i64 x,.int .i64 x1,.str x2,.int .i64 x3,.sl x4,.int .i64 x5])]) h
def aba (R:aA) (w:av):Prop:=
 ∃l0:Sl,∃w0:av,((au 106 1 #[.mk 0 (O U 13)]).run aq w)=(.ok l0.v w0)/\
 ∃l1:Sl,∃w1:av,((au 106 1 #[.mk 0 (O U 12)]).run aq w0)=(.ok l1.v w1)/\
 ∃l2:Sl,∃w2:av,((au 106 2 #[.mk 0 (O U 10),.mk 1 (O U 11)]).run aq w1)=(.ok l2.v w2)/\
 ∃l3:Sl,∃w3:av,((au 106 4 #[.mk 0 (O U 6),.mk 1 (O U 7),.mk 2 (O U 8),.mk 3 (O U 9)]).run aq w2)=(.ok l3.v w3)/\
 ∃l4:Sl,∃w4:av,((au 106 2 #[.mk 0 (O U 1),.mk 1 (O U 2)]).run aq w3)=(.ok l4.v w4)/\
 ∃l5:Sl,∃w5:av,((au 106 3 #[.mk 0 (O U 3),.mk 1 (O U 4),.mk 2 (O U 5)]).run aq w4)=(.ok l5.v w5)/\
 ∃l6:Sl,∃w6:av,((au 298 6 #[.mk 0 l0.v,.mk 1 l1.v,.mk 2 l2.v,.mk 3 l3.v,.mk 4 l4.v,.mk 5 l5.v]).run aq w5)=(.ok l6.v w6)/\
 R l6.v w6
theorem ag5 (R:aA) (w:av) (h:aba R w):Cr 275 #[] w R:=
 fB (an:=.s .o (.s .o .o)) (args:=[]) h
def abb (p:Addr) (x x1:Int) (x2:asw) (x3:Int) (x4:Sl) (x5:Int) (R:aA) (w:av):Prop:=
 ∀k0:Nat,∀w0:av,w.heap.size<=k0->k0<w0.heap.size->ay [] w w0->∃l0:Sl,Cells w0 (p.add 0) [l0.v]/\
 ((decide ((l0.n:Int)>16384))=true->R (ai #[]) w0)/\
 ((decide ((l0.n:Int)>16384))=false->((x==1)=true->az aq 47 #[O U x1] w0 fun e0 w1=>∃s0:asw,e0=(ak (ab s0))/\
  aR [k0] w0 w1/\
  az aq 273 #[ae (some p),ab s0] w1 fun e1 w2=>e1=(ak (ai #[]))/\
   aR [k0] w1 w2/\
   R (ai #[]) w2)/\
 ((x==1)=false->((x==2)=true->az aq 273 #[ae (some p),ab x2] w0 fun e2 w3=>e2=(ak (ai #[]))/\
  aR [k0] w0 w3/\
  R (ai #[]) w3)/\
 ((x==2)=false->((x==3)=true->(3+(x2.size:Int))<=9223372036854775807/\
  ((((ao #[105,110,40])++x2).size:Int)+1)<=9223372036854775807/\
  az aq 273 #[ae (some p),ab (((ao #[105,110,40])++x2)++(ao #[41]))] w0 fun e3 w4=>e3=(ak (ai #[]))/\
   aR [k0] w0 w4/\
   R (ai #[]) w4)/\
 ((x==3)=false->((x==4)=true->∃J0:av->Prop,(∀w5:av,J0 w5->∃p0:Addr,ck x4 0 6 p0/\
   ∀w6:av,ay [] w5 w6->∃i0 i1:Int,∃s1:asw,∃i2:Int,∃l1:Sl,∃i3:Int,Cells w6 p0 [O U i0,O U i1,ab s1,O U i2,l1.v,O U i3]/\
   ∃p1:Addr,ck x4 0 6 p1/\
   ∃i4:Int,Cells w6 (p1.add 0) [O U i4]/\
   az aq 274 #[ae (some p),ah #[O U i0,O U i1,ab s1,O U i2,l1.v,O U i3],aj (i4==5)] w6 fun e4 w7=>e4=(ak (ai #[]))/\
    aR [k0] w6 w7/\
    R (ai #[]) w7)/\
  ((x3==14)=true->az aq 273 #[ae (some p),ab (ao #[45])] w0 fun e5 w8=>e5=(ak (ai #[]))/\
   aR [k0] w0 w8/\
   J0 w8)/\
  ((x3==14)=false->az aq 273 #[ae (some p),ab (ao #[33])] w0 fun e6 w9=>e6=(ak (ai #[]))/\
   aR [k0] w0 w9/\
   J0 w9))/\
 ((x==4)=false->((x==5)=true->az aq 272 #[ah #[O U x,O U x1,ab x2,O U x3,x4.v,O U x5]] w0 fun e7 cK=>∃i5:Int,e7=(ak (O U i5))/\
  aR [k0] w0 cK/\
  az aq 275 #[] cK fun e8 cY=>∃l2:Sl,e8=(ak l2.v)/\
   aR [k0] cK cY/\
   ∃p2:Addr,ck l2 i5 1 p2/\
   ∃l3:Sl,Cells cY p2 [l3.v]/\
   ∀dz:av,ay [] cY dz->∃J1:Nat->Prop,J1 k0/\
   ∃p3:Addr,ck x4 0 6 p3/\
   J1 p3.block/\
   ∃i6 i7:Int,∃s2:asw,∃i8:Int,∃l4:Sl,∃i9:Int,Cells dz p3 [O U i6,O U i7,ab s2,O U i8,l4.v,O U i9]/\
   ∃p4:Addr,ck x4 0 6 p4/\
   ∃i10 i11:Int,∃s3:asw,∃i12:Int,∃l5:Sl,∃i13:Int,Cells dz p4 [O U i10,O U i11,ab s3,O U i12,l5.v,O U i13]/\
   az aq 272 #[ah #[O U i10,O U i11,ab s3,O U i12,l5.v,O U i13]] dz fun e9 dF=>∃i14:Int,e9=(ak (O U i14))/\
    aR [k0] dz dF/\
    bE J1 dz dF/\
    az aq 274 #[ae (some p),ah #[O U i6,O U i7,ab s2,O U i8,l4.v,O U i9],aj (decide (i14<i5))] dF fun Cs eI=>Cs=(ak (ai #[]))/\
     aR [k0] dF eI/\
     bE J1 dF eI/\
     ∃J2:Nat->Int->av->Prop,∃k1:Nat,J2 k1 0 eI/\
     ∀k2:Nat,∀i15:Int,∀fQ:av,J2 k2 i15 fQ->((decide (i15<(l3.n:Int)))=true->∃J3:av->Prop,(∀gP:av,J3 gP->∃k3:Nat,k3<k2/\
       J2 k3 (ar U (i15+1)) gP)/\
      ∃p5:Addr,ck l3 i15 1 p5/\
      ∃i16:Int,Cells fQ p5 [O U i16]/\
      ((i16==x3)=true->∀fY:av,ay [] fQ fY->az aq 276 #[] fY fun Ko iv=>∃l6:Sl,Ko=(ak l6.v)/\
       aR [k0] fY iv/\
       ∃p6:Addr,ck l6 i5 1 p6/\
       ∃l7:Sl,Cells iv p6 [l7.v]/\
       ∃p7:Addr,ck l7 i15 1 p7/\
       ∃s4:asw,Cells iv p7 [ab s4]/\
       (1+(s4.size:Int))<=9223372036854775807/\
       ((((ao #[32])++s4).size:Int)+1)<=9223372036854775807/\
       az aq 273 #[ae (some p),ab (((ao #[32])++s4)++(ao #[32]))] iv fun Ws ji=>Ws=(ak (ai #[]))/\
        aR [k0] iv ji/\
        J3 ji)/\
      ((i16==x3)=false->∀iw:av,ay [] fQ iw->J3 iw))/\
     ((decide (i15<(l3.n:Int)))=false->∀j9:av,ay [] fQ j9->∃J4:Nat->Prop,J4 k0/\
     ∃p8:Addr,ck x4 1 6 p8/\
     J4 p8.block/\
     ∃i17 i18:Int,∃s5:asw,∃i19:Int,∃l8:Sl,∃i20:Int,Cells j9 p8 [O U i17,O U i18,ab s5,O U i19,l8.v,O U i20]/\
     ∃p9:Addr,ck x4 1 6 p9/\
     ∃i21 i22:Int,∃s6:asw,∃i23:Int,∃l9:Sl,∃i24:Int,Cells j9 p9 [O U i21,O U i22,ab s6,O U i23,l9.v,O U i24]/\
     az aq 272 #[ah #[O U i21,O U i22,ab s6,O U i23,l9.v,O U i24]] j9 fun Wt nU=>∃i25:Int,Wt=(ak (O U i25))/\
      aR [k0] j9 nU/\
      bE J4 j9 nU/\
      az aq 274 #[ae (some p),ah #[O U i17,O U i18,ab s5,O U i19,l8.v,O U i20],aj (decide (i25<=i5))] nU fun e14 pc=>e14=(ak (ai #[]))/\
       aR [k0] nU pc/\
       bE J4 nU pc/\
       R (ai #[]) pc))/\
 ((x==5)=false->R (ai #[]) w0))))))
theorem ag6 (p:Addr) (x x1:Int) (x2:asw) (x3:Int) (x4:Sl) (x5:Int) (R:aA) (w:av) (h:abb p x x1 x2 x3 x4 x5 R w):Cr 232 #[ae (some p),ah #[O U x,O U x1,ab x2,O U x3,x4.v,O U x5]] w R:=
 fB (an:=.s .o (.s (.s .o (.s .o .o)) (.s .o (.s .o (.s .o (.s .o (.s .o (.s .o (.s .o (.s .o (.s (.j [0,3] [] (.s .o (.s .o .o)) .o) (.s .o (.s (.s .o (.s .o (.s .o (.s (.s .o (.j [0,3,4,5] [.s 6 (.int .i64)] (.s (.s .o (.s .o .o)) (.j [0,3,4,5,6] [] (.s .o (.s .o .o)) .o)) .o)) .o)))) .o))))))))))))) (args:=[.ad p,.agg (jU [.int .i64 x,.int .i64 x1,.str x2,.int .i64 x3,.sl x4,.int .i64 x5])]) h
def U9 (n_:Int) (R:aA) (w:av):Prop:=
 ((n_==0)=true->R (ab (ao #[48])) w)/\
 ((n_==0)=false->((decide (n_<0))=true->az aq 97 #[O U n_] w fun e0 w0=>∃i0:Int,e0=(ak (.int .u64 i0))/\
  az aq 96 #[.int .u64 i0] w0 fun e1 w1=>∃s0:asw,e1=(ak (ab s0))/\
   (1+(s0.size:Int))<=9223372036854775807/\
   R (ab ((ao #[45])++s0)) w1)/\
 ((decide (n_<0))=false->az aq 97 #[O U n_] w fun e2 w2=>∃i1:Int,e2=(ak (.int .u64 i1))/\
  az aq 96 #[.int .u64 i1] w2 fun e3 w3=>∃s1:asw,e3=(ak (ab s1))/\
   R (ab s1) w3))
theorem abc (n_:Int) (R:aA) (w:av) (h:U9 n_ R w):Cr 47 #[O U n_] w R:=
 fB (an:=.s .o (.s (.s .o (.s (.s .o .o) .o)) (.s (.s .o (.s (.s .o .o) .o)) (.s .o .o)))) (args:=[.int .i64 n_]) h
def Va (n_:Int) (R:aA) (w:av):Prop:=
 ((decide (n_<0))=true->R (.int .u64 (ar .u64 ((ar .u64 (ar U (0-(ar U (n_+1)))))+1))) w)/\
 ((decide (n_<0))=false->R (.int .u64 (ar .u64 n_)) w)
theorem abd (n_:Int) (R:aA) (w:av) (h:Va n_ R w):Cr 97 #[O U n_] w R:=
 fB (an:=.s .o (.s (.s .o (.s (.s .o .o) .o)) (.s .o .o))) (args:=[.int .i64 n_]) h
def abe (u:Int) (R:aA) (w:av):Prop:=
 ((u==0)=true->R (ab (ao #[])) w)/\
 ((u==0)=false->∃J0:asw->av->Prop,(∀s0:asw,∀w0:av,J0 s0 w0->R (ab s0) w0)/\
 ∀w1:av,ay [] w w1->∃J1:Nat->Prop,(az aq 96 #[.int .u64 (ar .u64 (u.tdiv 10))] w1 fun e0 w2=>∃s1:asw,e0=(ak (ab s1))/\
  bE J1 w1 w2/\
  ∃l0:Sl,∃w3:av,((au 68 1 #[.mk 0 (.int .u8 (ar .u8 (ar .u64 (48+(u.tmod 10)))))]).run aq w2)=(.ok l0.v w3)/\
  bE J1 w2 w3/\
  ∃z0:aB,pY w3 l0 z0/\
  ((s1.size:Int)+((ao z0.toArray).size:Int))<=9223372036854775807/\
  J0 (s1++(ao z0.toArray)) w3)/\
 ∃l1:Sl,∃w4:av,((au 68 1 #[.mk 0 (.int .u8 (ar .u8 (ar .u64 (48+(u.tmod 10)))))]).run aq w1)=(.ok l1.v w4)/\
 bE J1 w1 w4/\
 ∃z1:aB,(∀p0:Addr,l1.a=(some p0)->J1 p0.block)/\
 pY w4 l1 z1/\
 az aq 96 #[.int .u64 (ar .u64 (u.tdiv 10))] w4 fun e1 w5=>∃s2:asw,e1=(ak (ab s2))/\
  bE J1 w4 w5/\
  ((s2.size:Int)+((ao z1.toArray).size:Int))<=9223372036854775807/\
  J0 (s2++(ao z1.toArray)) w5)
theorem ag7 (u:Int) (R:aA) (w:av) (h:abe u R w):Cr 96 #[.int .u64 u] w R:=
 fB (an:=.s .o (.s (.s .o (.s (.s .o .o) .o)) (.s (.j [] [.s 2 .str] .o .o) .o))) (args:=[.int .u64 u]) h
def abf (p:Addr) (s:asw) (R:aA) (w:av):Prop:=
 ∃l0:Sl,Cells w (p.add 0) [l0.v]/\
 ((decide ((l0.n:Int)<=16384))=true->∃l1:Sl,Cells w (p.add 0) [l1.v]/\
  ∃l2:Sl,∃w0:av,((Builtin.append_ #[68,9] 68 #[l1.v,ab s]).run aq w)=(.ok l2.v w0)/\
  ∃k0 k1:Nat,∃z0:List aw,∃k2:Nat,(p.add 0)=⟨k0,k1,none⟩/\
  Blk w0 k0 k2 z0/\
  (k1+1)<=z0.length/\
  ∀w1:av,ay [k0] w0 w1->Blk w1 k0 k2 (bO z0 k1 [l2.v])->R (ai #[]) w1)/\
 ((decide ((l0.n:Int)<=16384))=false->R (ai #[]) w)
theorem ag8 (p:Addr) (s:asw) (R:aA) (w:av) (h:abf p s R w):Cr 273 #[ae (some p),ab s] w R:=
 fB (an:=.s .o (.s .o .o)) (args:=[.ad p,.str s]) h
def abg (p:Addr) (x x1:Int) (x2:asw) (x3:Int) (x4:Sl) (x5:Int) (is:Bool) (R:aA) (w:av):Prop:=
 ∀k0:Nat,∀w0:av,w.heap.size<=k0->k0<w0.heap.size->ay [] w w0->∃J0:av->Prop,(∀w1:av,J0 w1->az aq 232 #[ae (some p),ah #[O U x,O U x1,ab x2,O U x3,x4.v,O U x5]] w1 fun e0 w2=>e0=(ak (ai #[]))/\
  aR [k0] w1 w2/\
  (is=true->az aq 273 #[ae (some p),ab (ao #[41])] w2 fun e1 w3=>e1=(ak (ai #[]))/\
   aR [k0] w2 w3/\
   R (ai #[]) w3)/\
  (is=false->R (ai #[]) w2))/\
 (is=true->az aq 273 #[ae (some p),ab (ao #[40])] w0 fun e2 w4=>e2=(ak (ai #[]))/\
  aR [k0] w0 w4/\
  J0 w4)/\
 (is=false->J0 w0)
theorem ag9 (p:Addr) (x x1:Int) (x2:asw) (x3:Int) (x4:Sl) (x5:Int) (is:Bool) (R:aA) (w:av) (h:abg p x x1 x2 x3 x4 x5 is R w):Cr 274 #[ae (some p),ah #[O U x,O U x1,ab x2,O U x3,x4.v,O U x5],aj is] w R:=
 fB (an:=.s .o (.j [0,2,4] [] (.s .o (.s .o .o)) (.s .o (.s .o (.s .o .o))))) (args:=[.ad p,.agg (jU [.int .i64 x,.int .i64 x1,.str x2,.int .i64 x3,.sl x4,.int .i64 x5]),.bt is]) h
def abh (R:aA) (w:av):Prop:=
 ∃l0:Sl,∃w0:av,((au 52 1 #[.mk 0 (ab (ao #[124,124]))]).run aq w)=(.ok l0.v w0)/\
 ∃l1:Sl,∃w1:av,((au 52 1 #[.mk 0 (ab (ao #[38,38]))]).run aq w0)=(.ok l1.v w1)/\
 ∃l2:Sl,∃w2:av,((au 52 2 #[.mk 0 (ab (ao #[61,61])),.mk 1 (ab (ao #[33,61]))]).run aq w1)=(.ok l2.v w2)/\
 ∃l3:Sl,∃w3:av,((au 52 4 #[.mk 0 (ab (ao #[60])),.mk 1 (ab (ao #[60,61])),.mk 2 (ab (ao #[62])),.mk 3 (ab (ao #[62,61]))]).run aq w2)=(.ok l3.v w3)/\
 ∃l4:Sl,∃w4:av,((au 52 2 #[.mk 0 (ab (ao #[43])),.mk 1 (ab (ao #[45]))]).run aq w3)=(.ok l4.v w4)/\
 ∃l5:Sl,∃w5:av,((au 52 3 #[.mk 0 (ab (ao #[42])),.mk 1 (ab (ao #[47])),.mk 2 (ab (ao #[37]))]).run aq w4)=(.ok l5.v w5)/\
 ∃l6:Sl,∃w6:av,((au 300 6 #[.mk 0 l0.v,.mk 1 l1.v,.mk 2 l2.v,.mk 3 l3.v,.mk 4 l4.v,.mk 5 l5.v]).run aq w5)=(.ok l6.v w6)/\
 R l6.v w6
theorem aha (R:aA) (w:av) (h:abh R w):Cr 276 #[] w R:=
 fB (an:=.s .o (.s .o .o)) (args:=[]) h
def abi (s:asw) (R:aA) (w:av):Prop:=
 ∀k0 k1:Nat,∀w0:av,w.heap.size<=k0->k0<w0.heap.size->w.heap.size<=k1->k1<w0.heap.size->ay [] w w0->az aq 119 #[ab s] w0 fun e0 w1=>∃l0:Sl,∃i0 i1:Int,e0=(ak (ai #[l0.v,ah #[O U i0,O U i1]]))/\
  aR [k0,k1] w0 w1/\
  ((i0 !=0)=true->∀k2:Nat,∀w2:av,w1.heap.size<=k2->k2<w2.heap.size->ay [] w1 w2->k0≠k1->k0≠k2->k1≠k2->∃J0:Nat->Prop,J0 k2/\
   th J0 k0/\
   th J0 k1/\
   ∀w3:av,ay [k1,k0] w2 w3->R (ai #[ah #[O U 0,O U 0,ab (ao #[]),O U 0,Sl.nil.v,O U 0],ah #[O U i0,O U i1]]) w3)/\
  ((i0 !=0)=false->∀k3:Nat,∀w4:av,w1.heap.size<=k3->k3<w4.heap.size->ay [] w1 w4->az aq 277 #[l0.v,O U 0] w4 fun e1 w5=>∃i2 i3:Int,∃s0:asw,∃i4:Int,∃l1:Sl,∃i5 i6 i7 i8:Int,e1=(ak (ai #[ah #[O U i2,O U i3,ab s0,O U i4,l1.v,O U i5],O U i6,ah #[O U i7,O U i8]]))/\
   aR [k0,k1,k3] w4 w5/\
   ((i7 !=0)=true->∀k4:Nat,∀w6:av,w5.heap.size<=k4->k4<w6.heap.size->ay [k3] w5 w6->k0≠k1->k0≠k3->k0≠k4->k1≠k3->k1≠k4->k3≠k4->∃J1:Nat->Prop,J1 k3/\
    th J1 k0/\
    th J1 k1/\
    ∀w7:av,ay [k1,k0] w6 w7->R (ai #[ah #[O U 0,O U 0,ab (ao #[]),O U 0,Sl.nil.v,O U 0],ah #[O U i7,O U i8]]) w7)/\
   ((i7 !=0)=false->∃p0:Addr,ck l0 i6 4 p0/\
   ∀k5:Nat,∀w8:av,w5.heap.size<=k5->k5<w8.heap.size->ay [k3] w5 w8->∃i9:Int,Cells w8 (p0.add 0) [O U i9]/\
   ((i9 !=5)=true->∀w9:av,ay [] w8 w9->k0≠k1->k0≠k3->k0≠k5->k1≠k3->k1≠k5->k3≠k5->∃J2:Nat->Prop,∃p1:Addr,ck l0 i6 4 p1/\
    J2 ((p1.add 3).block)/\
    ∃i10:Int,Cells w9 (p1.add 3) [O U i10]/\
    th J2 k0/\
    th J2 k1/\
    ∀cK:av,ay [k1,k0] w9 cK->R (ai #[ah #[O U 0,O U 0,ab (ao #[]),O U 0,Sl.nil.v,O U 0],ah #[O U 4,O U i10]]) cK)/\
   ((i9 !=5)=false->∀cY:av,ay [k1,k0] w8 cY->R (ai #[ah #[O U i2,O U i3,ab s0,O U i4,l1.v,O U i5],ah #[O U 0,O U 0]]) cY)))
theorem ahb (s:asw) (R:aA) (w:av) (h:abi s R w):Cr 233 #[ab s] w R:=
 fB (an:=.s .o (.s .o (.s (.s .o (.s (.s .o .o) .o)) (.s .o (.s (.s .o (.s (.s .o .o) .o)) (.s (.s .o (.s (.s .o .o) .o)) (.s .o .o))))))) (args:=[.str s]) h
def abj (s:asw) (R:aA) (w:av):Prop:=
 ((decide ((s.size:Int)>16384))=true->∀k0:Nat,∀w0:av,w.heap.size<=k0->k0<w0.heap.size->ay [] w w0->R (ai #[Sl.nil.v,ah #[O U 2,O U (-1)]]) w0)/\
 ((decide ((s.size:Int)>16384))=false->∀k1:Nat,∀w1:av,w.heap.size<=k1->k1<w1.heap.size->ay [] w w1->az aq 184 #[ab s,O U 0] w1 fun e0 w2=>∃i0:Int,e0=(ak (O U i0))/\
  aR [k1] w1 w2/\
  ∃J0:Nat->Sl->Int->Int->Int->av->Prop,∃k2:Nat,J0 k2 Sl.nil i0 0 0 w2/\
  ∀k3:Nat,∀l0:Sl,∀i1 i2 i3:Int,∀w3:av,J0 k3 l0 i1 i2 i3 w3->((decide (i1<(s.size:Int)))=true->az aq 185 #[ab s,O U i1] w3 fun e1 w4=>∃i4:Int,∃s0:asw,∃i5 i6 i7 i8:Int,e1=(ak (ai #[ah #[O U i4,ab s0,O U i5,O U i6],O U i7,O U i8]))/\
   aR [k1] w3 w4/\
   ((i8 !=0)=true->∀k4:Nat,∀w5:av,w4.heap.size<=k4->k4<w5.heap.size->ay [k1] w4 w5->R (ai #[Sl.nil.v,ah #[O U i8,O U i1]]) w5)/\
   ((i8 !=0)=false->∀k5:Nat,∀w6:av,w4.heap.size<=k5->k5<w6.heap.size->ay [] w4 w6->∃l1:Sl,∃w7:av,((au 124 1 #[.mk 0 (ah #[O U i4,ab s0,O U i5,O U i6])]).run aq w6)=(.ok l1.v w7)/\
   aR [k1,k5] w6 w7/\
   ∃l2:Sl,∃w8:av,((Builtin.append_ #[124,124] 124 #[l0.v,l1.v]).run aq w7)=(.ok l2.v w8)/\
   aR [k1,k5] w7 w8/\
   az aq 184 #[ab s,O U (ar U (i1+i7))] w8 fun e2 w9=>∃i9:Int,e2=(ak (O U i9))/\
    aR [k1,k5] w8 w9/\
    ∃k6:Nat,k6<k3/\
    J0 k6 l2 i9 i2 i3 w9))/\
  ((decide (i1<(s.size:Int)))=false->∃l3:Sl,∃cK:av,((au 124 1 #[.mk 0 (ah #[O U 5,ab (ao #[]),O U 0,O U (s.size:Int)])]).run aq w3)=(.ok l3.v cK)/\
  aR [k1] w3 cK/\
  ∃l4:Sl,∃cY:av,((Builtin.append_ #[124,124] 124 #[l0.v,l3.v]).run aq cK)=(.ok l4.v cY)/\
  aR [k1] cK cY/\
  ∀dz:av,ay [k1] cY dz->R (ai #[l4.v,ah #[O U 0,O U 0]]) dz))
theorem ahc (s:asw) (R:aA) (w:av) (h:abj s R w):Cr 119 #[ab s] w R:=
 fB (an:=.s .o (.s (.s .o (.s (.s .o .o) .o)) (.s .o (.s .o (.s (.j [0,3] [.s 4 .sl,.s 5 (.int .i64),.b 3 [.int .i64,.int .i64]] (.s (.s .o (.s .o .o)) (.s .o (.s (.s .o (.s (.s .o .o) .o)) (.s .o .o)))) .o) (.s .o .o)))))) (args:=[.str s]) h
def abk (s:asw) (at_:Int) (R:aA) (w:av):Prop:=
 ∃J0:Int->av->Prop,(∀i0:Int,∀w0:av,J0 i0 w0->R (O U i0) w0)/\
 ∃J1:Nat->Int->av->Prop,∃k0:Nat,J1 k0 at_ w/\
 ∀k1:Nat,∀i1:Int,∀w1:av,J1 k1 i1 w1->((decide (i1<(s.size:Int)))=true->∃c0:UInt8,(0<=i1/\
   (s[Int.toNat i1]?)=(some c0))/\
  ∃c1:UInt8,((((UInt8.toNat c0:Int)==47)&&(decide ((ar U (i1+1))<(s.size:Int))))=true->0<=(ar U (i1+1))/\
   (s[Int.toNat (ar U (i1+1))]?)=(some c1))/\
  (((((UInt8.toNat c0:Int)==47)&&(decide ((ar U (i1+1))<(s.size:Int))))&&((UInt8.toNat c1:Int)==47))=true->∃J2:Nat->Int->av->Prop,∃k4:Nat,J2 k4 i1 w1/\
   ∀k5:Nat,∀i2:Int,∀w2:av,J2 k5 i2 w2->∃c2:UInt8,((decide (i2<(s.size:Int)))=true->0<=i2/\
    (s[Int.toNat i2]?)=(some c2))/\
   (((decide (i2<(s.size:Int)))&&((UInt8.toNat c2:Int) !=10))=true->∃k7:Nat,k7<k5/\
    J2 k7 (ar U (i2+1)) w2)/\
   (((decide (i2<(s.size:Int)))&&((UInt8.toNat c2:Int) !=10))=false->∃k8:Nat,k8<k1/\
   J1 k8 i2 w2))/\
  (((((UInt8.toNat c0:Int)==47)&&(decide ((ar U (i1+1))<(s.size:Int))))&&((UInt8.toNat c1:Int)==47))=false->((((((UInt8.toNat c0:Int)==9)||((UInt8.toNat c0:Int)==10))||((UInt8.toNat c0:Int)==13))||((UInt8.toNat c0:Int)==32))=true->∃k9:Nat,k9<k1/\
   J1 k9 (ar U (i1+1)) w1)/\
  ((((((UInt8.toNat c0:Int)==9)||((UInt8.toNat c0:Int)==10))||((UInt8.toNat c0:Int)==13))||((UInt8.toNat c0:Int)==32))=false->J0 i1 w1)))/\
 ((decide (i1<(s.size:Int)))=false->J0 i1 w1)
theorem ahd (s:asw) (at_:Int) (R:aA) (w:av) (h:abk s at_ R w):Cr 184 #[ab s,O U at_] w R:=
 fB (an:=.s .o (.j [] [.s 1 (.int .i64)] (.j [0] [.s 1 (.int .i64)] (.s (.s .o (.s .o .o)) (.s .o (.s .o (.s (.j [0] [.s 1 (.int .i64)] (.s (.s .o (.s .o .o)) .o) .o) (.s .o (.s .o .o)))))) .o) (.s .o .o))) (args:=[.str s,.int .i64 at_]) h
def abl (s:asw) (at_:Int) (R:aA) (w:av):Prop:=
 ∃c0:UInt8,(0<=at_/\
  (s[Int.toNat at_]?)=(some c0))/\
 ∀k1:Nat,∀w0:av,w.heap.size<=k1->k1<w0.heap.size->ay [] w w0->az aq 160 #[.int .u8 (UInt8.toNat c0:Int)] w0 fun e0 w1=>∃b0:Bool,e0=(ak (aj b0))/\
  aR [k1] w0 w1/\
  ∃c1:UInt8,(0<=at_/\
   (s[Int.toNat at_]?)=(some c1))/\
  az aq 220 #[.int .u8 (UInt8.toNat c1:Int)] w1 fun e1 w2=>∃b1:Bool,e1=(ak (aj b1))/\
   aR [k1] w1 w2/\
   (b0=true->az aq 162 #[ab s,O U at_] w2 fun e2 w3=>∃i0:Int,e2=(ak (O U i0))/\
    aR [k1] w2 w3/\
    ∃k3 k4:Nat,(at_=(k3:Int)/\
     (ar U (at_+i0))=(k4:Int)/\
     k3<=k4/\
     k4<=s.size)/\
    ∀k5:Nat,∀w4:av,w3.heap.size<=k5->k5<w4.heap.size->ay [] w3 w4->az aq 161 #[ab (s.extract k3 k4)] w4 fun e3 w5=>∃b2:Bool,e3=(ak (aj b2))/\
     aR [k1,k5] w4 w5/\
     ∃J0:Int->asw->Int->Int->av->Prop,(∀i1:Int,∀s2:asw,∀i2 i3:Int,∀w6:av,J0 i1 s2 i2 i3 w6->((decide (i0>24))=true->∀w7:av,ay [k1] w6 w7->R (ai #[ah #[O U 0,ab (ao #[]),O U 0,O U 0],O U 0,O U 2]) w7)/\
      ((decide (i0>24))=false->∀w8:av,ay [k1] w6 w8->R (ai #[ah #[O U i1,ab s2,O U i2,O U i3],O U i0,O U 0]) w8))/\
     (b2=true->∀w9:av,ay [k5] w5 w9->J0 2 (s.extract k3 k4) 0 at_ w9)/\
     (b2=false->J0 1 (s.extract k3 k4) 0 at_ w5))/\
   (b0=false->(b1=true->∃k6:Nat,(at_=(k6:Int)/\
     k6<=s.size)/\
    az aq 234 #[ab (s.extract k6 s.size)] w2 fun e4 cK=>∃i4 i5 i6:Int,e4=(ak (ai #[O U i4,O U i5,O U i6]))/\
     aR [k1] w2 cK/\
     ((i6 !=0)=true->∀cY:av,ay [k1] cK cY->R (ai #[ah #[O U 0,ab (ao #[]),O U 0,O U 0],O U 0,O U i6]) cY)/\
     ((i6 !=0)=false->az aq 162 #[ab s,O U at_] cK fun e5 dz=>∃i7:Int,e5=(ak (O U i7))/\
      aR [k1] cK dz/\
      ((decide (i7>i5))=true->∀dF:av,ay [k1] dz dF->R (ai #[ah #[O U 0,ab (ao #[]),O U 0,O U 0],O U 0,O U 4]) dF)/\
      ((decide (i7>i5))=false->∀eI:av,ay [k1] dz eI->R (ai #[ah #[O U 3,ab (ao #[]),O U i4,O U at_],O U i5,O U 0]) eI)))/\
   (b1=false->az aq 235 #[ab s,O U at_] w2 fun e6 fQ=>∃i8:Int,e6=(ak (O U i8))/\
    aR [k1] w2 fQ/\
    ((i8==0)=true->∀gP:av,ay [k1] fQ gP->R (ai #[ah #[O U 0,ab (ao #[]),O U 0,O U 0],O U 0,O U 4]) gP)/\
    ((i8==0)=false->∃k7 k8:Nat,(at_=(k7:Int)/\
     (ar U (at_+i8))=(k8:Int)/\
     k7<=k8/\
     k8<=s.size)/\
    ∀fY:av,ay [k1] fQ fY->R (ai #[ah #[O U 4,ab (s.extract k7 k8),O U 0,O U at_],O U i8,O U 0]) fY)))
theorem ahe (s:asw) (at_:Int) (R:aA) (w:av) (h:abl s at_ R w):Cr 185 #[ab s,O U at_] w R:=
 fB (an:=.s .o (.s .o (.s .o (.s (.s .o (.s (.s .o (.s .o (.s .o (.j [4,9,10] [.b 10 [.int .i64,.str,.int .i64,.int .i64]] (.s .o (.s .o .o)) (.s (.s .o (.s (.s .o .o) .o)) (.s .o .o)))))) .o)) (.s (.s .o (.s (.s .o (.s (.s .o (.s (.s .o .o) .o)) (.s (.s .o (.s (.s .o .o) .o)) (.s .o .o)))) .o)) (.s .o (.s (.s .o (.s (.s .o .o) .o)) (.s .o .o)))))))) (args:=[.str s,.int .i64 at_]) h
def abm (s:asw) (R:aA) (w:av):Prop:=
 (((s.size:Int)==0)=true->R (ai #[O U 0,O U 0,O U 3]) w)/\
 (((s.size:Int)==0)=false->∃J0:Nat->Int->av->Prop,∃k0:Nat,J0 k0 0 w/\
 ∀k1:Nat,∀i0:Int,∀w0:av,J0 k1 i0 w0->∃c0:UInt8,((decide (i0<(s.size:Int)))=true->0<=i0/\
  (s[Int.toNat i0]?)=(some c0))/\
 ∃c1:UInt8,(((decide (i0<(s.size:Int)))&&(decide ((UInt8.toNat c0:Int)>=48)))=true->0<=i0/\
  (s[Int.toNat i0]?)=(some c1))/\
 ((((decide (i0<(s.size:Int)))&&(decide ((UInt8.toNat c0:Int)>=48)))&&(decide ((UInt8.toNat c1:Int)<=57)))=true->∃k4:Nat,k4<k1/\
  J0 k4 (ar U (i0+1)) w0)/\
 ((((decide (i0<(s.size:Int)))&&(decide ((UInt8.toNat c0:Int)>=48)))&&(decide ((UInt8.toNat c1:Int)<=57)))=false->∃c2:UInt8,((i0==0)=false->(decide (i0>1))=true->(0:Int)<=0/\
  s[0]? =(some c2))/\
 (((i0==0)||((decide (i0>1))&&((UInt8.toNat c2:Int)==48)))=true->R (ai #[O U 0,O U 0,O U 4]) w0)/\
 (((i0==0)||((decide (i0>1))&&((UInt8.toNat c2:Int)==48)))=false->∃J1:Nat->Int->Int->av->Prop,∃k6:Nat,J1 k6 0 0 w0/\
 ∀k7:Nat,∀i1 i2:Int,∀w1:av,J1 k7 i1 i2 w1->((decide (i2<i0))=true->∃c3:UInt8,(0<=i2/\
   (s[Int.toNat i2]?)=(some c3))/\
  ((decide (i1>(ar U ((ar U (9223372036854775807-(ar U (ar .u8 ((UInt8.toNat c3:Int)-48))))).tdiv 10))))=true->R (ai #[O U 0,O U 0,O U 20]) w1)/\
  ((decide (i1>(ar U ((ar U (9223372036854775807-(ar U (ar .u8 ((UInt8.toNat c3:Int)-48))))).tdiv 10))))=false->∃k9:Nat,k9<k7/\
  J1 k9 (ar U ((ar U (10*i1))+(ar U (ar .u8 ((UInt8.toNat c3:Int)-48))))) (ar U (i2+1)) w1))/\
 ((decide (i2<i0))=false->R (ai #[O U i1,O U i0,O U 0]) w1))))
theorem ahf (s:asw) (R:aA) (w:av) (h:abm s R w):Cr 234 #[ab s] w R:=
 fB (an:=.s .o (.s (.s .o (.s (.s .o .o) .o)) (.s .o (.s (.j [0] [.s 5 (.int .i64)] (.s (.s .o (.s .o .o)) .o) .o) (.s (.s .o (.s (.s .o .o) .o)) (.s .o (.s (.s .o (.j [0,5] [.s 6 (.int .i64),.s 7 (.int .i64)] (.s (.s .o (.s .o .o)) (.s (.s .o (.s (.s .o (.s (.s .o .o) .o)) .o)) .o)) .o)) (.s .o .o)))))))) (args:=[.str s]) h
def abn (s:asw) (at_:Int) (R:aA) (w:av):Prop:=
 ∃l0:Sl,∃w0:av,((au 52 7 #[.mk 0 (ab (ao #[45,62])),.mk 1 (ab (ao #[60,61])),.mk 2 (ab (ao #[62,61])),.mk 3 (ab (ao #[61,61])),.mk 4 (ab (ao #[33,61])),.mk 5 (ab (ao #[38,38])),.mk 6 (ab (ao #[124,124]))]).run aq w)=(.ok l0.v w0)/\
 ∃J0:Nat->Int->av->Prop,∃k0:Nat,J0 k0 0 w0/\
 ∀k1:Nat,∀i0:Int,∀w1:av,J0 k1 i0 w1->((decide (i0<(l0.n:Int)))=true->∃k2 k3:Nat,((decide ((ar U (at_+2))<=(s.size:Int)))=true->at_=(k2:Int)/\
   (ar U (at_+2))=(k3:Int)/\
   k2<=k3/\
   k3<=s.size)/\
  ∃p0:Addr,((decide ((ar U (at_+2))<=(s.size:Int)))=true->ck l0 i0 1 p0)/\
  ∃s0:asw,((decide ((ar U (at_+2))<=(s.size:Int)))=true->Cells w1 p0 [ab s0])/\
  (((decide ((ar U (at_+2))<=(s.size:Int)))&&(((s.extract k2 k3).toList)==s0.toList))=true->∀w2:av,ay [] w1 w2->R (O U 2) w2)/\
  (((decide ((ar U (at_+2))<=(s.size:Int)))&&(((s.extract k2 k3).toList)==s0.toList))=false->∀w3:av,ay [] w1 w3->∃k4:Nat,k4<k1/\
  J0 k4 (ar U (i0+1)) w3))/\
 ((decide (i0<(l0.n:Int)))=false->∃J1:Nat->Int->av->Prop,∃k5:Nat,J1 k5 0 w1/\
 ∀k6:Nat,∀i1:Int,∀w4:av,J1 k6 i1 w4->((decide (i1<17))=true->∃c0:UInt8,(0<=at_/\
   (s[Int.toNat at_]?)=(some c0))/\
  ∃c1:UInt8,(0<=i1/\
   ((ao #[123,125,40,41,91,93,59,44,61,43,45,42,47,37,60,62,33])[Int.toNat i1]?)=(some c1))/\
  (((UInt8.toNat c0:Int)==(UInt8.toNat c1:Int))=true->∀w5:av,ay [] w4 w5->R (O U 1) w5)/\
  (((UInt8.toNat c0:Int)==(UInt8.toNat c1:Int))=false->∀w6:av,ay [] w4 w6->∃k9:Nat,k9<k6/\
  J1 k9 (ar U (i1+1)) w6))/\
 ((decide (i1<17))=false->R (O U 0) w4))
theorem ahg (s:asw) (at_:Int) (R:aA) (w:av) (h:abn s at_ R w):Cr 235 #[ab s,O U at_] w R:=
 fB (an:=.s .o (.s .o (.s (.s .o (.j [0,1,5] [.s 6 (.int .i64)] (.s (.s .o (.s .o .o)) (.s (.s .o (.s (.s .o .o) .o)) .o)) .o)) (.s .o (.s (.s .o (.j [0,1,7] [.s 8 (.int .i64)] (.s (.s .o (.s .o .o)) (.s (.s .o (.s (.s .o .o) .o)) .o)) .o)) (.s .o .o)))))) (args:=[.str s,.int .i64 at_]) h
def abo (l:Sl) (at_:Int) (R:aA) (w:av):Prop:=
 (((decide (at_<0))||(decide (at_>=(l.n:Int))))=true->∀k0 k1:Nat,∀w0:av,w.heap.size<=k0->k0<w0.heap.size->w.heap.size<=k1->k1<w0.heap.size->ay [] w w0->R (ai #[ah #[O U 0,O U 0,ab (ao #[]),O U 0,Sl.nil.v,O U 0],O U 0,ah #[O U 1,O U (-1)]]) w0)/\
 (((decide (at_<0))||(decide (at_>=(l.n:Int))))=false->∀k2 k3:Nat,∀w1:av,w.heap.size<=k2->k2<w1.heap.size->w.heap.size<=k3->k3<w1.heap.size->ay [] w w1->∃J0:Nat->Int->Int->Int->asw->Int->Sl->Int->Int->Int->av->Prop,∃k4:Nat,J0 k4 0 0 0 (ao #[]) 0 Sl.nil 0 0 0 w1/\
 ∀k5:Nat,∀i0 i1 i2:Int,∀s0:asw,∀i3:Int,∀l0:Sl,∀i4 i5 i6:Int,∀w2:av,J0 k5 i0 i1 i2 s0 i3 l0 i4 i5 i6 w2->((decide (i0<(l.n:Int)))=true->∃p0:Addr,ck l i0 4 p0/\
  ∃i7:Int,Cells w2 (p0.add 0) [O U i7]/\
  ((!((i7==5)==(i0==(ar U ((l.n:Int)-1)))))=true->∀w3:av,ay [k3,k2] w2 w3->R (ai #[ah #[O U 0,O U 0,ab (ao #[]),O U 0,Sl.nil.v,O U 0],O U 0,ah #[O U 1,O U (-1)]]) w3)/\
  ((!((i7==5)==(i0==(ar U ((l.n:Int)-1)))))=false->∃k6:Nat,k6<k5/\
  J0 k6 (ar U (i0+1)) i1 i2 s0 i3 l0 i4 i5 i6 w2))/\
 ((decide (i0<(l.n:Int)))=false->∀k7:Nat,∀w4:av,w2.heap.size<=k7->k7<w4.heap.size->ay [] w2 w4->Blk w4 k7 320 [l.v,O U at_,O U 0,O U 0,O U 0]->az aq 300 #[ae (some ⟨k7,0,none⟩),O U 0] w4 fun e0 w5=>∃i8 i9:Int,∃s1:asw,∃i10:Int,∃l1:Sl,∃i11:Int,e0=(ak (ah #[O U i8,O U i9,ab s1,O U i10,l1.v,O U i11]))/\
  aR [k2,k3] w4 w5/\
  ∃l2:Sl,∃i12 i13 i14 i15:Int,Blk w5 k7 320 [l2.v,O U i12,O U i13,O U i14,O U i15]/\
  ((i14 !=0)=true->∀k8:Nat,∀w6:av,w5.heap.size<=k8->k8<w6.heap.size->ay [] w5 w6->Blk w6 k7 320 [l2.v,O U i12,O U i13,O U i14,O U i15]->k2≠k3->k2≠k7->k2≠k8->k3≠k7->k3≠k8->k7≠k8->∃J1:Nat->Prop,J1 k7/\
   th J1 k2/\
   th J1 k3/\
   ∀w7:av,ay [k3,k2] w6 w7->Blk w7 k7 320 [l2.v,O U i12,O U i13,O U i14,O U i15]->R (ai #[ah #[O U 0,O U 0,ab (ao #[]),O U 0,Sl.nil.v,O U 0],O U 0,ah #[O U i14,O U i15]]) w7)/\
  ((i14 !=0)=false->∀k9:Nat,∀w8:av,w5.heap.size<=k9->k9<w8.heap.size->ay [] w5 w8->Blk w8 k7 320 [l2.v,O U i12,O U i13,O U i14,O U i15]->k2≠k3->k2≠k7->k2≠k9->k3≠k7->k3≠k9->k7≠k9->∃J2:Nat->Prop,J2 k7/\
  th J2 k2/\
  th J2 k3/\
  ∀w9:av,ay [k3,k2] w8 w9->Blk w9 k7 320 [l2.v,O U i12,O U i13,O U i14,O U i15]->R (ai #[ah #[O U i8,O U i9,ab s1,O U i10,l1.v,O U i11],O U i12,ah #[O U 0,O U 0]]) w9)))
theorem ahh (l:Sl) (at_:Int) (R:aA) (w:av) (h:abo l at_ R w):Cr 277 #[l.v,O U at_] w R:=
 fB (an:=.s .o (.s (.s .o (.s (.s .o .o) .o)) (.s (.s .o (.j [0,1,4,6] [.s 7 (.int .i64),.b 4 [.int .i64,.int .i64,.str,.int .i64,.sl,.int .i64],.b 6 [.int .i64,.int .i64]] (.s (.s .o (.s .o .o)) (.s (.s .o (.s (.s .o .o) .o)) .o)) .o)) (.s .o (.s .o (.s (.s .o (.s (.s .o .o) .o)) (.s .o .o))))))) (args:=[.sl l,.int .i64 at_]) h
def Vb (r:Addr) (k:Int) (R:aA) (w:av):Prop:=
 ((k==6)=true->∀k0:Nat,∀w0:av,w.heap.size<=k0->k0<w0.heap.size->ay [] w w0->az aq 311 #[ae (some r)] w0 fun e0 w1=>∃i0 i1:Int,∃s0:asw,∃i2:Int,∃l0:Sl,∃i3:Int,e0=(ak (ah #[O U i0,O U i1,ab s0,O U i2,l0.v,O U i3]))/\
  aR [k0] w0 w1/\
  ∀w2:av,ay [k0] w1 w2->R (ah #[O U i0,O U i1,ab s0,O U i2,l0.v,O U i3]) w2)/\
 ((k==6)=false->∀k1:Nat,∀w3:av,w.heap.size<=k1->k1<w3.heap.size->ay [] w w3->az aq 300 #[ae (some r),O U (ar U (k+1))] w3 fun e1 w4=>∃i4 i5:Int,∃s1:asw,∃i6:Int,∃l1:Sl,∃i7:Int,e1=(ak (ah #[O U i4,O U i5,ab s1,O U i6,l1.v,O U i7]))/\
  aR [k1] w3 w4/\
  ∀k2:Nat,∀w5:av,w4.heap.size<=k2->k2<w5.heap.size->ay [] w4 w5->az aq 312 #[ae (some r),O U k] w5 fun e2 w6=>∃i8:Int,e2=(ak (O U i8))/\
   aR [k1,k2] w5 w6/\
   ∃J0:Nat->Int->Int->Int->asw->Int->Sl->Int->av->Prop,∃k3:Nat,J0 k3 i8 i4 i5 s1 i6 l1 i7 w6/\
   ∀k4:Nat,∀i9 i10 i11:Int,∀s2:asw,∀i12:Int,∀l2:Sl,∀i13:Int,∀w7:av,J0 k4 i9 i10 i11 s2 i12 l2 i13 w7->((i9 !=0)=true->∃i14:Int,Cells w7 (r.add 1) [O U i14]/\
    ∃k5 k6:Nat,∃z0:List aw,∃k7:Nat,(r.add 1)=⟨k5,k6,none⟩/\
    Blk w7 k5 k7 z0/\
    (k6+1)<=z0.length/\
    k1≠k5/\
    k2≠k5/\
    ∀w8:av,ay [k5] w7 w8->Blk w8 k5 k7 (bO z0 k6 [O U (ar U (i14+1))])->az aq 300 #[ae (some r),O U (ar U (k+1))] w8 fun e3 w9=>∃i15 i16:Int,∃s3:asw,∃i17:Int,∃l3:Sl,∃i18:Int,e3=(ak (ah #[O U i15,O U i16,ab s3,O U i17,l3.v,O U i18]))/\
     aR [k1,k2] w8 w9/\
     ∀k8:Nat,∀cK:av,w9.heap.size<=k8->k8<cK.heap.size->ay [] w9 cK->∃l4:Sl,∃cY:av,((au 49 2 #[.mk 0 (ah #[O U i10,O U i11,ab s2,O U i12,l2.v,O U i13]),.mk 1 (ah #[O U i15,O U i16,ab s3,O U i17,l3.v,O U i18])]).run aq cK)=(.ok l4.v cY)/\
     aR [k1,k2,k8] cK cY/\
     ∀dz:av,ay [k2] cY dz->az aq 312 #[ae (some r),O U k] dz fun e4 dF=>∃i19:Int,e4=(ak (O U i19))/\
      aR [k1,k2,k8] dz dF/\
      ∃k9:Nat,k9<k4/\
      J0 k9 i19 5 0 (ao #[]) i9 l4 i13 dF)/\
   ((i9 !=0)=false->∀eI:av,ay [k1] w7 eI->R (ah #[O U i10,O U i11,ab s2,O U i12,l2.v,O U i13]) eI))
theorem abp (r:Addr) (k:Int) (R:aA) (w:av) (h:Vb r k R w):Cr 300 #[ae (some r),O U k] w R:=
 fB (an:=.s .o (.s (.s .o (.s (.s .o .o) .o)) (.s .o (.s .o (.s (.j [0,1,4,5] [.s 6 (.int .i64),.b 5 [.int .i64,.int .i64,.str,.int .i64,.sl,.int .i64]] (.s (.s .o (.s .o .o)) (.s .o (.s .o (.s .o .o)))) .o) (.s .o .o)))))) (args:=[.ad r,.int .i64 k]) h
def abq (r:Addr) (R:aA) (w:av):Prop:=
 ∀k0:Nat,∀w0:av,w.heap.size<=k0->k0<w0.heap.size->ay [] w w0->∃J0:Nat->Prop,J0 ((r.add 0).block)/\
 ∃l0:Sl,Cells w0 (r.add 0) [l0.v]/\
 J0 ((r.add 1).block)/\
 ∃i0:Int,Cells w0 (r.add 1) [O U i0]/\
 ∃p0:Addr,ck l0 i0 4 p0/\
 J0 p0.block/\
 ∃i1:Int,∃s0:asw,∃i2 i3:Int,Cells w0 p0 [O U i1,ab s0,O U i2,O U i3]/\
 ∀k1:Nat,∀w1:av,w0.heap.size<=k1->k1<w1.heap.size->ay [] w0 w1->az aq 320 #[ae (some r),ab (ao #[45])] w1 fun e0 w2=>∃b0:Bool,e0=(ak (aj b0))/\
  aR [k0,k1] w1 w2/\
  az aq 320 #[ae (some r),ab (ao #[33])] w2 fun e1 w3=>∃b1:Bool,e1=(ak (aj b1))/\
   aR [k0,k1] w2 w3/\
   az aq 320 #[ae (some r),ab (ao #[40])] w3 fun e2 w4=>∃b2:Bool,e2=(ak (aj b2))/\
    aR [k0,k1] w3 w4/\
    ∃i4:Int,Cells w4 ((r.add 3).add 0) [O U i4]/\
    ((i4 !=0)=true->∀w5:av,ay [k0] w4 w5->R (ah #[O U 0,O U 0,ab (ao #[]),O U 0,Sl.nil.v,O U 0]) w5)/\
    ((i4 !=0)=false->((b0||b1)=true->az aq 321 #[ae (some r)] w4 fun e3 w6=>∃b3:Bool,e3=(ak (aj b3))/\
     aR [k0,k1] w4 w6/\
     ((!b3)=true->∀w7:av,ay [k0] w6 w7->R (ah #[O U 0,O U 0,ab (ao #[]),O U 0,Sl.nil.v,O U 0]) w7)/\
     ((!b3)=false->az aq 311 #[ae (some r)] w6 fun e4 w8=>∃i5 i6:Int,∃s1:asw,∃i7:Int,∃l1:Sl,∃i8:Int,e4=(ak (ah #[O U i5,O U i6,ab s1,O U i7,l1.v,O U i8]))/\
      aR [k0,k1] w6 w8/\
      ∀k2:Nat,∀w9:av,w8.heap.size<=k2->k2<w9.heap.size->ay [] w8 w9->∃i9:Int,Cells w9 (r.add 2) [O U i9]/\
      ∃k3 k4:Nat,∃z0:List aw,∃k5:Nat,(r.add 2)=⟨k3,k4,none⟩/\
      Blk w9 k3 k5 z0/\
      (k4+1)<=z0.length/\
      k0≠k3/\
      k1≠k3/\
      k2≠k3/\
      ∀cK:av,ay [k3] w9 cK->Blk cK k3 k5 (bO z0 k4 [O U (ar U (i9-1))])->∃J1:Int->av->Prop,(∀i10:Int,∀cY:av,J1 i10 cY->∃l2:Sl,∃dz:av,((au 49 1 #[.mk 0 (ah #[O U i5,O U i6,ab s1,O U i7,l1.v,O U i8])]).run aq cY)=(.ok l2.v dz)/\
       aR [k0,k1,k2] cY dz/\
       ∀dF:av,ay [k0] dz dF->R (ah #[O U 4,O U 0,ab (ao #[]),O U i10,l2.v,O U i3]) dF)/\
      (b1=true->J1 15 cK)/\
      (b1=false->J1 14 cK)))/\
    ((b0||b1)=false->(b2=true->az aq 321 #[ae (some r)] w4 fun e5 eI=>∃b4:Bool,e5=(ak (aj b4))/\
     aR [k0,k1] w4 eI/\
     ((!b4)=true->∀fQ:av,ay [k0] eI fQ->R (ah #[O U 0,O U 0,ab (ao #[]),O U 0,Sl.nil.v,O U 0]) fQ)/\
     ((!b4)=false->az aq 300 #[ae (some r),O U 0] eI fun e6 gP=>∃i11 i12:Int,∃s2:asw,∃i13:Int,∃l3:Sl,∃i14:Int,e6=(ak (ah #[O U i11,O U i12,ab s2,O U i13,l3.v,O U i14]))/\
      aR [k0,k1] eI gP/\
      ∀k6:Nat,∀fY:av,gP.heap.size<=k6->k6<fY.heap.size->ay [] gP fY->az aq 322 #[ae (some r),ab (ao #[41])] fY fun e7 iv=>e7=(ak (ai #[]))/\
       aR [k0,k1,k6] fY iv/\
       ∃i15:Int,Cells iv (r.add 2) [O U i15]/\
       ∃k7 k8:Nat,∃z1:List aw,∃k9:Nat,(r.add 2)=⟨k7,k8,none⟩/\
       Blk iv k7 k9 z1/\
       (k8+1)<=z1.length/\
       k0≠k7/\
       k1≠k7/\
       k6≠k7/\
       ∀ji:av,ay [k7] iv ji->Blk ji k7 k9 (bO z1 k8 [O U (ar U (i15-1))])->∀iw:av,ay [k0] ji iw->R (ah #[O U i11,O U i12,ab s2,O U i13,l3.v,O U i14]) iw))/\
    (b2=false->((i1==3)=true->∃i16:Int,Cells w4 (r.add 1) [O U i16]/\
     ∃rn ou:Nat,∃z2:List aw,∃ER:Nat,(r.add 1)=⟨rn,ou,none⟩/\
     Blk w4 rn ER z2/\
     (ou+1)<=z2.length/\
     k0≠rn/\
     k1≠rn/\
     ∀j9:av,ay [rn] w4 j9->Blk j9 rn ER (bO z2 ou [O U (ar U (i16+1))])->∀nU:av,ay [k0] j9 nU->R (ah #[O U 1,O U i2,ab (ao #[]),O U 0,Sl.nil.v,O U i3]) nU)/\
    ((i1==3)=false->((i1==1)=true->∃i17:Int,Cells w4 (r.add 1) [O U i17]/\
     ∃sY I3:Nat,∃z3:List aw,∃Kn:Nat,(r.add 1)=⟨sY,I3,none⟩/\
     Blk w4 sY Kn z3/\
     (I3+1)<=z3.length/\
     k0≠sY/\
     k1≠sY/\
     ∀pc:av,ay [sY] w4 pc->Blk pc sY Kn (bO z3 I3 [O U (ar U (i17+1))])->∀qg:av,ay [k0] pc qg->R (ah #[O U 2,O U 0,ab s0,O U 0,Sl.nil.v,O U i3]) qg)/\
    ((i1==1)=false->(((i1==2)&&(s0.toList==((ao #[105,110]).toList)))=true->az aq 323 #[ae (some r)] w4 fun e8 mL=>∃i18 i19:Int,∃s3:asw,∃i20:Int,∃l4:Sl,∃i21:Int,e8=(ak (ah #[O U i18,O U i19,ab s3,O U i20,l4.v,O U i21]))/\
     aR [k0,k1] w4 mL/\
     ∀oe:av,ay [k0] mL oe->R (ah #[O U i18,O U i19,ab s3,O U i20,l4.v,O U i21]) oe)/\
    (((i1==2)&&(s0.toList==((ao #[105,110]).toList)))=false->az aq 324 #[ae (some r)] w4 fun e9 pT=>e9=(ak (ai #[]))/\
     aR [k0,k1] w4 pT/\
     ∀tI:av,ay [k0] pT tI->R (ah #[O U 0,O U 0,ab (ao #[]),O U 0,Sl.nil.v,O U 0]) tI))))))
theorem ahi (r:Addr) (R:aA) (w:av) (h:abq r R w):Cr 311 #[ae (some r)] w R:=
 fB (an:=.s .o (.s .o (.s .o (.s .o (.s .o (.s (.s .o (.s (.s .o .o) (.s .o (.s (.s .o (.s (.s .o (.s (.s .o .o) .o)) (.s .o (.s .o (.s .o (.j [2,3,8] [.s 9 (.int .i64)] (.s .o (.s .o .o)) (.s .o .o))))))) (.s .o (.s (.s .o (.s (.s .o (.s (.s .o .o) .o)) (.s .o (.s .o (.s .o (.s .o .o)))))) (.s .o (.s (.s .o (.s .o .o)) (.s .o (.s (.s .o (.s .o .o)) (.s .o (.s (.s .o .o) .o)))))))))))) (.s .o (.s .o .o)))))))) (args:=[.ad r]) h
def abr (r:Addr) (s:asw) (R:aA) (w:av):Prop:=
 ∀w0:av,ay [] w w0->∃J0:Nat->Prop,J0 ((r.add 0).block)/\
 ∃l0:Sl,Cells w0 (r.add 0) [l0.v]/\
 J0 ((r.add 1).block)/\
 ∃i0:Int,Cells w0 (r.add 1) [O U i0]/\
 ∃p0:Addr,ck l0 i0 4 p0/\
 J0 p0.block/\
 ∃i1:Int,∃s0:asw,∃i2 i3:Int,Cells w0 p0 [O U i1,ab s0,O U i2,O U i3]/\
 ∀k0:Nat,∀w1:av,w0.heap.size<=k0->k0<w1.heap.size->ay [] w0 w1->∃i4:Int,Cells w1 ((r.add 3).add 0) [O U i4]/\
 R (aj (((i4==0)&&(i1==4))&&(s0.toList==s.toList))) w1
theorem ahj (r:Addr) (s:asw) (R:aA) (w:av) (h:abr r s R w):Cr 320 #[ae (some r),ab s] w R:=
 fB (an:=.s .o (.s .o (.s .o .o))) (args:=[.ad r,.str s]) h
def abt (r:Addr) (R:aA) (w:av):Prop:=
 ∃i0:Int,Cells w (r.add 2) [O U i0]/\
 ((i0==20)=true->az aq 335 #[ae (some r),O U 21] w fun e0 w0=>e0=(ak (ai #[]))/\
  R (aj false) w0)/\
 ((i0==20)=false->∃i1:Int,Cells w (r.add 2) [O U i1]/\
 ∃k0 k1:Nat,∃z0:List aw,∃k2:Nat,(r.add 2)=⟨k0,k1,none⟩/\
 Blk w k0 k2 z0/\
 (k1+1)<=z0.length/\
 ∀w1:av,ay [k0] w w1->Blk w1 k0 k2 (bO z0 k1 [O U (ar U (i1+1))])->∃i2:Int,Cells w1 (r.add 1) [O U i2]/\
 ∃k3 k4:Nat,∃z1:List aw,∃k5:Nat,(r.add 1)=⟨k3,k4,none⟩/\
 Blk w1 k3 k5 z1/\
 (k4+1)<=z1.length/\
 ∀w2:av,ay [k3] w1 w2->Blk w2 k3 k5 (bO z1 k4 [O U (ar U (i2+1))])->R (aj true) w2)
theorem ahk (r:Addr) (R:aA) (w:av) (h:abt r R w):Cr 321 #[ae (some r)] w R:=
 fB (an:=.s .o (.s (.s .o (.s (.s .o (.s .o .o)) .o)) (.s .o (.s .o (.s .o .o))))) (args:=[.ad r]) h
def abu (r:Addr) (e_:Int) (R:aA) (w:av):Prop:=
 ∃i0:Int,Cells w ((r.add 3).add 0) [O U i0]/\
 ((i0==0)=true->∀w0:av,ay [] w w0->∃l0:Sl,Cells w0 (r.add 0) [l0.v]/\
  ∃i1:Int,Cells w0 (r.add 1) [O U i1]/\
  ∃p0:Addr,ck l0 i1 4 p0/\
  ∃i2:Int,Cells w0 (p0.add 3) [O U i2]/\
  ∃k0 k1:Nat,∃z0:List aw,∃k2:Nat,(r.add 3)=⟨k0,k1,none⟩/\
  Blk w0 k0 k2 z0/\
  (k1+2)<=z0.length/\
  ∀w1:av,ay [k0] w0 w1->Blk w1 k0 k2 (bO z0 k1 [O U e_,O U i2])->R (ai #[]) w1)/\
 ((i0==0)=false->R (ai #[]) w)
theorem ahl (r:Addr) (e_:Int) (R:aA) (w:av) (h:abu r e_ R w):Cr 335 #[ae (some r),O U e_] w R:=
 fB (an:=.s .o (.s .o .o)) (args:=[.ad r,.int .i64 e_]) h
def abv (r:Addr) (s:asw) (R:aA) (w:av):Prop:=
 az aq 320 #[ae (some r),ab s] w fun e0 w0=>∃b0:Bool,e0=(ak (aj b0))/\
  ((!b0)=true->az aq 324 #[ae (some r)] w0 fun e1 w1=>e1=(ak (ai #[]))/\
   R (ai #[]) w1)/\
  ((!b0)=false->∃i0:Int,Cells w0 (r.add 1) [O U i0]/\
  ∃k0 k1:Nat,∃z0:List aw,∃k2:Nat,(r.add 1)=⟨k0,k1,none⟩/\
  Blk w0 k0 k2 z0/\
  (k1+1)<=z0.length/\
  ∀w2:av,ay [k0] w0 w2->Blk w2 k0 k2 (bO z0 k1 [O U (ar U (i0+1))])->R (ai #[]) w2)
theorem ahm (r:Addr) (s:asw) (R:aA) (w:av) (h:abv r s R w):Cr 322 #[ae (some r),ab s] w R:=
 fB (an:=.s .o (.s (.s .o (.s (.s .o .o) .o)) .o)) (args:=[.ad r,.str s]) h
def abw (r:Addr) (R:aA) (w:av):Prop:=
 ∃l0:Sl,Cells w (r.add 0) [l0.v]/\
 ∃i0:Int,Cells w (r.add 1) [O U i0]/\
 ∃p0:Addr,ck l0 i0 4 p0/\
 ∃i1:Int,Cells w (p0.add 0) [O U i1]/\
 ((i1==5)=true->∀w0:av,ay [] w w0->az aq 335 #[ae (some r),O U 3] w0 fun e0 w1=>e0=(ak (ai #[]))/\
  R (ai #[]) w1)/\
 ((i1==5)=false->∀w2:av,ay [] w w2->az aq 335 #[ae (some r),O U 4] w2 fun e1 w3=>e1=(ak (ai #[]))/\
  R (ai #[]) w3)
theorem ahn (r:Addr) (R:aA) (w:av) (h:abw r R w):Cr 324 #[ae (some r)] w R:=
 fB (an:=.s (.s .o (.s (.s .o .o) .o)) .o) (args:=[.ad r]) h
def abx (r:Addr) (R:aA) (w:av):Prop:=
 ∀k0:Nat,∀w0:av,w.heap.size<=k0->k0<w0.heap.size->ay [] w w0->∃J0:Nat->Prop,J0 ((r.add 0).block)/\
 ∃l0:Sl,Cells w0 (r.add 0) [l0.v]/\
 J0 ((r.add 1).block)/\
 ∃i0:Int,Cells w0 (r.add 1) [O U i0]/\
 ∃p0:Addr,ck l0 i0 4 p0/\
 J0 ((p0.add 3).block)/\
 ∃i1:Int,Cells w0 (p0.add 3) [O U i1]/\
 ∀k1:Nat,∀w1:av,w0.heap.size<=k1->k1<w1.heap.size->ay [] w0 w1->∃i2:Int,Cells w1 (r.add 1) [O U i2]/\
 ∃k2 k3:Nat,∃z0:List aw,∃k4:Nat,(r.add 1)=⟨k2,k3,none⟩/\
 Blk w1 k2 k4 z0/\
 (k3+1)<=z0.length/\
 k0≠k2/\
 k1≠k2/\
 ∀w2:av,ay [k2] w1 w2->Blk w2 k2 k4 (bO z0 k3 [O U (ar U (i2+1))])->az aq 322 #[ae (some r),ab (ao #[40])] w2 fun e0 w3=>e0=(ak (ai #[]))/\
  aR [k0,k1] w2 w3/\
  ∃i3:Int,Cells w3 ((r.add 3).add 0) [O U i3]/\
  ((i3 !=0)=true->∀w4:av,ay [k0] w3 w4->R (ah #[O U 3,O U 0,ab (ao #[]),O U 0,Sl.nil.v,O U i1]) w4)/\
  ((i3 !=0)=false->∃l1:Sl,Cells w3 (r.add 0) [l1.v]/\
  ∃i4:Int,Cells w3 (r.add 1) [O U i4]/\
  ∃p1:Addr,ck l1 i4 4 p1/\
  ∃i5:Int,Cells w3 (p1.add 0) [O U i5]/\
  ((i5 !=1)=true->∀w5:av,ay [] w3 w5->az aq 324 #[ae (some r)] w5 fun e1 w6=>e1=(ak (ai #[]))/\
   aR [k0,k1] w5 w6/\
   ∀w7:av,ay [k0] w6 w7->R (ah #[O U 3,O U 0,ab (ao #[]),O U 0,Sl.nil.v,O U i1]) w7)/\
  ((i5 !=1)=false->∀w8:av,ay [] w3 w8->∃l2:Sl,Cells w8 (r.add 0) [l2.v]/\
  ∃i6:Int,Cells w8 (r.add 1) [O U i6]/\
  ∃p2:Addr,ck l2 i6 4 p2/\
  ∃s0:asw,Cells w8 (p2.add 1) [ab s0]/\
  ∀w9:av,ay [k1] w8 w9->∃i7:Int,Cells w9 (r.add 1) [O U i7]/\
  ∃k5 k6:Nat,∃z1:List aw,∃k7:Nat,(r.add 1)=⟨k5,k6,none⟩/\
  Blk w9 k5 k7 z1/\
  (k6+1)<=z1.length/\
  k0≠k5/\
  k1≠k5/\
  ∀cK:av,ay [k5] w9 cK->Blk cK k5 k7 (bO z1 k6 [O U (ar U (i7+1))])->az aq 322 #[ae (some r),ab (ao #[41])] cK fun e2 cY=>e2=(ak (ai #[]))/\
   aR [k0,k1] cK cY/\
   ∀dz:av,ay [k0] cY dz->R (ah #[O U 3,O U 0,ab s0,O U 0,Sl.nil.v,O U i1]) dz))
theorem aho (r:Addr) (R:aA) (w:av) (h:abx r R w):Cr 323 #[ae (some r)] w R:=
 fB (an:=.s .o (.s .o (.s .o (.s .o (.s (.s .o (.s (.s .o .o) .o)) (.s (.s .o (.s (.s .o (.s .o .o)) .o)) (.s .o (.s .o (.s .o (.s .o .o)))))))))) (args:=[.ad r]) h
def aby (r:Addr) (k:Int) (R:aA) (w:av):Prop:=
 az aq 276 #[] w fun e0 w0=>∃l0:Sl,e0=(ak l0.v)/\
  ∃p0:Addr,ck l0 k 1 p0/\
  ∃l1:Sl,Cells w0 p0 [l1.v]/\
  az aq 275 #[] w0 fun e1 w1=>∃l2:Sl,e1=(ak l2.v)/\
   ∃p1:Addr,ck l2 k 1 p1/\
   ∃l3:Sl,Cells w1 p1 [l3.v]/\
   ∃J0:Nat->Int->av->Prop,∃k0:Nat,J0 k0 0 w1/\
   ∀k1:Nat,∀i0:Int,∀w2:av,J0 k1 i0 w2->((decide (i0<(l1.n:Int)))=true->∃p2:Addr,ck l1 i0 1 p2/\
    ∃s0:asw,Cells w2 p2 [ab s0]/\
    az aq 320 #[ae (some r),ab s0] w2 fun e2 w3=>∃b0:Bool,e2=(ak (aj b0))/\
     (b0=true->∃p3:Addr,ck l3 i0 1 p3/\
      ∃i1:Int,Cells w3 p3 [O U i1]/\
      R (O U i1) w3)/\
     (b0=false->∃k2:Nat,k2<k1/\
     J0 k2 (ar U (i0+1)) w3))/\
   ((decide (i0<(l1.n:Int)))=false->R (O U 0) w2)
theorem ahp (r:Addr) (k:Int) (R:aA) (w:av) (h:aby r k R w):Cr 312 #[ae (some r),O U k] w R:=
 fB (an:=.s .o (.s .o (.s .o (.s (.s .o (.j [0,5,6] [.s 7 (.int .i64)] (.s (.s .o (.s .o .o)) (.s (.s .o (.s .o (.s (.s .o .o) .o))) .o)) .o)) (.s .o .o))))) (args:=[.ad r,.int .i64 k]) h
def abz (x x1:Int) (x2:asw) (x3:Int) (x4:Sl) (x5:Int) (R:aA) (w:av):Prop:=
 ∀k0:Nat,∀w0:av,w.heap.size<=k0->k0<w0.heap.size->ay [] w w0->R (aj (((((x==0)&&(x1==0))&&(x2.toList==((ao #[]).toList)))&&(x3==0))&&((x4.n:Int)==0))) w0
theorem ahq (x x1:Int) (x2:asw) (x3:Int) (x4:Sl) (x5:Int) (R:aA) (w:av) (h:abz x x1 x2 x3 x4 x5 R w):Cr 222 #[ah #[O U x,O U x1,ab x2,O U x3,x4.v,O U x5]] w R:=
 fB (an:=.s .o (.s .o .o)) (args:=[.agg (jU [.int .i64 x,.int .i64 x1,.str x2,.int .i64 x3,.sl x4,.int .i64 x5])]) h
def abA (n_:Addr) (m:Int) (m1:asw) (m2:Int) (m3:Bool) (m4 m5:Int) (m6:asw) (m7:Int) (m8:Sl) (m9:Int) (m10 m11:Sl) (m12:Int) (R:aA) (w:av):Prop:=
 ∀k0:Nat,∀w0:av,w.heap.size<=k0->k0<w0.heap.size->ay [] w w0->∃i0:Int,Cells w0 (n_.add 1) [O U i0]/\
 ∃k1 k2:Nat,∃z0:List aw,∃k3:Nat,(n_.add 1)=⟨k1,k2,none⟩/\
 Blk w0 k1 k3 z0/\
 (k2+1)<=z0.length/\
 k0≠k1/\
 ∀w1:av,ay [k1] w0 w1->Blk w1 k1 k3 (bO z0 k2 [O U (ar U (i0+1))])->∃J0:Bool->av->Prop,(∀b0:Bool,∀w2:av,J0 b0 w2->az aq 222 #[ah #[O U m4,O U m5,ab m6,O U m7,m8.v,O U m9]] w2 fun e0 w3=>∃b1:Bool,e0=(ak (aj b1))/\
  aR [k0] w2 w3/\
  ∃J1:Bool->av->Prop,(∀b2:Bool,∀w4:av,J1 b2 w4->az aq 163 #[ae (some n_),m10.v] w4 fun e1 w5=>∃b3:Bool,e1=(ak (aj b3))/\
   aR [k0] w4 w5/\
   ∃J2:Nat->Int->av->Prop,∃k4:Nat,J2 k4 0 w5/\
   ∀k5:Nat,∀i1:Int,∀w6:av,J2 k5 i1 w6->((decide (i1<(m11.n:Int)))=true->∃p0:Addr,ck m11 i1 1 p0/\
    ∃s0:asw,Cells w6 p0 [ab s0]/\
    az aq 94 #[ab s0] w6 fun e2 w7=>∃b4:Bool,e2=(ak (aj b4))/\
     aR [k0] w6 w7/\
     ((!b4)=true->R (aj false) w7)/\
     ((!b4)=false->∃k6:Nat,k6<k5/\
     J2 k6 (ar U (i1+1)) w7))/\
   ((decide (i1<(m11.n:Int)))=false->R (aj ((((((decide (m>=1))&&(decide (m<=3)))&&b0)&&b2)&&b3)&&((m2==0)||((m==3)&&(decide (m2>0)))))) w6))/\
  (m3=true->az aq 221 #[ah #[O U m4,O U m5,ab m6,O U m7,m8.v,O U m9]] w3 fun e3 w8=>∃b5:Bool,e3=(ak (aj b5))/\
   aR [k0] w3 w8/\
   J1 b5 w8)/\
  (m3=false->J1 b1 w3))/\
 ((m==1)=true->az aq 94 #[ab m1] w1 fun e4 w9=>∃b6:Bool,e4=(ak (aj b6))/\
  aR [k0] w1 w9/\
  J0 b6 w9)/\
 ((m==1)=false->J0 (m1.toList==((ao #[]).toList)) w1)
theorem ahr (n_:Addr) (m:Int) (m1:asw) (m2:Int) (m3:Bool) (m4 m5:Int) (m6:asw) (m7:Int) (m8:Sl) (m9:Int) (m10 m11:Sl) (m12:Int) (R:aA) (w:av) (h:abA n_ m m1 m2 m3 m4 m5 m6 m7 m8 m9 m10 m11 m12 R w):Cr 164 #[ae (some n_),ah #[O U m,ab m1,O U m2,aj m3,O U m4,O U m5,ab m6,O U m7,m8.v,O U m9,m10.v,m11.v,O U m12]] w R:=
 fB (an:=.s .o (.s .o (.s .o (.j [0,3] [.s 5 .bool] (.s .o (.s .o .o)) (.s .o (.j [0,3,5] [.s 6 .bool] (.s .o (.s .o .o)) (.s .o (.s (.s .o (.j [3,5,6,7] [.s 8 (.int .i64)] (.s (.s .o (.s .o .o)) (.s (.s .o (.s .o (.s (.s .o .o) .o))) .o)) .o)) (.s .o .o))))))))) (args:=[.ad n_,.agg (jU [.int .i64 m,.str m1,.int .i64 m2,.bt m3,.int .i64 m4,.int .i64 m5,.str m6,.int .i64 m7,.sl m8,.int .i64 m9,.sl m10,.sl m11,.int .i64 m12])]) h
def abB (p:Addr) (deep:Int) (s:asw) (R:aA) (w:av):Prop:=
 ∃l0:Sl,Cells w (p.add 0) [l0.v]/\
 ((decide ((l0.n:Int)>16384))=true->R (ai #[]) w)/\
 ((decide ((l0.n:Int)>16384))=false->∃J0:Nat->Int->av->Prop,∃k0:Nat,J0 k0 0 w/\
 ∀k1:Nat,∀i0:Int,∀w0:av,J0 k1 i0 w0->((decide (i0<deep))=true->∃l1:Sl,Cells w0 (p.add 0) [l1.v]/\
  ∃l2:Sl,∃w1:av,((au 68 2 #[.mk 0 (.int .u8 32),.mk 1 (.int .u8 32)]).run aq w0)=(.ok l2.v w1)/\
  ∃l3:Sl,∃w2:av,((Builtin.append_ #[68,68] 68 #[l1.v,l2.v]).run aq w1)=(.ok l3.v w2)/\
  ∃k2 k3:Nat,∃z0:List aw,∃k4:Nat,(p.add 0)=⟨k2,k3,none⟩/\
  Blk w2 k2 k4 z0/\
  (k3+1)<=z0.length/\
  ∀w3:av,ay [k2] w2 w3->Blk w3 k2 k4 (bO z0 k3 [l3.v])->∃k5:Nat,k5<k1/\
  J0 k5 (ar U (i0+1)) w3)/\
 ((decide (i0<deep))=false->∃l4:Sl,Cells w0 (p.add 0) [l4.v]/\
 ∃l5:Sl,∃w4:av,((Builtin.append_ #[68,9] 68 #[l4.v,ab s]).run aq w0)=(.ok l5.v w4)/\
 ∃k6 k7:Nat,∃z1:List aw,∃k8:Nat,(p.add 0)=⟨k6,k7,none⟩/\
 Blk w4 k6 k8 z1/\
 (k7+1)<=z1.length/\
 ∀w5:av,ay [k6] w4 w5->Blk w5 k6 k8 (bO z1 k7 [l5.v])->∃l6:Sl,Cells w5 (p.add 0) [l6.v]/\
 ∃l7:Sl,∃w6:av,((au 68 1 #[.mk 0 (.int .u8 10)]).run aq w5)=(.ok l7.v w6)/\
 ∃l8:Sl,∃w7:av,((Builtin.append_ #[68,68] 68 #[l6.v,l7.v]).run aq w6)=(.ok l8.v w7)/\
 ∃k9 rn:Nat,∃z2:List aw,∃ou:Nat,(p.add 0)=⟨k9,rn,none⟩/\
 Blk w7 k9 ou z2/\
 (rn+1)<=z2.length/\
 ∀w8:av,ay [k9] w7 w8->Blk w8 k9 ou (bO z2 rn [l8.v])->R (ai #[]) w8))
theorem ahs (p:Addr) (deep:Int) (s:asw) (R:aA) (w:av) (h:abB p deep s R w):Cr 46 #[ae (some p),O U deep,ab s] w R:=
 fB (an:=.s (.s .o (.s .o .o)) (.s (.s .o (.j [0,1,2] [.s 6 (.int .i64)] (.s (.s .o (.s .o .o)) (.s .o .o)) .o)) (.s .o .o))) (args:=[.ad p,.int .i64 deep,.str s]) h
def abC (p:Addr) (x:Int) (x1 x2 x3:asw) (x4 x5 x6 x7:Sl) (x8 deep:Int) (R:aA) (w:av):Prop:=
 ∀k0:Nat,∀w0:av,w.heap.size<=k0->k0<w0.heap.size->ay [] w w0->∃J0:av->Prop,(∀w1:av,J0 w1->∃J1:av->Prop,(∀w2:av,J1 w2->∃J2:av->Prop,(∀w3:av,J2 w3->∃J3:Nat->Int->av->Prop,∃k1:Nat,J3 k1 0 w3/\
    ∀k2:Nat,∀i0:Int,∀w4:av,J3 k2 i0 w4->∃l0:Sl,((decide (i0<(x6.n:Int)))=true->Cells w4 (p.add 0) [l0.v])/\
    (((decide (i0<(x6.n:Int)))&&(decide ((l0.n:Int)<=16384)))=true->∃p0:Addr,ck x6 i0 13 p0/\
     ∃i1:Int,∃s0:asw,∃i2:Int,∃b0:Bool,∃i3 i4:Int,∃s1:asw,∃i5:Int,∃l1:Sl,∃i6:Int,∃l2 l3:Sl,∃i7:Int,Cells w4 p0 [O U i1,ab s0,O U i2,aj b0,O U i3,O U i4,ab s1,O U i5,l1.v,O U i6,l2.v,l3.v,O U i7]/\
     az aq 63 #[ah #[O U i1,ab s0,O U i2,aj b0,O U i3,O U i4,ab s1,O U i5,l1.v,O U i6,l2.v,l3.v,O U i7]] w4 fun e0 w5=>∃s2:asw,e0=(ak (ab s2))/\
      aR [k0] w4 w5/\
      az aq 46 #[ae (some p),O U deep,ab s2] w5 fun e1 w6=>e1=(ak (ai #[]))/\
       aR [k0] w5 w6/\
       ∃k3:Nat,k3<k2/\
       J3 k3 (ar U (i0+1)) w6)/\
    (((decide (i0<(x6.n:Int)))&&(decide ((l0.n:Int)<=16384)))=false->∃J4:Nat->Int->av->Prop,∃k4:Nat,J4 k4 0 w4/\
    ∀k5:Nat,∀i8:Int,∀w7:av,J4 k5 i8 w7->((decide (i8<(x7.n:Int)))=true->∃p1:Addr,ck x7 i8 9 p1/\
     ∃i9:Int,∃s3 s4 s5:asw,∃l4 l5 l6 l7:Sl,∃i10:Int,Cells w7 p1 [O U i9,ab s3,ab s4,ab s5,l4.v,l5.v,l6.v,l7.v,O U i10]/\
     az aq 99 #[ae (some p),ah #[O U i9,ab s3,ab s4,ab s5,l4.v,l5.v,l6.v,l7.v,O U i10],O U deep] w7 fun e2 w8=>e2=(ak (ai #[]))/\
      aR [k0] w7 w8/\
      ∃k6:Nat,k6<k5/\
      J4 k6 (ar U (i8+1)) w8)/\
    ((decide (i8<(x7.n:Int)))=false->R (ai #[]) w7)))/\
   ((decide ((x5.n:Int)>0))=true->az aq 98 #[x5.v] w2 fun e3 w9=>∃s6:asw,e3=(ak (ab s6))/\
    aR [k0] w2 w9/\
    (6+(s6.size:Int))<=9223372036854775807/\
    az aq 46 #[ae (some p),O U deep,ab ((ao #[108,101,97,118,101,32])++s6)] w9 fun e4 cK=>e4=(ak (ai #[]))/\
     aR [k0] w9 cK/\
     J2 cK)/\
   ((decide ((x5.n:Int)>0))=false->J2 w2))/\
  ((decide ((x4.n:Int)>0))=true->az aq 98 #[x4.v] w1 fun e5 cY=>∃s7:asw,e5=(ak (ab s7))/\
   aR [k0] w1 cY/\
   (6+(s7.size:Int))<=9223372036854775807/\
   az aq 46 #[ae (some p),O U deep,ab ((ao #[101,110,116,101,114,32])++s7)] cY fun e6 dz=>e6=(ak (ai #[]))/\
    aR [k0] cY dz/\
    J1 dz)/\
  ((decide ((x4.n:Int)>0))=false->J1 w1))/\
 ((!(x2.toList==((ao #[]).toList)))=true->(8+(x2.size:Int))<=9223372036854775807/\
  ((((ao #[105,110,105,116,105,97,108,32])++x2).size:Int)+1)<=9223372036854775807/\
  az aq 46 #[ae (some p),O U deep,ab (((ao #[105,110,105,116,105,97,108,32])++x2)++(ao #[59]))] w0 fun e7 dF=>e7=(ak (ai #[]))/\
   aR [k0] w0 dF/\
   J0 dF)/\
 ((!(x2.toList==((ao #[]).toList)))=false->J0 w0)
theorem aht (p:Addr) (x:Int) (x1 x2 x3:asw) (x4 x5 x6 x7:Sl) (x8 deep:Int) (R:aA) (w:av) (h:abC p x x1 x2 x3 x4 x5 x6 x7 x8 deep R w):Cr 48 #[ae (some p),ah #[O U x,ab x1,ab x2,ab x3,x4.v,x5.v,x6.v,x7.v,O U x8],O U deep] w R:=
 fB (an:=.s .o (.j [0,2,4] [] (.s .o (.s .o .o)) (.j [0,2,4] [] (.s .o (.s .o .o)) (.j [0,2,4] [] (.s .o (.s .o .o)) (.s (.s .o (.j [0,2,4] [.s 6 (.int .i64)] (.s (.s .o (.s .o .o)) (.s .o .o)) .o)) (.s .o (.j [0,2,4] [.s 7 (.int .i64)] (.s (.s .o (.s .o .o)) (.s .o .o)) .o))))))) (args:=[.ad p,.agg (jU [.int .i64 x,.str x1,.str x2,.str x3,.sl x4,.sl x5,.sl x6,.sl x7,.int .i64 x8]),.int .i64 deep]) h
def abD (l:Sl) (R:aA) (w:av):Prop:=
 ∃J0:Nat->asw->Int->av->Prop,∃k0:Nat,J0 k0 (ao #[123]) 0 w/\
 ∀k1:Nat,∀s0:asw,∀i0:Int,∀w0:av,J0 k1 s0 i0 w0->((decide (i0<(l.n:Int)))=true->((s0.size:Int)+1)<=9223372036854775807/\
  ∃p0:Addr,ck l i0 9 p0/\
  ∃i1:Int,∃s1:asw,∃i2 i3:Int,∃s2:asw,∃i4:Int,∃l0:Sl,∃i5 i6:Int,Cells w0 p0 [O U i1,ab s1,O U i2,O U i3,ab s2,O U i4,l0.v,O U i5,O U i6]/\
  az aq 165 #[ah #[O U i1,ab s1,O U i2,O U i3,ab s2,O U i4,l0.v,O U i5,O U i6]] w0 fun e0 w1=>∃s3:asw,e0=(ak (ab s3))/\
   (((s0++(ao #[32])).size:Int)+(s3.size:Int))<=9223372036854775807/\
   ∃k2:Nat,k2<k1/\
   J0 k2 ((s0++(ao #[32]))++s3) (ar U (i0+1)) w1)/\
 ((decide (i0<(l.n:Int)))=false->((s0.size:Int)+2)<=9223372036854775807/\
 R (ab (s0++(ao #[32,125]))) w0)
theorem ahu (l:Sl) (R:aA) (w:av) (h:abD l R w):Cr 98 #[l.v] w R:=
 fB (an:=.s .o (.s .o (.s (.s .o (.j [0] [.s 3 .str,.s 4 (.int .i64)] (.s (.s .o (.s .o .o)) (.s .o .o)) .o)) (.s .o .o)))) (args:=[.sl l]) h
def abE (a_:Int) (mo:asw) (pU pV:Int) (pd:asw) (qh:Int) (rq:Sl) (rr uS:Int) (R:aA) (w:av):Prop:=
 ((a_==1)=true->∀k0:Nat,∀w0:av,w.heap.size<=k0->k0<w0.heap.size->ay [] w w0->∃J0:Nat->Prop,J0 k0/\
  (4+(mo.size:Int))<=9223372036854775807/\
  ((((ao #[115,101,116,32])++mo).size:Int)+3)<=9223372036854775807/\
  az aq 118 #[ah #[O U pU,O U pV,ab pd,O U qh,rq.v,O U rr]] w0 fun e0 w1=>∃s0:asw,e0=(ak (ab s0))/\
   aR [k0] w0 w1/\
   bE J0 w0 w1/\
   (((((ao #[115,101,116,32])++mo)++(ao #[32,61,32])).size:Int)+(s0.size:Int))<=9223372036854775807/\
   ((((((ao #[115,101,116,32])++mo)++(ao #[32,61,32]))++s0).size:Int)+1)<=9223372036854775807/\
   R (ab (((((ao #[115,101,116,32])++mo)++(ao #[32,61,32]))++s0)++(ao #[59]))) w1)/\
 ((a_==1)=false->((a_==2)=true->(6+(mo.size:Int))<=9223372036854775807/\
  ((((ao #[114,97,105,115,101,32])++mo).size:Int)+1)<=9223372036854775807/\
  ∀k1:Nat,∀w2:av,w.heap.size<=k1->k1<w2.heap.size->ay [] w w2->R (ab (((ao #[114,97,105,115,101,32])++mo)++(ao #[59]))) w2)/\
 ((a_==2)=false->∀k2:Nat,∀w3:av,w.heap.size<=k2->k2<w3.heap.size->ay [] w w3->∃J1:Nat->Prop,J1 k2/\
 (5+(mo.size:Int))<=9223372036854775807/\
 ((((ao #[101,109,105,116,32])++mo).size:Int)+3)<=9223372036854775807/\
 az aq 118 #[ah #[O U pU,O U pV,ab pd,O U qh,rq.v,O U rr]] w3 fun e1 w4=>∃s1:asw,e1=(ak (ab s1))/\
  aR [k2] w3 w4/\
  bE J1 w3 w4/\
  (((((ao #[101,109,105,116,32])++mo)++(ao #[32,61,32])).size:Int)+(s1.size:Int))<=9223372036854775807/\
  ((((((ao #[101,109,105,116,32])++mo)++(ao #[32,61,32]))++s1).size:Int)+1)<=9223372036854775807/\
  R (ab (((((ao #[101,109,105,116,32])++mo)++(ao #[32,61,32]))++s1)++(ao #[59]))) w4))
theorem ahv (a_:Int) (mo:asw) (pU pV:Int) (pd:asw) (qh:Int) (rq:Sl) (rr uS:Int) (R:aA) (w:av) (h:abE a_ mo pU pV pd qh rq rr uS R w):Cr 165 #[ah #[O U a_,ab mo,O U pU,O U pV,ab pd,O U qh,rq.v,O U rr,O U uS]] w R:=
 fB (an:=.s .o (.s (.s .o (.s .o (.s (.s .o .o) (.s .o (.s (.s .o .o) .o))))) (.s .o .o))) (args:=[.agg (jU [.int .i64 a_,.str mo,.int .i64 pU,.int .i64 pV,.str pd,.int .i64 qh,.sl rq,.int .i64 rr,.int .i64 uS])]) h
def abF (x x1:Int) (x2:asw) (x3:Int) (x4:Sl) (x5:Int) (R:aA) (w:av):Prop:=
 ∀k0:Nat,∀w0:av,w.heap.size<=k0->k0<w0.heap.size->ay [] w w0->az aq 183 #[ah #[O U x,O U x1,ab x2,O U x3,x4.v,O U x5]] w0 fun e0 w1=>∃s0:asw,∃b0:Bool,e0=(ak (ai #[ab s0,aj b0]))/\
  aR [k0] w0 w1/\
  R (ab s0) w1
theorem ahw (x x1:Int) (x2:asw) (x3:Int) (x4:Sl) (x5:Int) (R:aA) (w:av) (h:abF x x1 x2 x3 x4 x5 R w):Cr 118 #[ah #[O U x,O U x1,ab x2,O U x3,x4.v,O U x5]] w R:=
 fB (an:=.s .o (.s .o (.s .o .o))) (args:=[.agg (jU [.int .i64 x,.int .i64 x1,.str x2,.int .i64 x3,.sl x4,.int .i64 x5])]) h
def abG (m:Int) (m1:asw) (m2:Int) (m3:Bool) (m4 m5:Int) (m6:asw) (m7:Int) (m8:Sl) (m9:Int) (m10 m11:Sl) (m12:Int) (R:aA) (w:av):Prop:=
 ∀k0:Nat,∀w0:av,w.heap.size<=k0->k0<w0.heap.size->ay [] w w0->∃J0:asw->av->Prop,(∀s0:asw,∀w1:av,J0 s0 w1->∃J1:asw->av->Prop,(∀s1:asw,∀w2:av,J1 s1 w2->∃J2:asw->av->Prop,(∀s2:asw,∀w3:av,J2 s2 w3->∃J3:asw->av->Prop,(∀s3:asw,∀w4:av,J3 s3 w4->∃J4:Nat->asw->Int->av->Prop,∃k1:Nat,J4 k1 s3 0 w4/\
     ∀k2:Nat,∀s4:asw,∀i0:Int,∀w5:av,J4 k2 s4 i0 w5->((decide (i0<(m11.n:Int)))=true->∃J5:asw->av->Prop,(∀s5:asw,∀w6:av,J5 s5 w6->∃p0:Addr,ck m11 i0 1 p0/\
       ∃s6:asw,Cells w6 p0 [ab s6]/\
       ((s5.size:Int)+(s6.size:Int))<=9223372036854775807/\
       ∃k3:Nat,k3<k2/\
       J4 k3 (s5++s6) (ar U (i0+1)) w6)/\
      ((i0==0)=true->((s4.size:Int)+4)<=9223372036854775807/\
       J5 (s4++(ao #[32,45,62,32])) w5)/\
      ((i0==0)=false->((s4.size:Int)+2)<=9223372036854775807/\
      J5 (s4++(ao #[44,32])) w5))/\
     ((decide (i0<(m11.n:Int)))=false->((s4.size:Int)+1)<=9223372036854775807/\
     R (ab (s4++(ao #[59]))) w5))/\
    ((decide ((m10.n:Int)>0))=true->((s2.size:Int)+1)<=9223372036854775807/\
     az aq 98 #[m10.v] w3 fun e0 w7=>∃s7:asw,e0=(ak (ab s7))/\
      aR [k0] w3 w7/\
      (((s2++(ao #[32])).size:Int)+(s7.size:Int))<=9223372036854775807/\
      J3 ((s2++(ao #[32]))++s7) w7)/\
    ((decide ((m10.n:Int)>0))=false->J3 s2 w3))/\
   (m3=true->((s1.size:Int)+2)<=9223372036854775807/\
    az aq 118 #[ah #[O U m4,O U m5,ab m6,O U m7,m8.v,O U m9]] w2 fun e1 w8=>∃s8:asw,e1=(ak (ab s8))/\
     aR [k0] w2 w8/\
     (((s1++(ao #[32,91])).size:Int)+(s8.size:Int))<=9223372036854775807/\
     ((((s1++(ao #[32,91]))++s8).size:Int)+1)<=9223372036854775807/\
     J2 (((s1++(ao #[32,91]))++s8)++(ao #[93])) w8)/\
   (m3=false->J2 s1 w2))/\
  ((m==3)=true->az aq 47 #[O U m2] w1 fun e2 w9=>∃s9:asw,e2=(ak (ab s9))/\
   aR [k0] w1 w9/\
   (6+(s9.size:Int))<=9223372036854775807/\
   J1 ((ao #[97,102,116,101,114,32])++s9) w9)/\
  ((m==3)=false->J1 s0 w1))/\
 ((m==1)=true->(3+(m1.size:Int))<=9223372036854775807/\
  J0 ((ao #[111,110,32])++m1) w0)/\
 ((m==1)=false->J0 (ao #[97,108,119,97,121,115]) w0)
theorem ahx (m:Int) (m1:asw) (m2:Int) (m3:Bool) (m4 m5:Int) (m6:asw) (m7:Int) (m8:Sl) (m9:Int) (m10 m11:Sl) (m12:Int) (R:aA) (w:av) (h:abG m m1 m2 m3 m4 m5 m6 m7 m8 m9 m10 m11 m12 R w):Cr 63 #[ah #[O U m,ab m1,O U m2,aj m3,O U m4,O U m5,ab m6,O U m7,m8.v,O U m9,m10.v,m11.v,O U m12]] w R:=
 fB (an:=.s .o (.s .o (.j [1] [.s 3 .str] (.s .o (.s .o .o)) (.j [1] [.s 3 .str] (.s .o (.s .o .o)) (.j [1] [.s 3 .str] (.s .o (.s .o .o)) (.j [1] [.s 3 .str] (.s .o (.s .o .o)) (.s (.s .o (.j [1] [.s 3 .str,.s 4 (.int .i64)] (.s (.s .o (.s .o .o)) (.s (.j [1,4] [.s 3 .str] (.s .o (.s .o .o)) .o) .o)) .o)) (.s .o .o)))))))) (args:=[.agg (jU [.int .i64 m,.str m1,.int .i64 m2,.bt m3,.int .i64 m4,.int .i64 m5,.str m6,.int .i64 m7,.sl m8,.int .i64 m9,.sl m10,.sl m11,.int .i64 m12])]) h
def abH (p:Addr) (x:Int) (x1 x2 x3:asw) (x4 x5 x6 x7:Sl) (x8 deep:Int) (R:aA) (w:av):Prop:=
 ∀k0:Nat,∀w0:av,w.heap.size<=k0->k0<w0.heap.size->ay [] w w0->∃J0:av->Prop,(∀w1:av,J0 w1->az aq 48 #[ae (some p),ah #[O U x,ab x1,ab x2,ab x3,x4.v,x5.v,x6.v,x7.v,O U x8],O U (ar U (deep+1))] w1 fun e0 w2=>e0=(ak (ai #[]))/\
  aR [k0] w1 w2/\
  az aq 46 #[ae (some p),O U deep,ab (ao #[125])] w2 fun e1 w3=>e1=(ak (ai #[]))/\
   aR [k0] w2 w3/\
   R (ai #[]) w3)/\
 ((x==3)=true->(8+(x1.size:Int))<=9223372036854775807/\
  ((((ao #[104,105,115,116,111,114,121,32])++x1).size:Int)+4)<=9223372036854775807/\
  (((((ao #[104,105,115,116,111,114,121,32])++x1)++(ao #[32,45,62,32])).size:Int)+(x3.size:Int))<=9223372036854775807/\
  ((((((ao #[104,105,115,116,111,114,121,32])++x1)++(ao #[32,45,62,32]))++x3).size:Int)+1)<=9223372036854775807/\
  az aq 46 #[ae (some p),O U deep,ab (((((ao #[104,105,115,116,111,114,121,32])++x1)++(ao #[32,45,62,32]))++x3)++(ao #[59]))] w0 fun e2 w4=>e2=(ak (ai #[]))/\
   aR [k0] w0 w4/\
   R (ai #[]) w4)/\
 ((x==3)=false->((x==4)=true->(5+(x1.size:Int))<=9223372036854775807/\
  ((((ao #[100,101,101,112,32])++x1).size:Int)+4)<=9223372036854775807/\
  (((((ao #[100,101,101,112,32])++x1)++(ao #[32,45,62,32])).size:Int)+(x3.size:Int))<=9223372036854775807/\
  ((((((ao #[100,101,101,112,32])++x1)++(ao #[32,45,62,32]))++x3).size:Int)+1)<=9223372036854775807/\
  az aq 46 #[ae (some p),O U deep,ab (((((ao #[100,101,101,112,32])++x1)++(ao #[32,45,62,32]))++x3)++(ao #[59]))] w0 fun e3 w5=>e3=(ak (ai #[]))/\
   aR [k0] w0 w5/\
   R (ai #[]) w5)/\
 ((x==4)=false->((x==1)=true->(6+(x1.size:Int))<=9223372036854775807/\
  ((((ao #[115,116,97,116,101,32])++x1).size:Int)+2)<=9223372036854775807/\
  az aq 46 #[ae (some p),O U deep,ab (((ao #[115,116,97,116,101,32])++x1)++(ao #[32,123]))] w0 fun e4 w6=>e4=(ak (ai #[]))/\
   aR [k0] w0 w6/\
   J0 w6)/\
 ((x==1)=false->(9+(x1.size:Int))<=9223372036854775807/\
 ((((ao #[112,97,114,97,108,108,101,108,32])++x1).size:Int)+2)<=9223372036854775807/\
 az aq 46 #[ae (some p),O U deep,ab (((ao #[112,97,114,97,108,108,101,108,32])++x1)++(ao #[32,123]))] w0 fun e5 w7=>e5=(ak (ai #[]))/\
  aR [k0] w0 w7/\
  J0 w7)))
theorem ahy (p:Addr) (x:Int) (x1 x2 x3:asw) (x4 x5 x6 x7:Sl) (x8 deep:Int) (R:aA) (w:av) (h:abH p x x1 x2 x3 x4 x5 x6 x7 x8 deep R w):Cr 99 #[ae (some p),ah #[O U x,ab x1,ab x2,ab x3,x4.v,x5.v,x6.v,x7.v,O U x8],O U deep] w R:=
 fB (an:=.s .o (.j [0,2,4] [] (.s .o (.s .o (.s (.s .o .o) (.s .o (.s (.s .o .o) (.s .o (.s .o .o))))))) (.s .o .o))) (args:=[.ad p,.agg (jU [.int .i64 x,.str x1,.str x2,.str x3,.sl x4,.sl x5,.sl x6,.sl x7,.int .i64 x8]),.int .i64 deep]) h
end Go.Proofs.YtmhoiicofhlgbaaGreatDoor.Vc
namespace Go.Proofs
open Go.Shelf
def Tryz.wh:Go.Shelf.Ren:=⟨fun | 156=>149 | 165=>148 | 166=>82 | 169=>43 | 240=>145 | 241=>215 | 276=>211 | 277=>257 | n=>n,fun | 31=>52 | 9=>9 | 3=>3 | 4=>4 | 0=>0 | 20=>20 | 72=>70 | 76=>146 | 70=>67 | 37=>68 | 75=>145 | 127=>153 | 164=>248 | 5=>5 | 80=>82 | n=>n,fun | n=>n⟩
theorem Tryz.IU:Go.Proofs.Lays.n156 Tryz.prog Tryz.wh:={
 mixed:=by kernel_rfl
 f156:=Tryz.func149.trans (bp some (by kernel_rfl))
 f165:=Tryz.func148.trans (bp some (by kernel_rfl))
 f166:=Tryz.func82.trans (bp some (by kernel_rfl))
 f169:=Tryz.func43.trans (bp some (by kernel_rfl))
 f240:=Tryz.func145.trans (bp some (by kernel_rfl))
 f241:=Tryz.func215.trans (bp some (by kernel_rfl))
 f276:=Tryz.func211.trans (bp some (by kernel_rfl))
 f277:=Tryz.func257.trans (bp some (by kernel_rfl))
 t0:=Tryz.underlying0
 a0:=Tryz.isAgg0
 z0:=Tryz.sizeOf0
 v0:=Tryz.zeroValue0
 t3:=Tryz.underlying3
 a3:=Tryz.isAgg3
 z3:=Tryz.sizeOf3
 v3:=Tryz.zeroValue3
 t4:=Tryz.underlying4
 a4:=Tryz.isAgg4
 z4:=Tryz.sizeOf4
 v4:=Tryz.zeroValue4
 t9:=Tryz.underlying9
 a9:=Tryz.isAgg9
 z9:=Tryz.sizeOf9
 v9:=Tryz.zeroValue9
 t20:=Tryz.underlying20
 a20:=Tryz.isAgg20
 z20:=Tryz.sizeOf20
 v20:=Tryz.zeroValue20
 t31:=Tryz.underlying52
 a31:=Tryz.isAgg52
 z31:=Tryz.sizeOf52
 v31:=Tryz.zeroValue52
 t37:=Tryz.underlying68
 a37:=Tryz.isAgg68
 z37:=Tryz.sizeOf68
 v37:=Tryz.zeroValue68
 t70:=Tryz.underlying67
 a70:=Tryz.isAgg67
 z70:=Tryz.sizeOf67
 v70:=Tryz.zeroValue67
 t72:=Tryz.underlying70
 a72:=Tryz.isAgg70
 z72:=Tryz.sizeOf70
 v72:=Tryz.zeroValue70
 t75:=Tryz.underlying145
 a75:=Tryz.isAgg145
 z75:=Tryz.sizeOf145
 v75:=Tryz.zeroValue145
 t76:=Tryz.underlying146
 a76:=Tryz.isAgg146
 z76:=Tryz.sizeOf146
 v76:=Tryz.zeroValue146
 t127:=Tryz.underlying153
 a127:=Tryz.isAgg153
 z127:=Tryz.sizeOf153
 v127:=Tryz.zeroValue153
 t164:=Tryz.underlying248
 a164:=Tryz.isAgg248
 z164:=Tryz.sizeOf248
 v164:=Tryz.zeroValue248}
theorem Tryz.nT:Builder.Extra Tryz.prog Tryz.wh:={
 sizeBuilder:=by kernel_rfl
 liesBuilder:=by kernel_rfl
 t5:=Tryz.underlying5
 a5:=Tryz.isAgg5
 z5:=Tryz.sizeOf5
 v5:=Tryz.zeroValue5
 infoByte:=by kernel_rfl
 cellsByte:=by kernel_rfl
 sizeByte:=by kernel_rfl
 neB5:=by decide}
open Go.RowKit in
theorem Tryz.strings_Join_none (a:Option Addr) (c:Nat) (sep:ByteArray) (w:World):
 Calls Tryz.prog 149 #[.slice a 0 c,.string sep] w fun e w'=>e=.returned (.string ⟨#[]⟩)/\w'=w:=Any.strings_Join_none Tryz.IU Tryz.nT a c sep w
open Go.RowKit in
theorem Tryz.strings_Join (bk o c:Nat) (xs:List ByteArray) (sep:ByteArray) (w:World) (tE:∀(j:Nat) x,xs[j]? =some x->w.cell? ⟨bk,o+j,none⟩=some (.string x)) (KP:bk<w.heap.size) (hN:xs.length<=140737488355328) (mD:xs.length<=c) (dN:(Lib.join (xs.map (·.data.toList)) sep.data.toList).length<=140737488355328):
 Calls Tryz.prog 149 #[.slice (some ⟨bk,o,none⟩) xs.length c,.string sep] w fun e w'=>e=.returned (.string ⟨(Lib.join (xs.map (·.data.toList)) sep.data.toList).toArray⟩)/\Below w.heap.size w w':=Any.strings_Join Tryz.IU Tryz.nT bk o c xs sep w tE KP hN mD dN
def Tryz.Cm:Go.Shelf.Ren:=⟨fun | 171=>86 | 243=>155 | 246=>217 | 283=>258 | 284=>259 | 285=>260 | 286=>261 | 129=>248 | 317=>289 | 318=>290 | 319=>291 | 320=>292 | 337=>308 | 338=>309 | n=>n,fun | 3=>3 | 9=>9 | 2=>2 | 4=>4 | 171=>282 | 0=>0 | 53=>161 | 37=>68 | 5=>5 | 173=>284 | 212=>313 | 51=>250 | 20=>20 | 213=>314 | 46=>210 | 232=>340 | 233=>341 | n=>n,fun | 17=>3 | 18=>4 | 19=>5 | n=>n⟩
theorem Tryz.NU:Go.Proofs.LaysM.n171 Tryz.prog Tryz.Cm:={
 mixed:=by kernel_rfl
 f129:=Tryz.func248.trans (bp some (by kernel_rfl))
 f171:=Tryz.func86.trans (bp some (by kernel_rfl))
 f243:=Tryz.func155.trans (bp some (by kernel_rfl))
 f246:=Tryz.func217.trans (bp some (by kernel_rfl))
 f283:=Tryz.func258.trans (bp some (by kernel_rfl))
 f284:=Tryz.func259.trans (bp some (by kernel_rfl))
 f285:=Tryz.func260.trans (bp some (by kernel_rfl))
 f286:=Tryz.func261.trans (bp some (by kernel_rfl))
 f317:=Tryz.func289.trans (bp some (by kernel_rfl))
 f318:=Tryz.func290.trans (bp some (by kernel_rfl))
 f319:=Tryz.func291.trans (bp some (by kernel_rfl))
 f320:=Tryz.func292.trans (bp some (by kernel_rfl))
 f337:=Tryz.func308.trans (bp some (by kernel_rfl))
 f338:=Tryz.func309.trans (bp some (by kernel_rfl))
 t0:=Tryz.underlying0
 a0:=Tryz.isAgg0
 z0:=Tryz.sizeOf0
 v0:=Tryz.zeroValue0
 t2:=Tryz.underlying2
 a2:=Tryz.isAgg2
 z2:=Tryz.sizeOf2
 v2:=Tryz.zeroValue2
 t3:=Tryz.underlying3
 a3:=Tryz.isAgg3
 z3:=Tryz.sizeOf3
 v3:=Tryz.zeroValue3
 t4:=Tryz.underlying4
 a4:=Tryz.isAgg4
 z4:=Tryz.sizeOf4
 v4:=Tryz.zeroValue4
 t5:=Tryz.underlying5
 a5:=Tryz.isAgg5
 z5:=Tryz.sizeOf5
 v5:=Tryz.zeroValue5
 t9:=Tryz.underlying9
 a9:=Tryz.isAgg9
 z9:=Tryz.sizeOf9
 v9:=Tryz.zeroValue9
 t20:=Tryz.underlying20
 a20:=Tryz.isAgg20
 z20:=Tryz.sizeOf20
 v20:=Tryz.zeroValue20
 t37:=Tryz.underlying68
 a37:=Tryz.isAgg68
 z37:=Tryz.sizeOf68
 v37:=Tryz.zeroValue68
 t46:=Tryz.underlying210
 a46:=Tryz.isAgg210
 z46:=Tryz.sizeOf210
 v46:=Tryz.zeroValue210
 t51:=Tryz.underlying250
 a51:=Tryz.isAgg250
 z51:=Tryz.sizeOf250
 v51:=Tryz.zeroValue250
 t53:=Tryz.underlying161
 a53:=Tryz.isAgg161
 z53:=Tryz.sizeOf161
 v53:=Tryz.zeroValue161
 t171:=Tryz.underlying282
 a171:=Tryz.isAgg282
 z171:=Tryz.sizeOf282
 v171:=Tryz.zeroValue282
 t173:=Tryz.underlying284
 a173:=Tryz.isAgg284
 z173:=Tryz.sizeOf284
 v173:=Tryz.zeroValue284
 t212:=Tryz.underlying313
 a212:=Tryz.isAgg313
 z212:=Tryz.sizeOf313
 v212:=Tryz.zeroValue313
 t213:=Tryz.underlying314
 a213:=Tryz.isAgg314
 z213:=Tryz.sizeOf314
 t232:=Tryz.underlying340
 a232:=Tryz.isAgg340
 z232:=Tryz.sizeOf340
 v232:=Tryz.zeroValue340
 t233:=Tryz.underlying341
 a233:=Tryz.isAgg341
 z233:=Tryz.sizeOf341
 v233:=Tryz.zeroValue341
 g17:=by kernel_rfl
 g18:=by kernel_rfl
 g19:=by kernel_rfl
 i0:=by kernel_rfl
 i2:=by kernel_rfl
 i3:=by kernel_rfl
 i4:=by kernel_rfl
 i5:=by kernel_rfl
 i9:=by kernel_rfl
 i20:=by kernel_rfl
 i37:=by kernel_rfl
 i46:=by kernel_rfl
 i51:=by kernel_rfl
 i53:=by kernel_rfl
 i171:=by kernel_rfl
 i173:=by kernel_rfl
 i212:=by kernel_rfl
 i232:=by kernel_rfl
 i233:=by kernel_rfl
 m17:=by kernel_rfl
 m18:=by kernel_rfl
 m19:=by kernel_rfl}
open Go.RowKit Go.Sort Go.Lib in
theorem Tryz.strconv_Itoa (n:Int) (h0: -9223372036854775808<=n) (h1:n<=9223372036854775807) (w:World) (aiJ:Lib.TabIs Tryz.prog w "internal/strconv.uint64pow10" .u64 Lib.pow10Tab):
 Calls Tryz.prog 86 #[.int .i64 n] w fun e w'=>e=.returned (.string ⟨(Lib.itoa n).toArray⟩)/\∃k os,w'=grow (w.drewN k) os:=Any.strconv_Itoa Tryz.NU n h0 h1 w aiJ
def Tryz.Cn:Go.Shelf.Ren:=⟨fun | 316=>285 | n=>n,fun | 9=>9 | 3=>3 | 4=>4 | 37=>68 | 0=>0 | 127=>153 | 5=>5 | n=>n,fun | n=>n⟩
theorem Tryz.NV:Go.Proofs.LaysM.n316 Tryz.prog Tryz.Cn:={
 mixed:=by kernel_rfl
 f316:=Tryz.func285.trans (bp some (by kernel_rfl))
 t0:=Tryz.underlying0
 a0:=Tryz.isAgg0
 z0:=Tryz.sizeOf0
 v0:=Tryz.zeroValue0
 t3:=Tryz.underlying3
 a3:=Tryz.isAgg3
 z3:=Tryz.sizeOf3
 v3:=Tryz.zeroValue3
 t4:=Tryz.underlying4
 a4:=Tryz.isAgg4
 z4:=Tryz.sizeOf4
 v4:=Tryz.zeroValue4
 t9:=Tryz.underlying9
 a9:=Tryz.isAgg9
 z9:=Tryz.sizeOf9
 v9:=Tryz.zeroValue9
 t37:=Tryz.underlying68
 a37:=Tryz.isAgg68
 z37:=Tryz.sizeOf68
 v37:=Tryz.zeroValue68
 t127:=Tryz.underlying153
 a127:=Tryz.isAgg153
 z127:=Tryz.sizeOf153
 v127:=Tryz.zeroValue153
 t5:=Tryz.underlying5
 a5:=Tryz.isAgg5
 z5:=Tryz.sizeOf5
 v5:=Tryz.zeroValue5
 i0:=by kernel_rfl
 i3:=by kernel_rfl
 i4:=by kernel_rfl
 i5:=by kernel_rfl
 i9:=by kernel_rfl
 i37:=by kernel_rfl
 i127:=by kernel_rfl}
open Go.RowKit in
theorem Tryz.stringslite_Clone (s:ByteArray) (w:World) (Wv:s.size<=281474976710656):
 Calls Tryz.prog 285 #[.string s] w fun e w'=>e=.returned (.string s)/\Below w.heap.size w w':=Any.stringslite_Clone Tryz.NV s w Wv
def Tryz.Co:Go.Shelf.Ren:=⟨fun | 174=>287 | 247=>302 | 245=>303 | 287=>313 | 279=>314 | 280=>315 | 281=>316 | 282=>317 | 321=>325 | 322=>326 | 316=>285 | 171=>86 | 205=>327 | 243=>155 | 246=>217 | 283=>258 | 284=>259 | 285=>260 | 286=>261 | 129=>248 | 317=>289 | 318=>290 | 319=>291 | 320=>292 | 337=>308 | 338=>309 | n=>n,fun | 9=>9 | 3=>3 | 2=>2 | 75=>145 | 85=>310 | 4=>4 | 167=>333 | 5=>5 | 53=>161 | 175=>334 | 46=>210 | 168=>336 | 37=>68 | 0=>0 | 210=>344 | 21=>21 | 127=>153 | 145=>351 | 143=>349 | 171=>282 | 173=>284 | 212=>313 | 51=>250 | 20=>20 | 213=>314 | 232=>340 | 233=>341 | 80=>82 | n=>n,fun | 15=>6 | 16=>7 | 17=>3 | 18=>4 | 19=>5 | n=>n⟩
theorem Tryz.EJ:Go.Proofs.LaysC.n174 Tryz.prog Tryz.Co:={
 mixed:=by kernel_rfl
 f129:=Tryz.func248.trans (bp some (by kernel_rfl))
 f171:=Tryz.func86.trans (bp some (by kernel_rfl))
 f174:=Tryz.func287.trans (bp some (by kernel_rfl))
 f205:=Tryz.func327.trans (bp some (by kernel_rfl))
 f243:=Tryz.func155.trans (bp some (by kernel_rfl))
 f245:=Tryz.func303.trans (bp some (by kernel_rfl))
 f246:=Tryz.func217.trans (bp some (by kernel_rfl))
 f247:=Tryz.func302.trans (bp some (by kernel_rfl))
 f279:=Tryz.func314.trans (bp some (by kernel_rfl))
 f280:=Tryz.func315.trans (bp some (by kernel_rfl))
 f281:=Tryz.func316.trans (bp some (by kernel_rfl))
 f282:=Tryz.func317.trans (bp some (by kernel_rfl))
 f283:=Tryz.func258.trans (bp some (by kernel_rfl))
 f284:=Tryz.func259.trans (bp some (by kernel_rfl))
 f285:=Tryz.func260.trans (bp some (by kernel_rfl))
 f286:=Tryz.func261.trans (bp some (by kernel_rfl))
 f287:=Tryz.func313.trans (bp some (by kernel_rfl))
 f316:=Tryz.func285.trans (bp some (by kernel_rfl))
 f317:=Tryz.func289.trans (bp some (by kernel_rfl))
 f318:=Tryz.func290.trans (bp some (by kernel_rfl))
 f319:=Tryz.func291.trans (bp some (by kernel_rfl))
 f320:=Tryz.func292.trans (bp some (by kernel_rfl))
 f321:=Tryz.func325.trans (bp some (by kernel_rfl))
 f322:=Tryz.func326.trans (bp some (by kernel_rfl))
 f337:=Tryz.func308.trans (bp some (by kernel_rfl))
 f338:=Tryz.func309.trans (bp some (by kernel_rfl))
 t0:=Tryz.underlying0
 a0:=Tryz.isAgg0
 z0:=Tryz.sizeOf0
 v0:=Tryz.zeroValue0
 t2:=Tryz.underlying2
 a2:=Tryz.isAgg2
 z2:=Tryz.sizeOf2
 v2:=Tryz.zeroValue2
 t3:=Tryz.underlying3
 a3:=Tryz.isAgg3
 z3:=Tryz.sizeOf3
 v3:=Tryz.zeroValue3
 t4:=Tryz.underlying4
 a4:=Tryz.isAgg4
 z4:=Tryz.sizeOf4
 v4:=Tryz.zeroValue4
 t5:=Tryz.underlying5
 a5:=Tryz.isAgg5
 z5:=Tryz.sizeOf5
 v5:=Tryz.zeroValue5
 t9:=Tryz.underlying9
 a9:=Tryz.isAgg9
 z9:=Tryz.sizeOf9
 v9:=Tryz.zeroValue9
 t20:=Tryz.underlying20
 a20:=Tryz.isAgg20
 z20:=Tryz.sizeOf20
 v20:=Tryz.zeroValue20
 t21:=Tryz.underlying21
 a21:=Tryz.isAgg21
 z21:=Tryz.sizeOf21
 v21:=Tryz.zeroValue21
 t37:=Tryz.underlying68
 a37:=Tryz.isAgg68
 z37:=Tryz.sizeOf68
 v37:=Tryz.zeroValue68
 t46:=Tryz.underlying210
 a46:=Tryz.isAgg210
 z46:=Tryz.sizeOf210
 v46:=Tryz.zeroValue210
 t51:=Tryz.underlying250
 a51:=Tryz.isAgg250
 z51:=Tryz.sizeOf250
 v51:=Tryz.zeroValue250
 t53:=Tryz.underlying161
 a53:=Tryz.isAgg161
 z53:=Tryz.sizeOf161
 v53:=Tryz.zeroValue161
 t75:=Tryz.underlying145
 a75:=Tryz.isAgg145
 z75:=Tryz.sizeOf145
 v75:=Tryz.zeroValue145
 t85:=Tryz.underlying310
 a85:=Tryz.isAgg310
 z85:=Tryz.sizeOf310
 v85:=Tryz.zeroValue310
 t127:=Tryz.underlying153
 a127:=Tryz.isAgg153
 z127:=Tryz.sizeOf153
 v127:=Tryz.zeroValue153
 t143:=Tryz.underlying349
 a143:=Tryz.isAgg349
 z143:=Tryz.sizeOf349
 v143:=Tryz.zeroValue349
 t145:=Tryz.underlying351
 a145:=Tryz.isAgg351
 z145:=Tryz.sizeOf351
 v145:=Tryz.zeroValue351
 t167:=Tryz.underlying333
 a167:=Tryz.isAgg333
 z167:=Tryz.sizeOf333
 v167:=Tryz.zeroValue333
 t168:=Tryz.underlying336
 a168:=Tryz.isAgg336
 z168:=Tryz.sizeOf336
 v168:=Tryz.zeroValue336
 t171:=Tryz.underlying282
 a171:=Tryz.isAgg282
 z171:=Tryz.sizeOf282
 v171:=Tryz.zeroValue282
 t173:=Tryz.underlying284
 a173:=Tryz.isAgg284
 z173:=Tryz.sizeOf284
 v173:=Tryz.zeroValue284
 t175:=Tryz.underlying334
 a175:=Tryz.isAgg334
 z175:=Tryz.sizeOf334
 v175:=Tryz.zeroValue334
 t210:=Tryz.underlying344
 a210:=Tryz.isAgg344
 z210:=Tryz.sizeOf344
 v210:=Tryz.zeroValue344
 t212:=Tryz.underlying313
 a212:=Tryz.isAgg313
 z212:=Tryz.sizeOf313
 v212:=Tryz.zeroValue313
 t213:=Tryz.underlying314
 a213:=Tryz.isAgg314
 z213:=Tryz.sizeOf314
 t232:=Tryz.underlying340
 a232:=Tryz.isAgg340
 z232:=Tryz.sizeOf340
 v232:=Tryz.zeroValue340
 t233:=Tryz.underlying341
 a233:=Tryz.isAgg341
 z233:=Tryz.sizeOf341
 v233:=Tryz.zeroValue341
 g15:=by kernel_rfl
 g16:=by kernel_rfl
 g17:=by kernel_rfl
 g18:=by kernel_rfl
 g19:=by kernel_rfl
 t80:=Tryz.underlying82
 a80:=Tryz.isAgg82
 z80:=Tryz.sizeOf82
 v80:=Tryz.zeroValue82
 i0:=by kernel_rfl
 i2:=by kernel_rfl
 i3:=by kernel_rfl
 i4:=by kernel_rfl
 i5:=by kernel_rfl
 i9:=by kernel_rfl
 i20:=by kernel_rfl
 i21:=by kernel_rfl
 i37:=by kernel_rfl
 i46:=by kernel_rfl
 i51:=by kernel_rfl
 i53:=by kernel_rfl
 i75:=by kernel_rfl
 i80:=by kernel_rfl
 i85:=by kernel_rfl
 i127:=by kernel_rfl
 i143:=by kernel_rfl
 i145:=by kernel_rfl
 i167:=by kernel_rfl
 i168:=by kernel_rfl
 i171:=by kernel_rfl
 i173:=by kernel_rfl
 i175:=by kernel_rfl
 i210:=by kernel_rfl
 i212:=by kernel_rfl
 i232:=by kernel_rfl
 i233:=by kernel_rfl
 m15:=by kernel_rfl
 m16:=by kernel_rfl
 m17:=by kernel_rfl
 m18:=by kernel_rfl
 m19:=by kernel_rfl
 c0:=by kernel_rfl
 c2:=by kernel_rfl
 c3:=by kernel_rfl
 c4:=by kernel_rfl
 c5:=by kernel_rfl
 c9:=by kernel_rfl
 c20:=by kernel_rfl
 c21:=by kernel_rfl
 c37:=by kernel_rfl
 c46:=by kernel_rfl
 c51:=by kernel_rfl
 c53:=by kernel_rfl
 c75:=by kernel_rfl
 c80:=by kernel_rfl
 c85:=by kernel_rfl
 c127:=by kernel_rfl
 c143:=by kernel_rfl
 c145:=by kernel_rfl
 c167:=by kernel_rfl
 c168:=by kernel_rfl
 c171:=by kernel_rfl
 c173:=by kernel_rfl
 c175:=by kernel_rfl
 c210:=by kernel_rfl
 c212:=by kernel_rfl
 c213:=by kernel_rfl
 c232:=by kernel_rfl
 c233:=by kernel_rfl}
open Go.RowKit in
theorem Tryz.strconv_ParseInt_10_at64_ok (s:ByteArray) (aiK:s.size<=9223372036854775806) (v:Int) (h:Lib.parseIntB 64 s.data.toList=.ok v) (w:World):
 Calls Tryz.prog 287 #[.string s,.int .i64 10,.int .i64 64] w fun e w'=>e=.returned (.tuple #[.int .i64 v,.nilIface])/\(w'=w∨∃t,w'=Lib.bytesWorld w 5 t):=Any.strconv_ParseInt_10_at64_ok Tryz.EJ s aiK v h w
open Go.RowKit in
theorem Tryz.strconv_ParseInt_10_at64_range_var (s:ByteArray) (Wv:s.size<=281474976710656) (h:Lib.parseIntB 64 s.data.toList=.range) (tp:TypeId) (p:Value) (w:World) (Ww:w.var? Tryz.prog "strconv.ErrRange" =some #[.iface tp p]):
 Calls Tryz.prog 287 #[.string s,.int .i64 10,.int .i64 64] w fun e w'=>∃N,e=.returned (.tuple #[.int .i64 (Lib.intSat 64 s.data.toList),.iface 336 (.pointer (some ⟨N,0,none⟩))])/\w.heap.size<=N/\w'.heap[N]? =some (.cells #[.string ⟨#[80,97,114,115,101,73,110,116]⟩,.string s,.iface tp p] 344 (0,0))/\Below w.heap.size w w':=Any.strconv_ParseInt_10_at64_range_var Tryz.EJ s Wv h tp p w Ww
def Tryz.EK:Go.Shelf.Ren:=⟨fun | 219=>228 | 217=>266 | 225=>267 | 224=>268 | 267=>269 | 266=>298 | 314=>299 | n=>n,fun | 9=>9 | 3=>3 | 4=>4 | 5=>5 | 46=>210 | 146=>251 | 51=>250 | n=>n,fun | 1=>0 | n=>n⟩
theorem Tryz.RC:Go.Proofs.Lays.n219 Tryz.prog Tryz.EK:={
 mixed:=by kernel_rfl
 f217:=Tryz.func266.trans (bp some (by kernel_rfl))
 f219:=Tryz.func228.trans (bp some (by kernel_rfl))
 f224:=Tryz.func268.trans (bp some (by kernel_rfl))
 f225:=Tryz.func267.trans (bp some (by kernel_rfl))
 f266:=Tryz.func298.trans (bp some (by kernel_rfl))
 f267:=Tryz.func269.trans (bp some (by kernel_rfl))
 f314:=Tryz.func299.trans (bp some (by kernel_rfl))
 t3:=Tryz.underlying3
 a3:=Tryz.isAgg3
 z3:=Tryz.sizeOf3
 v3:=Tryz.zeroValue3
 t4:=Tryz.underlying4
 a4:=Tryz.isAgg4
 z4:=Tryz.sizeOf4
 v4:=Tryz.zeroValue4
 t5:=Tryz.underlying5
 a5:=Tryz.isAgg5
 z5:=Tryz.sizeOf5
 v5:=Tryz.zeroValue5
 t9:=Tryz.underlying9
 a9:=Tryz.isAgg9
 z9:=Tryz.sizeOf9
 v9:=Tryz.zeroValue9
 t46:=Tryz.underlying210
 a46:=Tryz.isAgg210
 z46:=Tryz.sizeOf210
 v46:=Tryz.zeroValue210
 t51:=Tryz.underlying250
 a51:=Tryz.isAgg250
 z51:=Tryz.sizeOf250
 v51:=Tryz.zeroValue250
 t146:=Tryz.underlying251
 a146:=Tryz.isAgg251
 z146:=Tryz.sizeOf251
 v146:=Tryz.zeroValue251
 g1:=by kernel_rfl}
open Go.RowKit Go.Lib in
theorem Tryz.stringslite_Index_one (s:ByteArray) (c:UInt8) (w:World):
 Calls Tryz.prog 228 #[.string s,.string ⟨#[c]⟩] w fun e w'=>e=.returned (.int .i64 (Lib.indexByte s.data.toList c))/\w'=w:=Any.stringslite_Index_one Tryz.RC s c w
def Tryz.wi:Go.Shelf.Ren:=⟨fun | 105=>83 | 212=>146 | 99=>147 | 165=>148 | 166=>82 | 170=>91 | 169=>43 | 263=>212 | 264=>213 | 206=>214 | 240=>145 | 241=>215 | 276=>211 | 277=>257 | n=>n,fun | 9=>9 | 3=>3 | 4=>4 | 20=>20 | 0=>0 | 46=>210 | 109=>211 | 5=>5 | 72=>70 | 76=>146 | 51=>250 | 146=>251 | 53=>161 | 148=>253 | 70=>67 | 37=>68 | 75=>145 | 127=>153 | 164=>248 | 80=>82 | n=>n,fun | n=>n⟩
theorem Tryz.RD:Go.Proofs.Lays.n105 Tryz.prog Tryz.wi:={
 mixed:=by kernel_rfl
 f99:=Tryz.func147.trans (bp some (by kernel_rfl))
 f105:=Tryz.func83.trans (bp some (by kernel_rfl))
 f165:=Tryz.func148.trans (bp some (by kernel_rfl))
 f166:=Tryz.func82.trans (bp some (by kernel_rfl))
 f169:=Tryz.func43.trans (bp some (by kernel_rfl))
 f170:=Tryz.func91.trans (bp some (by kernel_rfl))
 f206:=Tryz.func214.trans (bp some (by kernel_rfl))
 f212:=Tryz.func146.trans (bp some (by kernel_rfl))
 f240:=Tryz.func145.trans (bp some (by kernel_rfl))
 f241:=Tryz.func215.trans (bp some (by kernel_rfl))
 f263:=Tryz.func212.trans (bp some (by kernel_rfl))
 f264:=Tryz.func213.trans (bp some (by kernel_rfl))
 f276:=Tryz.func211.trans (bp some (by kernel_rfl))
 f277:=Tryz.func257.trans (bp some (by kernel_rfl))
 t0:=Tryz.underlying0
 a0:=Tryz.isAgg0
 z0:=Tryz.sizeOf0
 v0:=Tryz.zeroValue0
 t3:=Tryz.underlying3
 a3:=Tryz.isAgg3
 z3:=Tryz.sizeOf3
 v3:=Tryz.zeroValue3
 t4:=Tryz.underlying4
 a4:=Tryz.isAgg4
 z4:=Tryz.sizeOf4
 v4:=Tryz.zeroValue4
 t5:=Tryz.underlying5
 a5:=Tryz.isAgg5
 z5:=Tryz.sizeOf5
 v5:=Tryz.zeroValue5
 t9:=Tryz.underlying9
 a9:=Tryz.isAgg9
 z9:=Tryz.sizeOf9
 v9:=Tryz.zeroValue9
 t20:=Tryz.underlying20
 a20:=Tryz.isAgg20
 z20:=Tryz.sizeOf20
 v20:=Tryz.zeroValue20
 t37:=Tryz.underlying68
 a37:=Tryz.isAgg68
 z37:=Tryz.sizeOf68
 v37:=Tryz.zeroValue68
 t46:=Tryz.underlying210
 a46:=Tryz.isAgg210
 z46:=Tryz.sizeOf210
 v46:=Tryz.zeroValue210
 t51:=Tryz.underlying250
 a51:=Tryz.isAgg250
 z51:=Tryz.sizeOf250
 v51:=Tryz.zeroValue250
 t53:=Tryz.underlying161
 a53:=Tryz.isAgg161
 z53:=Tryz.sizeOf161
 v53:=Tryz.zeroValue161
 t70:=Tryz.underlying67
 a70:=Tryz.isAgg67
 z70:=Tryz.sizeOf67
 v70:=Tryz.zeroValue67
 t72:=Tryz.underlying70
 a72:=Tryz.isAgg70
 z72:=Tryz.sizeOf70
 v72:=Tryz.zeroValue70
 t75:=Tryz.underlying145
 a75:=Tryz.isAgg145
 z75:=Tryz.sizeOf145
 v75:=Tryz.zeroValue145
 t76:=Tryz.underlying146
 a76:=Tryz.isAgg146
 z76:=Tryz.sizeOf146
 v76:=Tryz.zeroValue146
 t109:=Tryz.underlying211
 a109:=Tryz.isAgg211
 z109:=Tryz.sizeOf211
 v109:=Tryz.zeroValue211
 t127:=Tryz.underlying153
 a127:=Tryz.isAgg153
 z127:=Tryz.sizeOf153
 v127:=Tryz.zeroValue153
 t146:=Tryz.underlying251
 a146:=Tryz.isAgg251
 z146:=Tryz.sizeOf251
 v146:=Tryz.zeroValue251
 t148:=Tryz.underlying253
 a148:=Tryz.isAgg253
 z148:=Tryz.sizeOf253
 v148:=Tryz.zeroValue253
 t164:=Tryz.underlying248
 a164:=Tryz.isAgg248
 z164:=Tryz.sizeOf248
 v164:=Tryz.zeroValue248}
theorem Tryz.uG:Builder.Extra Tryz.prog Tryz.wi:={
 sizeBuilder:=by kernel_rfl
 liesBuilder:=by kernel_rfl
 t5:=Tryz.underlying5
 a5:=Tryz.isAgg5
 z5:=Tryz.sizeOf5
 v5:=Tryz.zeroValue5
 infoByte:=by kernel_rfl
 cellsByte:=by kernel_rfl
 sizeByte:=by kernel_rfl
 neB5:=by decide}
open Go.RowKit Go.Lib in
theorem Tryz.strings_Repeat (s:ByteArray) (c:Nat) (w:World) (hc:c<=9223372036854775807) (dN:s.size*c<=140737488355328):
 Calls Tryz.prog 83 #[.string s,.int .i64 c] w fun e w'=>e=.returned (.string ⟨(Lib.repeatL s.data.toList c).toArray⟩)/\Below w.heap.size w w':=Any.strings_Repeat Tryz.RD Tryz.uG s c w hc dN
end Go.Proofs
namespace Go.Proofs.YtmhoiicofhlgbaaGreatDoor.Con
open Go.Value renaming int->O,string->ab,pointer->ae,agg->ah,tuple->ai,bool->aj
open Go.IntKind renaming i64->U,wrap->ar
open Go.Ending renaming returned->ak
open _root_.ByteArray renaming mk->ao
open _root_.Go.Proofs.Tryz renaming prog->aq
open Go.Instr renaming buildSlice->au
open Go renaming World->av,Value->aw,Calls->az
open Go.Kt renaming Only->ay
open Go Go.RowKit Go.Kt Go.Kt.V Go.Proofs.YtmhoiicofhlgbaaGreatDoor.Vc
set_option linter.unusedSimpArgs false
set_option linter.unusedVariables false
theorem ret {P:Program} {f:FuncId} {a:Array aw} {w:av} {r:aw} {Q:av->Prop} (h:az P f a w fun e w'=>∃v,e=ak v/\v=r/\Q w'):az P f a w fun e w'=>e=ak r/\Q w':=
 h.mono (by rintro e w' ⟨v,rfl,rfl,hq⟩;exact⟨rfl,hq⟩)
theorem Blk.dI {w:av} {b:Nat} {t:TypeId} {cs:List aw} (h:Blk w b t cs) (j:Nat) {v:aw} (hv:cs[j]? =some v):Cells w ((⟨b,0,none⟩:Addr).add j) [v]:=by
 rw[gC,bm];exact h.cells j [v] fun k u hk=>by
  cases k with
  | zero=>simp only[cj,aJ]at hk;subst hk;exact hv
  | succ k=>simp at hk
def dT (c:UInt8):Bool:=(65<=c.toNat&&c.toNat<=90)||(97<=c.toNat&&c.toNat<=122)||c.toNat==95
def cw (c:UInt8):Bool:=48<=c.toNat&&c.toNat<=57
def dC (c:UInt8):Bool:=dT c||cw c
def lY (c:UInt8):Bool:=[9,10,13,32].contains c
theorem FP:∀n:Fin 256,(((decide (97<=(bits .or .u8 (n.val:Int) 32)))&&(decide ((bits .or .u8 (n.val:Int) 32)<=122)))||((n.val:Int)==95))=((65<=n.val&&n.val<=90)||(97<=n.val&&n.val<=122)||n.val==95):=by decide+kernel
theorem xV (w:av) (c:UInt8):az aq 152 #[.int .u8 (c.toNat:Int)] w fun e w'=>e=ak (aj (dT c))/\ay [] w w':=by
 refine ret (ZF _ _ _ ?_);unfold SK;exact⟨by rw[FP ⟨c.toNat,c.toNat_lt⟩];rfl,Only.refl _ _⟩
theorem Hu (w:av) (c:UInt8):az aq 204 #[.int .u8 (c.toNat:Int)] w fun e w'=>e=ak (aj (cw c))/\ay [] w w':=by
 refine ret (ZI _ _ _ ?_);unfold SN;refine⟨?_,Only.refl _ _⟩;congr 1;rw[bq];simp only[cw,aE,bd];omega
theorem L4 (w:av) (c:UInt8):az aq 286 #[.int .u8 (c.toNat:Int)] w fun e w'=>e=ak (aj (cw c))/\ay [] w w':=by
 refine ret (v2w _ _ _ ?_);unfold v2v;refine⟨?_,Only.refl _ _⟩;have h:∀n:Fin 256,decide ((ar .u8 ((n.val:Int)-48))<10)=(decide (48<=n.val)&&decide (n.val<=57)):=by decide+kernel
 rw[h ⟨c.toNat,c.toNat_lt⟩];rfl
theorem L5 {w:av} {F:Nat->Prop} {s:Sl} {l:aB} (h:SliceF jE 1 w F s l) (c:UInt8):
  az aq 284 #[Sl.v s,.int .u8 (c.toNat:Int)] w fun e w'=>∃i:Int,e=ak (O U i)/\decide (i>=0)=l.contains c/\ay [] w w':=by
 refine(Zy s _ (fun v w'=>∃i:Int,v=O U i/\decide (i>=0)=l.contains c/\ay [] w w') w ?_).mono (by
  rintro e w' ⟨v,rfl,i,rfl,h⟩;exact⟨i,rfl,h⟩)
 unfold SF;have dN:=h.len;have og:=h.big;have mD:=h.cap;refine⟨fun nv i w'=>∃n:Nat,n<=l.length/\i=(n:Int)/\nv=l.length-n/\(∀x,x∈l.take n->x≠c)/\w'=w,l.length,⟨0,aQ _,rfl,rfl,by simp,rfl⟩,?_⟩;rintro nv _ _ ⟨n,hn,rfl,rfl,hp,rfl⟩;refine⟨fun hc=>?_,fun hc=>?_⟩
 ·have bJ:(n:Int)<s.n:=aG hc;obtain⟨ad,x,cs,g1,g2,g3,g4,g5,g6⟩:=h.get (aO n) bJ;rw[aM]at g2;unfold jE fx at g6;subst g6;refine⟨ad,g1,_,g5,fun he=>⟨_,rfl,?_,Only.refl _ _⟩,fun he=>⟨l.length-(n+1),by omega,n+1,by omega,by rw[fy (by omega) (by omega)];rfl,rfl,?_,rfl⟩⟩
  ·have he:c=x:=Pe.1 (by have:=aG he;omega);rw[bh (by omega)];symm;rw[dK,he];exact be g2
  ·intro y hy;rw[bn,g2]at hy;simp only[eG,cq,aF]at hy;rcases hy with hy | rfl
   ·exact hp y hy
   ·rintro rfl;simp at he
 ·have kO:¬((n:Int)<s.n):=aI hc;rw[bB (by omega)]at hp;refine⟨_,rfl,?_,Only.refl _ _⟩;rw[aZ (by omega)];symm;rw[fH];intro hh;exact hp c (dK.1 hh) rfl
theorem DE {w:av} {F:Nat->Prop} {s:Sl} {l:aB} (h:SliceF jE 1 w F s l) (c:UInt8):
  az aq 249 #[Sl.v s,.int .u8 (c.toNat:Int)] w fun e w'=>e=ak (aj (l.contains c))/\ay [] w w':=by
 refine ret (Zx _ _ _ _ ?_);unfold SE;refine(L5 h c).mono ?_;rintro _ w1 ⟨i,rfl,hi,hO⟩;exact⟨i,rfl,by rw[hi],hO⟩
theorem DF {w:av} {F:Nat->Prop} {s:Sl} {l:aB} (h:SliceF jE 1 w F s l) (c:UInt8):
  az aq 200 #[.int .u8 (c.toNat:Int),Sl.v s] w fun e w'=>e=ak (aj (l.contains c))/\ay [] w w':=by
 refine ret (Zw _ _ _ _ ?_);unfold SD;refine(DE h c).mono ?_;rintro _ w1 ⟨rfl,hO⟩;exact⟨_,rfl,rfl,hO⟩
def iW:Rp (aB):=fun _ _ l cs=>cs=[ab (T l)]
theorem cG:iW.Ok where
 keep h _:=h
 inHeap h:=h
 mono h _:=h
 one:=by
  rintro w F x cs h v hv;unfold iW at h;subst h;simp only[aF]at hv;subst hv;rfl
theorem L6 {w:av} {F:Nat->Prop} {s:Sl} {l:List (aB)} (h:SliceF iW 1 w F s l) (c:aB):
  az aq 207 #[Sl.v s,ab (T c)] w fun e w'=>∃i:Int,e=ak (O U i)/\decide (i>=0)=l.contains c/\ay [] w w':=by
 refine(SP s _ (fun v w'=>∃i:Int,v=O U i/\decide (i>=0)=l.contains c/\ay [] w w') w ?_).mono (by
  rintro e w' ⟨v,rfl,i,rfl,h⟩;exact⟨i,rfl,h⟩)
 unfold LX;have dN:=h.len;have og:=h.big;have mD:=h.cap;refine⟨fun nv i w'=>∃n:Nat,n<=l.length/\i=(n:Int)/\nv=l.length-n/\(∀x,x∈l.take n->x≠c)/\w'=w,l.length,⟨0,aQ _,rfl,rfl,by simp,rfl⟩,?_⟩;rintro nv _ _ ⟨n,hn,rfl,rfl,hp,rfl⟩;refine⟨fun hc=>?_,fun hc=>?_⟩
 ·have bJ:(n:Int)<s.n:=aG hc;obtain⟨ad,x,cs,g1,g2,g3,g4,g5,g6⟩:=h.get (aO n) bJ;rw[aM]at g2;unfold iW at g6;subst g6;refine⟨ad,g1,_,g5,?_⟩;rw[gV];refine⟨fun he=>⟨_,rfl,?_,Only.refl _ _⟩,fun he=>⟨l.length-(n+1),by omega,n+1,by omega,by rw[fy (by omega) (by omega)];rfl,rfl,?_,rfl⟩⟩
  ·have he:c=x:=aG he;rw[bh (by omega)];symm;rw[dK,he];exact be g2
  ·intro y hy;rw[bn,g2]at hy;simp only[eG,cq,aF]at hy;rcases hy with hy | rfl
   ·exact hp y hy
   ·rintro rfl;simp at he
 ·have kO:¬((n:Int)<s.n):=aI hc;rw[bB (by omega)]at hp;refine⟨_,rfl,?_,Only.refl _ _⟩;rw[aZ (by omega)];symm;rw[fH];intro hh;exact hp c (dK.1 hh) rfl
theorem qJ {w:av} {F:Nat->Prop} {s:Sl} {l:List (aB)} (h:SliceF iW 1 w F s l) (c:aB):
  az aq 154 #[Sl.v s,ab (T c)] w fun e w'=>e=ak (aj (l.contains c))/\ay [] w w':=by
 refine ret (ZJ _ _ _ _ ?_);unfold SO;refine(L6 h c).mono ?_;rintro _ w1 ⟨i,rfl,hi,hO⟩;exact⟨i,rfl,by rw[hi],hO⟩
abbrev QH (w:av) (b:Nat) (t:TypeId) (l:aB) (i:Nat) (r:List aw):Prop:=Blk w b t (ab (T l)::O U (i:Int)::r)
theorem Tz {w:av} {b:Nat} {t:TypeId} {l:aB} {i:Nat} {r:List aw} (h:QH w b t l i r):
  az aq 135 #[ae (some ⟨b,0,none⟩)] w fun e w'=>e=ak (aj (decide (l.length<=i)))/\ay [] w w':=by
 refine ret (Zv _ _ _ ?_);unfold SC;refine⟨i,Blk.dI h 1 rfl,T l,Blk.dI h 0 rfl,fun w0 hO=>⟨?_,hO⟩⟩;rw[bI];congr 1;rw[KD];omega
theorem xW {w:av} {b:Nat} {t:TypeId} {l:aB} {i:Nat} {r:List aw} (h:QH w b t l i r) (hi:i<=l.length):
  az aq 201 #[ae (some ⟨b,0,none⟩)] w fun e w'=>e=ak (ab (T (l.drop i)))/\ay [] w w':=by
 refine ret (Zz _ _ _ ?_);unfold SG;refine⟨T l,Blk.dI h 0 rfl,i,Blk.dI h 1 rfl,i,⟨rfl,by rw[bI];exact hi⟩,fun w0 hO=>⟨?_,hO⟩⟩;rw[qA,bI,bB (by rw[bN];exact aK _)]
theorem jX {p:UInt8->Bool}:∀{l:aB} {n:Nat},n<=l.length->(∀x,x∈l.take n->p x=true)->(∀x,l[n]? =some x->p x=false)->l.takeWhile p=l.take n
 | [],n,_,_,_=>by simp
 | c::r,0,_,_,h=>by
  have:=h c rfl;simp[this]
 | c::r,n+1,hn,h1,h2=>by
  have hc:=h1 c (by simp);rw[cI,if_pos hc,fL,jX (n:=n) (by simpa using hn) (fun x hx=>h1 x (by simp[hx])) (fun x hx=>h2 x (by simpa using hx))]
theorem L7 {w:av} {b:Nat} {t:TypeId} {l:aB} {i:Nat} {r:List aw} (h:QH w b t l i r) (hi:i<=l.length) (hl:l.length<9223372036854775807):
  az aq 153 #[ae (some ⟨b,0,none⟩)] w fun e w'=>e=ak (ab (T ((l.drop i).takeWhile dC)))/\ay [] w w':=by
 refine ret (ZH _ _ _ ?_);unfold SM;refine(xW h hi).mono ?_;rintro _ w0 ⟨rfl,bT⟩;have hlr:(l.drop i).length<=l.length:=by rw[bN];omega
 generalize l.drop i=m at*
 refine⟨T m,rfl,fun nv j w'=>∃n:Nat,n<=m.length/\j=(n:Int)/\nv=m.length-n/\(∀x,x∈m.take n->dC x=true)/\ay [] w w',m.length,⟨0,aQ _,rfl,rfl,by simp,bT⟩,?_⟩;rintro nv _ w1 ⟨n,hn,rfl,rfl,hp,bZ⟩;rw[bI];refine⟨fun b w'=>(b=true->∃x,m[n]? =some x/\dC x=true)/\(b=false->∀x,m[n]? =some x->dC x=false)/\ay [] w w',?_,fun hc=>?_,fun hc=>⟨fun e=>(by cases e),fun _ x hx=>?_,bZ⟩⟩
 ·rintro b w2 ⟨h1,h2,cp⟩;refine⟨fun hb=>?_,fun hb=>⟨n,⟨rfl,hn⟩,?_,cp⟩⟩
  ·obtain⟨x,hx,hw⟩:=h1 hb;have bJ:=(aP.1 hx).1;refine⟨m.length-(n+1),by omega,n+1,by omega,by rw[fy (by omega) (by omega)];rfl,rfl,fun y hy=>?_,cp⟩;rw[bn,hx]at hy;simp only[eG,cq,aF]at hy;rcases hy with hy | rfl
   ·exact hp y hy
   ·exact hw
  ·rw[qA,fg,rD,jX hn hp (h2 hb)]
 ·have bJ:(n:Int)<m.length:=aG hc;have hx:m[n]? =some (m[n]'(by omega)):=bA (by omega);generalize m[n]'(by omega)=x at hx;have hg:(T m)[Int.toNat (n:Int)]? =some x:=by rw[ke,aM,hx]
  refine⟨x,⟨aO n,hg⟩,(xV w1 x).mono ?_⟩;rintro _ w3 ⟨rfl,cO⟩;refine⟨_,rfl,fun hb=>⟨fun _=>⟨x,hx,by unfold dC;rw[hb];rfl⟩,fun e=>(by cases e),bZ.bP cO⟩,fun hb=>⟨x,⟨aO n,hg⟩,(Hu w3 x).mono ?_⟩⟩;rintro _ w4 ⟨rfl,dm⟩;refine⟨_,rfl,fun hd=>⟨x,hx,by unfold dC;rw[hd,lA]⟩,fun hd y hy=>?_,bZ.bP (cO.bP dm)⟩;rw[hx]at hy;injection hy with hy;subst hy;unfold dC;rw[hb,hd];rfl
 ·have kO:¬(n:Int)<m.length:=aI hc;have:=(aP.1 hx).1;omega
theorem DG (w:av) (l p:aB) (hl:l.length<9223372036854775807) (hp:p.length<9223372036854775807):az aq 147 #[ab (T l),ab (T p)] w fun e w'=>e=ak (aj (decide (l.take p.length=p)))/\ay [] w w':=by
 refine ret (ZA _ _ _ _ ?_);unfold SH;refine(ret (agd (T l) (T p) (fun v w'=>v=aj (decide (l.take p.length=p))/\ay [] w w') w ?_)).mono ?_
 ·unfold ZB;rw[bI,bI];refine⟨p.length,fun h=>⟨rfl,by have:=aG h;omega⟩,?_,Only.refl _ _⟩;rw[qA,gV,fg,rD];congr 1;rw[bq];simp only[aE,bd];constructor
  ·exact fun h=>h.2
  ·intro h;refine⟨?_,h⟩;have:=bp List.length h;rw[cM]at this;omega
 ·rintro _ w1 ⟨rfl,hO⟩;exact⟨_,rfl,rfl,hO⟩
theorem pZ:∀(l:aB) (c:UInt8),Lib.indexByte l c=if c∈l then((l.takeWhile (· !=c)).length:Int)else -1
 | [],c=>by simp[Lib.indexByte]
 | b::l,c=>by
  rw[Lib.indexByte,pZ l c];by_cases hbc:b=c
  ·subst hbc;simp
  ·by_cases hm:c∈l
   ·have h1:(b==c)=false:=by simpa using hbc
    have h2:(b !=c)=true:=by simpa using hbc
    have h3:c∈b::l:=by simp[hm]
    rw[h1,if_pos hm,if_pos h3,cI,if_pos h2];simp
   ·have h1:(b==c)=false:=by simpa using hbc
    have h3:¬c∈b::l:=by simp[hm];exact fun e=>hbc e.symm
    rw[h1,if_neg hm,if_neg h3];simp
theorem xX {c:UInt8}:∀{l:aB},¬c∈l->l.takeWhile (· !=c)=l
 | [],_=>rfl
 | b::l,h=>by
  simp only[aL,not_or]at h;rw[cI,if_pos (by simpa using fun e=>h.1 e.symm),xX h.2]
theorem ld {p:UInt8->Bool}:∀{l:aB},l.takeWhile p=l.take (l.takeWhile p).length
 | []=>rfl
 | b::l=>by
  rw[cI];split
  ·rw[aH,fL,<-ld]
  ·rfl
theorem abI (w:av) (l:aB) (c:UInt8) (hl:l.length<9223372036854775807):az aq 202 #[ab (T l),ab (T [c])] w fun e w'=>∃(s:asw) (b:Bool),e=ak (ai #[ab (T (l.takeWhile (· !=c))),ab s,aj b])/\ay [] w w':=by
 refine(ZC _ _ (fun v w'=>∃(s:asw) (b:Bool),v=(ai #[ab (T (l.takeWhile (· !=c))),ab s,aj b])/\ay [] w w') w ?_).mono (by
  rintro e w' ⟨v,rfl,s,b,rfl,h⟩;exact⟨s,b,rfl,h⟩)
 unfold SI;refine(age (T l) (T [c]) (fun v w'=>∃(s:asw) (b:Bool),v=(ai #[ab (T (l.takeWhile (· !=c))),ab s,aj b])/\ay [] w w') w ?_).mono ?_
 ·unfold ZD;refine(Tryz.stringslite_Index_one (T l) c w).mono ?_;rintro _ _ ⟨rfl,rfl⟩;have e:(T l).data.toList=l:=rfl;rw[e,pZ];refine⟨_,rfl,fun h=>?_,fun h=>?_⟩
  ·by_cases hm:c∈l
   ·rw[if_pos hm];have bJ:(l.takeWhile (· !=c)).length<l.length:=by
     have h1:=List.takeWhile_append_dropWhile (p:=(· !=c)) (l:=l);have h2:=bp List.length h1;rw[aD]at h2;have h3:l.dropWhile (· !=c)≠[]:=by
      intro h3;rw[h3,br]at h1;rw[<-h1]at hm;have:=List.all_takeWhile (p:=(· !=c)) (l:=l);rw[dB]at this;have:=this c (by rw[h1]at hm⊢;exact hm);simp at this
     have h4:=CJ.2 h3;omega
    have hk:(T l).extract 0 (l.takeWhile (· !=c)).length=T (l.takeWhile (· !=c)):=by
     rw[qA,fg,rD,<-ld]
    refine⟨(l.takeWhile (· !=c)).length,⟨rfl,by rw[bI];omega⟩,(l.takeWhile (· !=c)).length+1,⟨by rw[bI,fy (by simp;omega) (by simp;omega)];rfl,by rw[bI];omega⟩,fun w1 hO=>⟨(T l).extract ((l.takeWhile (· !=c)).length+1) (T l).size,true,?_,hO⟩⟩;rw[hk]
   ·rw[if_neg hm]at h;exact absurd (aG h) (by omega)
  ·by_cases hm:c∈l
   ·rw[if_pos hm]at h;exact absurd (aI h) (by omega)
   ·rw[xX hm];exact⟨_,_,rfl,Only.refl _ _⟩
 ·rintro _ w1 ⟨v,rfl,s,b,rfl,hO⟩;exact⟨_,s,b,rfl,s,b,rfl,hO⟩
end Go.Proofs.YtmhoiicofhlgbaaGreatDoor.Con
namespace Go.Proofs.YtmhoiicofhlgbaaGreatDoor.Con
open Go.Value renaming int->O,string->ab,pointer->ae,agg->ah,tuple->ai,bool->aj
open Go.IntKind renaming i64->U,wrap->ar
open Go.Ending renaming returned->ak
open _root_.ByteArray renaming mk->ao
open _root_.Go.Proofs.Tryz renaming prog->aq
open Go.Instr renaming buildSlice->au
open Go renaming World->av,Value->aw,Calls->az
open Go.Kt renaming Only->ay
open Go Go.RowKit Go.Kt Go.Kt.V Go.Proofs.YtmhoiicofhlgbaaGreatDoor.Vc
set_option linter.unusedSimpArgs false
set_option linter.unusedVariables false
set_option maxHeartbeats 4000000
theorem pH (w:av) (l:aB) {n:Nat} {parts:Array (Nat×aw)} (hp:parts=(((l.map fx).zipIdx 0).map fun x=>(x.2,x.1)).toArray) (hn:l.length=n) (h0:0<n) (sI:n*1<=16777216):
  ∃s w',(au 68 n parts).run aq w=.ok (Sl.v s) w'/\Own jE 1 5 w.heap.size w' (fun _=>True) s l/\ay [] w w'/\s.a=some ⟨w.heap.size,0,none⟩:=by
 obtain⟨s,w',h1,h2,h3,h4,_⟩:=kR (P:=aq) (t:=68) (e:=5) (i:=Tryz.t5) (w:=w) (F:=fun _=>True) (r:=jE) (size:=1) (vs:=l.map fx) (xs:=l) (len:=n) (by kernel_rfl) (by kernel_rfl) rfl rfl (by decide) hp (by rw[bL];exact hn) h0 sI oz (by
  clear hp hn
  induction l with
  | nil=>exact trivial
  | cons a l ih=>exact⟨⟨rfl,rfl⟩,ih⟩)
 exact⟨s,w',h1,h2,h3,h4⟩
theorem QI (l:List (aB)) (w:av):ny iW 1 w (fun _=>True) l ((l.map fun x=>Value.string (T x)).map fun v=>v.cells.toList):=by
 induction l with
 | nil=>exact trivial
 | cons a l ih=>exact⟨⟨rfl,rfl⟩,ih⟩
theorem iB (w:av) (l:List (aB)) {n:Nat} {parts:Array (Nat×aw)} (hp:parts=(((l.map fun x=>Value.string (T x)).zipIdx 0).map fun x=>(x.2,x.1)).toArray) (hn:l.length=n) (h0:0<n) (sI:n*1<=16777216):
  ∃s w',(au 52 n parts).run aq w=.ok (Sl.v s) w'/\Own iW 1 9 w.heap.size w' (fun _=>True) s l/\ay [] w w':=by
 obtain⟨s,w',h1,h2,h3,_⟩:=kR (P:=aq) (t:=52) (e:=9) (i:=Tryz.t9) (w:=w) (F:=fun _=>True) (r:=iW) (size:=1) (vs:=l.map fun x=>Value.string (T x)) (xs:=l) (len:=n) (by kernel_rfl) (by kernel_rfl) rfl rfl (by decide) hp (by rw[bL];exact hn) h0 sI cG (QI l w);exact⟨s,w',h1,h2,h3⟩
theorem Hv {α:Type} {r:Rp α} {size:Nat} {e:TypeId} {B:Nat} {w:av} {F:Nat->Prop} {s:Sl} {xs:List α} (hr:r.Ok) (hf:∀w F G x cs,r w F x cs->r w G x cs) (h:Own r size e B w F s xs):SliceF r size w (fun k=>B<=k/\s.a=some ⟨k,0,none⟩) s xs:=by
 rcases h with⟨rfl,rfl⟩ | ⟨g,css,tail,a1,a2,a4,a5,a6,a7,a9,a8⟩
 ·exact SliceF.nil _ _ _ _
 ·have h':Own r size e B w (fun _=>False) s xs:=.inr ⟨g,css,tail,a1,a2,a4,a5,a6,a7,a9,fG.imp (fun _ _ h=>⟨h.1,hf _ _ _ _ _ h.2⟩) a8⟩;exact(h'.slice hr).mono hr fun k hk=>hk.elim False.elim id
theorem uc {e:TypeId} {B:Nat} {w:av} {F:Nat->Prop} {s:Sl} {xs:aB} (h:Own jE 1 e B w F s xs):SliceF jE 1 w (fun k=>B<=k/\s.a=some ⟨k,0,none⟩) s xs:=Hv oz (fun _ _ _ _ _ h=>h) h
theorem qc {e:TypeId} {B:Nat} {w:av} {F:Nat->Prop} {s:Sl} {xs:List (aB)} (h:Own iW 1 e B w F s xs):SliceF iW 1 w (fun k=>B<=k/\s.a=some ⟨k,0,none⟩) s xs:=Hv cG (fun _ _ _ _ _ h=>h) h
def iL:Bool->aB->Nat
 | _,[]=>0
 | true,c::r=>1+iL (c !=10) r
 | false,c::r=>if lY c then 1+iL false r else if c==47&&r.head? ==some 47 then 1+iL true r else 0
theorem Bw:∀{b:Bool} {l:aB},iL b l<=l.length
 | b,[]=>by simp[iL]
 | true,c::r=>by
  rw[iL,aH];have:=Bw (b:=c !=10) (l:=r);omega
 | false,c::r=>by
  rw[iL,aH];have h1:=Bw (b:=false) (l:=r);have h2:=Bw (b:=true) (l:=r);split
  ·omega
  ·split<;>omega
theorem DH:∀(l:aB),iL true l=(l.takeWhile (· !=10)).length+iL false (l.drop (l.takeWhile (· !=10)).length)
 | []=>rfl
 | c::r=>by
  by_cases hc:c=10
  ·subst hc;rw[iL];simp[iL,lY]
  ·have h:(c !=10)=true:=by simpa using hc
   rw[iL,h,DH r,cI,if_pos h,aH,lM];omega
theorem zV {l:aB} (h:l.take 2=[47,47]):iL false l=(l.takeWhile (· !=10)).length+iL false (l.drop (l.takeWhile (· !=10)).length):=by
 match l,h with
 | a::b::r,h=>
  simp only[fL,dr,qu,and_true]at h;obtain⟨rfl,rfl⟩:=h;have e:iL false (47::47::r)=1+iL true (47::r):=by
   conv=>lhs;rw[iL]
   rw[if_neg (by decide),if_pos (by simp)]
  have e2:=DH (47::r);have e3:(47::47::r:aB).takeWhile (· !=10)=47::(47::r:aB).takeWhile (· !=10):=by
   rw[cI,if_pos (by decide)]
  rw[e,e2,e3,aH,lM];omega
theorem lf {l:aB} {j:Nat} {x:UInt8} (h:l[j]? =some x):l.drop j=x::l.drop (j+1):=by
 obtain⟨h1,h2⟩:=aP.1 h;rw[fR h1,h2]
theorem L8 {w:av} {b:Nat} {t:TypeId} {l:aB} {i:Nat} {r:List aw} (h:QH w b t l i r) (hi:i<=l.length) (hl:l.length<9223372036854775807):
  az aq 134 #[ae (some ⟨b,0,none⟩)] w fun e w'=>e=ak (ai #[])/\ay [b] w w'/\QH w' b t l (i+iL false (l.drop i)) r:=by
 refine ret (Zu _ _ _ ?_);unfold SB;refine⟨fun nv w'=>∃j:Nat,j<=l.length/\nv=l.length-j/\i+iL false (l.drop i)=j+iL false (l.drop j)/\ay [b] w w'/\QH w' b t l j r,l.length-i,⟨i,hi,rfl,rfl,Only.refl _ _,h⟩,?_⟩;rintro nv w0 ⟨j,hj,rfl,RN,bT,h0⟩;have kp:∀{u u':av} {n:Nat},ay [] u u'->QH u b t l n r->QH u' b t l n r:=fun hO hC=>(hO.block b hC.lt (by simp)).trans hC;refine(Tz h0).mono ?_;rintro _ w1 ⟨rfl,bZ⟩;have h1:=kp bZ h0;refine⟨_,rfl,fun hc=>?_,fun hc=>⟨rfl,bT.trans bZ (by simp),?_⟩⟩
 ·have bJ:j<l.length:=by simpa using hc
  have hx:l[j]? =some l[j]:=bA bJ;generalize l[j]=x at hx;have hd:=lf hx;refine⟨T l,Blk.dI h1 0 rfl,j,Blk.dI h1 1 rfl,x,⟨aO j,by rw[ke,aM,hx]⟩,fun w2 cp=>?_⟩;obtain⟨s,w3,k1,k2,k3,_⟩:=pH w2 [9,10,13,32] (n:=4) (parts:=#[(0,.int .u8 9),(1,.int .u8 10),(2,.int .u8 13),(3,.int .u8 32)]) rfl rfl (by decide) (by decide);refine⟨s,w3,k1,(DF (uc k2) x).mono ?_⟩;rintro _ w4 ⟨rfl,dm⟩;have eh:=cp.bP (k3.bP dm);have h4:=kp eh h1;have oh:ay [b] w w4:=bT.trans (bZ.bP eh) (by simp);refine⟨_,rfl,fun hb=>⟨j,Blk.dI h4 1 rfl,b,1,_,t,by rw[gC],h4,by simp,fun w5 dS tJ=>⟨l.length-(j+1),by omega,j+1,by omega,rfl,?_,oh.trans dS (by simp),?_⟩⟩,fun hb=>(xW h4 hj).mono ?_⟩
  ·have e:lY x=true:=hb;rw[RN,hd,iL,if_pos e];omega
  ·rw[fy (by omega) (by omega)]at tJ;exact tJ
  rintro _ w6 ⟨rfl,dG⟩;have h6:=kp dG h4;have hlr:(l.drop j).length<=l.length:=by rw[bN];omega
  refine⟨_,rfl,(DG w6 (l.drop j) [47,47] (by omega) (by decide)).mono ?_⟩;rintro _ w7 ⟨rfl,fz⟩;have h7:=kp fz h6;refine⟨_,rfl,fun hs=>(xW h7 hj).mono ?_,fun hs=>⟨rfl,oh.trans (dG.bP fz) (by simp),?_⟩⟩
  ·rintro _ w8 ⟨rfl,fh⟩;have h8:=kp fh h7;refine⟨_,rfl,(abI w8 (l.drop j) 10 (by omega)).mono ?_⟩;rintro _ w9 ⟨s9,b9,rfl,fK⟩;have h9:=kp fK h8;have AK:(l.drop j).take 2=[47,47]:=aG hs;have hk:=zV AK;have dN:((l.drop j).takeWhile (· !=10)).length<=(l.drop j).length:=by
    rw[ld,cM];exact Nat.min_le_right _ _
   have RO:0<((l.drop j).takeWhile (· !=10)).length:=by
    match hq:l.drop j,AK with
    | a::r',AK=>
     have:a=47:=by
      match r',AK with
      | b'::r'',AK=>simp at AK;exact AK.1
     subst this;simp
   have hld:(l.drop j).length=l.length-j:=bN;generalize hn:((l.drop j).takeWhile (· !=10)).length=n at*
   refine⟨_,s9,b9,rfl,j,Blk.dI h9 1 rfl,b,1,_,t,by rw[gC],h9,by simp,fun cK dy nt=>⟨l.length-(j+n),by omega,j+n,by omega,rfl,?_,(oh.trans (dG.bP (fz.bP (fh.bP fK))) (by simp)).trans dy (by simp),?_⟩⟩
   ·rw[RN,hk,iA];omega
   ·rw[bI,hn,fy (by omega) (by omega)]at nt;exact nt
  ·have hs:¬(l.drop j).take 2=[47,47]:=aI hs;have hb:lY x=false:=hb;have hz:iL false (l.drop j)=0:=by
    rw[hd,iL,if_neg (by simp[hb]),if_neg];intro hh;apply hs;rw[hd];simp only[aE,cZ]at hh;obtain⟨rfl,hh⟩:=hh;cases hr:l.drop (j+1)with
    | nil=>rw[hr]at hh;simp at hh
    | cons y z=>
     rw[hr]at hh;simp only[fN,aJ]at hh;rw[hh];rfl
   rw[RN,hz];exact h7
 ·have kO:l.length<=j:=by simpa using hc
  have hz:l.drop j=[]:=cX kO;rw[RN,hz];exact h1
def Er (w:av):Prop:=∃tp p,w.var? aq "strconv.ErrRange" =some #[.iface tp p]
theorem er_num:Tryz.prog.globalNamed "strconv.ErrRange" =some 7:=by kernel_rfl
theorem Er.keep {w w':av} (h:Er w) (hk:7<w.heap.size->w'.heap[7]? =w.heap[7]?):Er w':=by
 obtain⟨tp,p,h⟩:=h;refine⟨tp,p,?_⟩;unfold World.var? at h⊢;rw[er_num]at h⊢;simp only[lz]at h⊢;rw[hk]
 ·exact h
 ·refine bf fun hn=>?_;rw[eL (by omega)]at h;cases h
theorem Er.lt {w:av} (h:Er w):7<w.heap.size:=by
 obtain⟨tp,p,h⟩:=h;unfold World.var? at h;rw[er_num]at h;simp only[lz]at h;refine bf fun hn=>?_;rw[eL (by omega)]at h;cases h
theorem Er.only {w w':av} (h:Er w) (hO:ay [] w w'):Er w':=h.keep fun bJ=>hO.block _ bJ (by simp)
def js (a:Nat) (ds:aB):Nat:=ds.foldl (fun a c=>a*10+(c.toNat-48)) a
theorem Bx:∀(ds:aB) (a:Nat),a<=js a ds
 | [],a=>aK _
 | c::r,a=>by
  have:=Bx r (a*10+(c.toNat-48));show a<=js (a*10+(c.toNat-48)) r;omega
theorem pum:∀(ds:aB) (a:Nat),(∀c,c∈ds->cw c=true)->a<=18446744073709551615->
  Lib.parseUintM 18446744073709551615 a ds=if js a ds<=18446744073709551615 then .ok (js a ds)else .range
 | [],a,_,h=>by rw[Lib.parseUintM];exact(if_pos h).symm
 | c::r,a,hd,h=>by
  have hc:=hd c (by simp);simp only[cw,aE,bd]at hc;have e:js a (c::r)=js (a*10+(c.toNat-48)) r:=rfl;have kO:=Bx r (a*10+(c.toNat-48));rw[Lib.parseUintM,if_pos hc,e];split
  ·rw[if_neg (by omega)]
  ·split
   ·rw[if_neg (by omega)]
   ·rw[pum r _ (fun x hx=>hd x (by simp[hx])) (by omega)]
theorem pib {ds:aB} (hd:∀c,c∈ds->cw c=true) (gf:ds≠[]):Lib.parseIntB 64 ds=if js 0 ds<9223372036854775808 then .ok (js 0 ds:Int)else .range:=by
 match ds,gf with
 | c::r,_=>
  have hc:=hd c (by simp);simp only[cw,aE,bd]at hc;have h1:¬(c.toNat=43∨c.toNat=45):=by omega
  have h2:¬c.toNat=45:=by omega
  have h3:Lib.parseUintB 64 (c::r)=Lib.parseUintM 18446744073709551615 0 (c::r):=by
   rw[Lib.parseUintB,if_neg (by simp)]
  unfold Lib.parseIntB;dsimp only;rw[if_neg h1,h3,pum _ _ hd (by decide)];by_cases hv:js 0 (c::r)<=18446744073709551615
  ·rw[if_pos hv];by_cases hw:js 0 (c::r)<9223372036854775808
   ·rw[if_pos hw];simp[h2];omega
   ·rw[if_neg hw];simp[h2];omega
  ·rw[if_neg hv,if_neg (by omega)]
def eu (l:aB):Nat×Nat×Int:=
 if l=[]then(0,0,3)else if l.takeWhile cw=[]∨(1<(l.takeWhile cw).length/\l.head? =some 48)then(0,0,4)
 else if js 0 (l.takeWhile cw)<9223372036854775808 then(js 0 (l.takeWhile cw),(l.takeWhile cw).length,0)else(0,0,20)
theorem vf {p:UInt8->Bool} {l:aB}:∀c,c∈l.takeWhile p->p c=true:=by
 have:=List.all_takeWhile (p:=p) (l:=l);rwa[dB]at this
theorem L9 {w:av} {l:aB} (hE:Er w) (hl:l.length<281474976710656):
  az aq 252 #[ab (T l)] w fun e w'=>e=ak (ai #[O U (eu l).1,O U (eu l).2.1,O U (eu l).2.2])/\ay [] w w':=by
 refine ret (v0w _ _ _ ?_);unfold v0v;refine⟨fun nv j w'=>∃n:Nat,n<=l.length/\j=(n:Int)/\nv=l.length-n/\(∀x,x∈l.take n->cw x=true)/\ay [] w w',l.length,⟨0,aQ _,rfl,rfl,by simp,Only.refl _ _⟩,?_⟩;rintro nv _ w0 ⟨n,hn,rfl,rfl,hp,bT⟩;rw[bI];refine⟨fun b w'=>(b=true->∃x,l[n]? =some x/\cw x=true)/\(b=false->∀x,l[n]? =some x->cw x=false)/\ay [] w w',?_,fun hc=>?_,fun hc=>⟨fun e=>(by cases e),fun _ x hx=>?_,bT⟩⟩
 ·rintro b w1 ⟨h1,h2,bZ⟩;refine⟨fun hb=>?_,fun hb=>?_⟩
  ·obtain⟨x,hx,hw⟩:=h1 hb;have bJ:=(aP.1 hx).1;refine⟨l.length-(n+1),by omega,n+1,by omega,by rw[fy (by omega) (by omega)];rfl,rfl,fun y hy=>?_,bZ⟩;rw[bn,hx]at hy;simp only[eG,cq,aF]at hy;rcases hy with hy | rfl
   ·exact hp y hy
   ·exact hw
  have Kp:=jX hn hp (h2 hb);have uR:(l.takeWhile cw).length=n:=by rw[Kp,cM];omega
  have e0:(ao #[])=T []:=rfl;rw[e0,gV];refine⟨fun h0=>⟨?_,bZ⟩,fun h0=>?_⟩
  ·have h0:l=[]:=aG h0;rw[eu,if_pos h0];rfl
  have h0:¬l=[]:=aI h0;refine⟨fun b w'=>b=decide (l.takeWhile cw=[]∨(1<(l.takeWhile cw).length/\l.head? =some 48))/\ay [] w w',?_,fun hz=>?_,fun hz=>?_⟩
  ·rintro b w2 ⟨rfl,cp⟩;refine⟨fun hb=>⟨?_,cp⟩,fun hb=>⟨n,⟨rfl,hn⟩,?_⟩⟩
   ·rw[eu,if_neg h0,if_pos (aG hb)];rfl
   have hb:=aI hb;have hx:(T l).extract 0 n=T (l.takeWhile cw):=by rw[qA,fg,rD,Kp]
   rw[hx];have gf:l.takeWhile cw≠[]:=fun e=>hb (.inl e);have hpi:=pib (vf (p:=cw) (l:=l)) gf;have hsz:(T (l.takeWhile cw)).size<=281474976710656:=by rw[bI];omega
   by_cases hv:js 0 (l.takeWhile cw)<9223372036854775808
   ·rw[if_pos hv]at hpi;refine(Tryz.strconv_ParseInt_10_at64_ok (T (l.takeWhile cw)) (aX hsz (by decide)) _ hpi w2).mono ?_;rintro _ w3 ⟨rfl,hw⟩;have cO:ay [] w2 w3:=by
     rcases hw with rfl | ⟨s,rfl⟩
     ·exact Only.refl _ _
     ·exact Only.uE (Lib.bytesWorld_below _ _ _)
    refine⟨_,⟨.nilIface,rfl⟩,rfl,.inl rfl,fun e=>(by cases e),fun _=>⟨?_,cp.bP cO⟩⟩;rw[eu,if_neg h0,if_neg hb,if_pos hv,uR]
   ·rw[if_neg hv]at hpi;obtain⟨tp,p,Ww⟩:=hE.only cp;refine(Tryz.strconv_ParseInt_10_at64_range_var (T (l.takeWhile cw)) hsz hpi tp p w2 Ww).mono ?_;rintro _ w3 ⟨N,rfl,_,_,hw⟩;refine⟨_,⟨.iface _ _,rfl⟩,rfl,.inr ⟨_,_,rfl⟩,fun _=>⟨?_,cp.bP (Only.uE hw)⟩,fun e=>(by cases e)⟩;rw[eu,if_neg h0,if_neg hb,if_neg hv];rfl
  ·have hz:n=0:=by simpa using hz
   subst hz;refine⟨?_,bZ⟩;symm;rw[bh (.inl (bc uR))];rfl
  ·have hz:n≠0:=by simpa using hz
   obtain⟨x,r,rfl⟩:∃x r,l=x::r:=by
    cases l with
    | nil=>exact absurd rfl h0
    | cons x r=>exact⟨x,r,rfl⟩
   refine⟨x,fun _=>⟨ig _,by rw[ke];rfl⟩,?_,bZ⟩;have gf:(x::r).takeWhile cw≠[]:=fun e=>by rw[e]at uR;exact hz uR.symm
   rw[uR,bq];simp only[aE,bd,cZ,fN,aJ];constructor
   ·rintro⟨h1,h2⟩;exact .inr ⟨by omega,Pe.1 (by show x.toNat=48;omega)⟩
   ·rintro(h | ⟨h1,rfl⟩)
    ·exact absurd h gf
    ·exact⟨by omega,rfl⟩
 ·have bJ:(n:Int)<l.length:=aG hc;have hx:l[n]? =some (l[n]'(by omega)):=bA (by omega);generalize l[n]'(by omega)=x at hx;refine⟨x,⟨aO n,by rw[ke,aM,hx]⟩,(L4 w0 x).mono ?_⟩;rintro _ w3 ⟨rfl,cO⟩;refine⟨_,rfl,fun hb=>⟨x,hx,hb⟩,fun hd y hy=>?_,bT.bP cO⟩;rw[hx]at hy;injection hy with hy;subst hy;exact hd
 ·have kO:¬(n:Int)<l.length:=aI hc;have:=(aP.1 hx).1;omega
structure Tk where
 k:Int
 t:aB
 n:Int
 a:Int
deriving DecidableEq
def Tk.v (x:Tk):aw:=ah #[O U x.k,ab (T x.t),O U x.n,O U x.a]
def zW:Rp Tk:=fun _ _ x cs=>cs=[O U x.k,ab (T x.t),O U x.n,O U x.a]
theorem fT:zW.Ok where
 keep h _:=h
 inHeap h:=h
 mono h _:=h
 one:=by
  rintro w F x cs h v hv;unfold zW at h;subst h;simp only[aL,aU,bM]at hv;rcases hv with rfl | rfl | rfl | rfl<;>rfl
abbrev jY (B:Nat) (w:av) (s:Sl) (xs:List Tk):Prop:=Own zW 4 141 B w (fun _=>True) s xs
theorem jY.of {B:Nat} {w:av} {F:Nat->Prop} {s:Sl} {xs:List Tk} (h:Own zW 4 141 B w F s xs):jY B w s xs:=h.mono fT fun _ _=>trivial
theorem jY.sl {B:Nat} {w:av} {s:Sl} {xs:List Tk} (h:jY B w s xs):SliceF zW 4 w (fun k=>B<=k/\s.a=some ⟨k,0,none⟩) s xs:=Hv fT (fun _ _ _ _ _ h=>h) h
theorem jY.flat {B:Nat} {w:av} {s:Sl} {xs:List Tk} (h:jY B w s xs):Own zW 4 141 B w (fun _=>False) s xs:=by
 rcases h with h | ⟨g,css,tail,a1,a2,a4,a5,a6,a7,a9,a8⟩
 ·exact .inl h
 ·exact .inr ⟨g,css,tail,a1,a2,a4,a5,a6,a7,a9,fG.imp (fun _ _ h=>h) a8⟩
theorem jY.keep {B:Nat} {w w':av} {s:Sl} {xs:List Tk} (h:jY B w s xs) (hk:∀k,B<=k/\s.a=some ⟨k,0,none⟩->k<w.heap.size->w'.heap[k]? =w.heap[k]?):jY B w' s xs:=
 jY.of (h.flat.keep fT fun k hF bJ=>hk k (hF.elim False.elim id) bJ)
theorem jY.only {B:Nat} {w w':av} {s:Sl} {xs:List Tk} (h:jY B w s xs) (hO:ay [] w w'):jY B w' s xs:=h.keep fun k _ bJ=>hO.block k bJ (by simp)
theorem jY.p {B:Nat} {w w':av} {s:Sl} {xs:List Tk} {D:Nat->Prop} (h:jY B w s xs) (hO:OnlyP D w w') (hD:∀k,B<=k->s.a=some ⟨k,0,none⟩->¬D k):jY B w' s xs:=h.keep fun k hk bJ=>hO.block k bJ (hD k hk.1 hk.2)
theorem Ma {w:av} {B:Nat} {s:Sl} {xs:List Tk} (t:Tk) (hs:jY B w s xs) (hB:B<=w.heap.size) (hm:(xs.length+1)*40<=140737488355328):
  ∃y w1,(au 124 1 #[(0,t.v)]).run aq w=.ok (Sl.v y) w1/\ay [] w w1/\∃s' w2,(Builtin.append_ #[124,124] 124 #[Sl.v s,Sl.v y]).run aq w1=.ok (Sl.v s') w2/\jY B w2 s' (xs++[t])/\OnlyP (fun k=>B<=k/\s.a=some ⟨k,0,none⟩) w1 w2:=by
 obtain⟨y,w1,k1,k2,s',w2,k3,k4,⟨gs,k5,k6⟩,_⟩:=pv (P:=aq) (t:=124) (ty:=124) (e:=141) (i:=Tryz.t141) (bytes:=40) (size:=4) (v:=t.v) (x:=t) (G:=fun _=>False) (by kernel_rfl) (by kernel_rfl) rfl rfl rfl rfl (by decide) (by decide) (by decide) fT hs hB rfl rfl (fun k hk _=>hk.elim) hm;exact⟨y,w1,k1,k2,s',w2,k3,jY.of k4,k5.p fun g hg=>.inl ⟨(k6 g hg).2.1,(k6 g hg).1⟩⟩
def gQ:List (aB):=[[97,102,116,101,114],[97,108,119,97,121,115],[99,104,97,114,116],[100,101,101,112],[101,109,105,116],[101,110,116,101,114],[104,105,115,116,111,114,121],[105,110],[105,110,105,116,105,97,108],[108,101,97,118,101],[111,110],[112,97,114,97,108,108,101,108],[114,97,105,115,101],[115,101,116],[115,116,97,116,101],[118,97,114]]
theorem Hw (w:av):az aq 133 #[] w fun e w'=>∃s:Sl,e=ak s.v/\Own iW 1 9 w.heap.size w' (fun _=>True) s gQ/\ay [] w w':=by
 refine(Zs (fun v w'=>∃s:Sl,v=s.v/\Own iW 1 9 w.heap.size w' (fun _=>True) s gQ/\ay [] w w') w ?_).mono (by
  rintro e w' ⟨v,rfl,s,rfl,h⟩;exact⟨s,rfl,h⟩)
 unfold SA;obtain⟨s,w',h1,h2,h3⟩:=iB w gQ (n:=16) rfl rfl (by decide) (by decide);exact⟨s,w',h1,s,rfl,h2,h3⟩
structure Cut (w:av) (b:Nat) (l:aB) (i:Nat) (rs:Sl) (acc:List Tk):Prop where
 blk:∃ws:Sl,Blk w b 198 [ab (T l),O U (i:Int),ws.v,rs.v]/\SliceF iW 1 w (fun k=>k<b) ws gQ
 own:jY (b+1) w rs acc
 er:Er w
 gb:7<b
 il:i<=l.length
 ll:l.length<=16384
theorem Cut.lt {w:av} {b:Nat} {l:aB} {i:Nat} {rs:Sl} {acc:List Tk} (h:Cut w b l i rs acc):b<w.heap.size:=by
 obtain⟨ws,h1,_⟩:=h.blk;exact h1.lt
theorem Cut.only {w w':av} {b:Nat} {l:aB} {i:Nat} {rs:Sl} {acc:List Tk} (h:Cut w b l i rs acc) (hO:ay [] w w'):Cut w' b l i rs acc:=by
 obtain⟨ws,h1,h2⟩:=h.blk;exact⟨⟨ws,(hO.block b h1.lt (by simp)).trans h1,SliceF.only cG (by decide) h2 hO (by simp)⟩,h.own.only hO,h.er.only hO,h.gb,h.il,h.ll⟩
theorem Cut.move {w w':av} {b:Nat} {l:aB} {i j:Nat} {rs:Sl} {acc:List Tk} (h:Cut w b l i rs acc) (hO:ay [b] w w') (hj:j<=l.length) (hB:∀ws:Sl,Blk w b 198 [ab (T l),O U (i:Int),ws.v,rs.v]->Blk w' b 198 [ab (T l),O U (j:Int),ws.v,rs.v]):Cut w' b l j rs acc:=by
 obtain⟨ws,h1,h2⟩:=h.blk;exact⟨⟨ws,hB ws h1,SliceF.only cG (by decide) h2 hO (by intro k hk _;simp only[aF];omega)⟩,h.own.keep fun k hk bJ=>hO.block k bJ (by simp only[aF];omega),h.er.keep fun bJ=>hO.block _ bJ (by simp only[aF];have:=h.gb;omega),h.gb,hj,h.ll⟩
theorem Hx {w:av} {b:Nat} {l:aB} {i:Nat} {rs:Sl} {acc:List Tk} (h:Cut w b l i rs acc) (k:Int) (t:aB) (nn a0:Int) (n:Nat) (hn:i+n<=l.length) (ha:acc.length<=16384):
  az aq 137 #[ae (some ⟨b,0,none⟩),ah #[O U k,ab (T t),O U nn,O U a0],O U (n:Int)] w fun e w'=>e=ak (ai #[])/\OnlyP (fun k=>b<=k) w w'/\∃RP,Cut w' b l (i+n) RP (acc++[⟨k,t,nn,i⟩]):=by
 refine ret (ZK _ _ _ _ _ _ _ _ ?_);unfold SR;intro k0 w0 gN dJ bT;have I1:=h.lt;have CR:=h.ll;have h0:=h.only bT;obtain⟨ws,EM,hw0⟩:=h0.blk;refine⟨i,Blk.dI EM 1 rfl,fun w1 bZ=>?_⟩;have zb0:=EM.lt;have zf:Blk w1 b 198 _:=(bZ.block b zb0 (by simp only[aF];omega)).trans EM;have Oi:jY (b+1) w1 rs acc:=h0.own.keep fun q hq bJ=>by
  refine bZ.block q bJ ?_;simp only[aF];rintro rfl;have:=(h.own.blk hq.2).2;dsimp only at this;omega
 have z1:=bZ.size;obtain⟨y,w2,c1,c2,s',w3,c3,c4,c5⟩:=Ma ⟨k,t,nn,i⟩ Oi (by omega) (aX (dW 40 (show acc.length+1<=16385 by omega)) (by decide));have z2:=c2.size;have z3:=c5.size;have aiL:∀q,rs.a=some ⟨q,0,none⟩->q≠k0:=fun q hq=>by
  have:=(h.own.blk hq).2;dsimp only at this;omega
 refine⟨fun q=>q=b,rfl,rs,Blk.dI zf 3 rfl,y,w2,c1,c2.same (by simp;omega),bE.only c2,s',w3,c3,?_,?_,?_⟩
 ·exact c5.same (by intro x hx;simp only[aF]at hx;subst hx;exact⟨by omega,fun e=>aiL _ e.2 rfl⟩)
 ·intro q hq bJ;exact c5.block q bJ (by omega)
 have Wx:Blk w3 b 198 [ab (T l),O U (i:Int),ws.v,rs.v]:=(c5.block b (by omega) (by omega)).trans ((c2.block b (by omega) (by simp)).trans zf);refine⟨b,3,_,198,by rw[gC],Wx,by simp,by omega,fun w4 dm Uk=>?_⟩;have Uk:Blk w4 b 198 [ab (T l),O U (i:Int),ws.v,s'.v]:=Uk;refine⟨i,Blk.dI Uk 1 rfl,b,1,_,198,by rw[zP,gC],Uk,by simp,by omega,fun w5 dS Kl=>⟨rfl,?_,s',?_⟩⟩
 ·have e1:OnlyP (fun k=>b<=k) w w1:=bT.p0.trans (bZ.p (F:=fun q=>q=k0) fun b hb=>.inl (by simpa using hb)) fun q hq=>by omega
  have e2:OnlyP (fun k=>b<=k) w w3:=(e1.bP c2).trans c5 fun q hq=>.inl (by omega);have e3:OnlyP (fun k=>b<=k) w w4:=e2.trans (dm.p (F:=fun q=>q=b) fun b hb=>.inl (by simpa using hb)) fun q hq=>.inl (by omega);exact e3.trans (dS.p (F:=fun q=>q=b) fun b hb=>.inl (by simpa using hb)) fun q hq=>.inl (by omega)
 ·have z4:=dm.size;have Kl:Blk w5 b 198 [ab (T l),O U (IntKind.i64.wrap ((i:Int)+n)),ws.v,s'.v]:=Kl;rw[fy (by omega) (by omega)]at Kl;have up:OnlyP (fun k=>b<=k) w w5:=by
   have e1:OnlyP (fun k=>b<=k) w w1:=bT.p0.trans (bZ.p (F:=fun q=>q=k0) fun b hb=>.inl (by simpa using hb)) fun q hq=>by omega
   have e2:OnlyP (fun k=>b<=k) w w3:=(e1.bP c2).trans c5 fun q hq=>.inl (by omega);have e3:OnlyP (fun k=>b<=k) w w4:=e2.trans (dm.p (F:=fun q=>q=b) fun b hb=>.inl (by simpa using hb)) fun q hq=>.inl (by omega);exact e3.trans (dS.p (F:=fun q=>q=b) fun b hb=>.inl (by simpa using hb)) fun q hq=>.inl (by omega)
  have hgb:=h.gb;obtain⟨Kq,ml,X3⟩:=h.blk;have hwe:Kq=ws:=by
   have:Blk w0 b 198 [ab (T l),O U (i:Int),Kq.v,rs.v]:=(bT.block b I1 (by simp)).trans ml;unfold Blk at this EM;rw[this]at EM;simp[Sl.v]at EM;cases ws;cases Kq;simp_all
  subst hwe;refine⟨⟨Kq,Kl,SliceF.wg cG (by decide) X3 up fun q hq _ hd=>by omega⟩,?_,h.er.keep fun bJ=>up.block _ bJ (by omega),hgb,hn,CR⟩;have e4:jY (b+1) w4 s' _:=c4.keep fun q hq bJ=>dm.block q bJ (by simp only[aF];omega);exact e4.keep fun q hq bJ=>dS.block q bJ (by simp only[aF];omega)
abbrev Tq:=Int×aB×Int×Nat
def kl (m:aB):Except Int Tq:=
 if 24<(m.takeWhile dC).length then .error 2 else .ok (if gQ.contains (m.takeWhile dC)then 2 else 1,m.takeWhile dC,0,(m.takeWhile dC).length)
def pI (m:aB):Except Int Tq:=
 if(eu m).2.2≠0 then .error (eu m).2.2 else if(eu m).2.1<(m.takeWhile dC).length then .error 4 else .ok (3,[],(eu m).1,(eu m).2.1)
def lZ:aB:=[123,125,40,41,91,93,59,44,61,43,45,42,47,37,60,62,33]
def oJ (m:aB):Bool:=match m with
 | c::d::_=>(d==61&&[60,62,61,33].contains c)||(d==c&&[38,124].contains c)||(c==45&&d==62)
 | _=>false
def gH (m:aB):Nat:=if oJ m then 2 else match m with
 | c::_=>if lZ.contains c then 1 else 0
 | []=>0
def lQ (m:aB):Except Int Tq:=if gH m=0 then .error 4 else .ok (4,m.take (gH m),0,gH m)
def jZ (m:aB):Except Int Tq:=match m with
 | []=>.error 4
 | c::_=>if dT c then kl m else if cw c then pI m else lQ m
def KJ (w':av) (b:Nat) (l:aB) (i:Nat) (acc:List Tk) (r:Except Int Tq) (v:aw):Prop:=match r with
 | .error e=>v=O U e/\∃rs,Cut w' b l i rs acc
 | .ok q=>v=O U 0/\∃rs,Cut w' b l (i+q.2.2.2) rs (acc++[⟨q.1,q.2.1,q.2.2.1,i⟩])
theorem oK {p:UInt8->Bool} {l:aB}:(l.takeWhile p).length<=l.length:=by
 rw[ld,cM];exact Nat.min_le_right _ _
theorem Vd {w:av} {b:Nat} {l:aB} {i:Nat} {rs:Sl} {acc:List Tk} (h:Cut w b l i rs acc) (ha:acc.length<=16384):
  az aq 203 #[ae (some ⟨b,0,none⟩)] w fun e w'=>∃v,e=ak v/\OnlyP (fun k=>b<=k) w w'/\KJ w' b l i acc (kl (l.drop i)) v:=by
 refine ZG ⟨b,0,none⟩ (fun v w'=>OnlyP (fun k=>b<=k) w w'/\KJ w' b l i acc (kl (l.drop i)) v) w ?_;unfold SL;obtain⟨ws,hb,hw⟩:=h.blk;have CR:=h.ll;refine(L7 hb h.il (by omega)).mono ?_;rintro _ w0 ⟨rfl,bT⟩;have Yi:((l.drop i).takeWhile dC).length<=l.length-i:=by
  have:=oK (p:=dC) (l:=l.drop i);rwa[bN]at this
 have hil:=h.il;refine⟨_,rfl,fun hc=>⟨bT.p0,?_⟩,fun hc=>?_⟩
 ·rw[bI]at hc;rw[kl,if_pos (by have:=aG hc;omega)];exact⟨rfl,rs,h.only bT⟩
 rw[bI]at hc;have hc:¬24<((l.drop i).takeWhile dC).length:=by have:=aI hc;omega
 rw[kl,if_neg hc];generalize hm:(l.drop i).takeWhile dC=m at*
 have h0:=h.only bT;obtain⟨Kq,ml,X3⟩:=h0.blk;refine⟨fun k w'=>k=(if gQ.contains m then 2 else 1)/\ay [] w w',?_,Kq,Blk.dI ml 2 rfl,(qJ X3 m).mono ?_⟩
 ·rintro _ w1 ⟨rfl,bZ⟩;refine(ret (SQ (T m) (fun v w'=>v=ab (T m)/\ay [] w1 w') w1 ?_)).mono ?_
  ·unfold LY;refine(Tryz.stringslite_Clone (T m) w1 (by rw[bI];omega)).mono ?_;rintro _ w2 ⟨rfl,hw⟩;exact⟨_,rfl,rfl,Only.uE hw⟩
  rintro _ w2 ⟨rfl,cp⟩;rw[bI];refine⟨_,rfl,(Hx (h.only (bZ.bP cp)) _ m 0 0 m.length (by omega) ha).mono ?_⟩;rintro _ w3 ⟨rfl,cO,RP,hC⟩;exact⟨rfl,(bZ.bP cp).yT cO,rfl,RP,hC⟩
 ·rintro _ w4 ⟨rfl,dm⟩;refine⟨_,rfl,fun hb=>⟨by rw[if_pos hb],bT.bP dm⟩,fun hb=>⟨by rw[hb];rfl,bT.bP dm⟩⟩
theorem Mb {w:av} {b:Nat} {l:aB} {i:Nat} {rs:Sl} {acc:List Tk} (h:Cut w b l i rs acc) (ha:acc.length<=16384):
  az aq 205 #[ae (some ⟨b,0,none⟩)] w fun e w'=>∃v,e=ak v/\OnlyP (fun k=>b<=k) w w'/\KJ w' b l i acc (pI (l.drop i)) v:=by
 refine ZL ⟨b,0,none⟩ (fun v w'=>OnlyP (fun k=>b<=k) w w'/\KJ w' b l i acc (pI (l.drop i)) v) w ?_;unfold SS;obtain⟨ws,hb,hw⟩:=h.blk;have CR:=h.ll;have hil:=h.il;refine(xW hb h.il).mono ?_;rintro _ w0 ⟨rfl,bT⟩;have uR:(l.drop i).length=l.length-i:=bN;refine⟨_,rfl,(L9 (h.er.only bT) (by omega)).mono ?_⟩;rintro _ w1 ⟨rfl,bZ⟩;have fb:=bT.bP bZ;refine⟨_,_,_,rfl,fun he=>⟨fb.p0,?_⟩,fun he=>?_⟩
 ·rw[pI,if_pos (by simpa using he)];exact⟨rfl,rs,h.only fb⟩
 have he:¬(eu (l.drop i)).2.2≠0:=by simpa using he
 have hk:(eu (l.drop i)).2.1<=(l.drop i).length:=by
  have:=oK (p:=cw) (l:=l.drop i);unfold eu;split
  ·exact aQ _
  ·split
   ·exact aQ _
   ·split
    ·exact this
    ·exact aQ _
 obtain⟨Kq,ml,X3⟩:=(h.only fb).blk;refine(L7 ml h.il (by omega)).mono ?_;rintro _ w2 ⟨rfl,cp⟩;have iO:=fb.bP cp;refine⟨_,rfl,?_⟩;rw[bI];refine⟨fun hc=>⟨iO.p0,?_⟩,fun hc=>?_⟩
 ·rw[pI,if_neg he,if_pos (by have:=aG hc;omega)];exact⟨rfl,rs,h.only iO⟩
 ·rw[pI,if_neg he,if_neg (by have:=aI hc;omega)];refine(Hx (h.only iO) 3 [] _ 0 (eu (l.drop i)).2.1 (by omega) ha).mono ?_;rintro _ w3 ⟨rfl,cO,RP,hC⟩;exact⟨rfl,iO.yT cO,rfl,RP,hC⟩
theorem qK (w:av) (p:Addr) (n:Nat) (a:Addr):(w.freeze p n).cell? a=w.cell? a:=by
 unfold World.freeze;split
 ·rfl
 ·unfold World.cell?;simp only[zd];by_cases RQ:p.block=a.block
  ·rw[if_pos RQ];cases h:w.heap[a.block]? with
   | none=>rfl
   | some o=>
    cases o with
    | cells c e f=>obtain⟨lo,hi⟩:=f;rfl
    | _=>rfl
  ·rw[if_neg RQ]
theorem qL (w:av) (p:Addr) (n:Nat):OnlyP (fun k=>k=p.block) w (w.freeze p n):=by
 unfold World.freeze;split
 ·exact OnlyP.refl _ _
 ·exact⟨rfl,rfl,rfl,by simp,fun k hk hn=>by
   simp only[zd];rw[if_neg fun e=>hn e.symm]⟩
theorem Ve {w:av} {F:Nat->Prop} {s:Sl} {g B:Nat} {l:aB} (ha:s.a=some ⟨g,0,none⟩) (h:Own jE 1 5 B w F s l) (bJ:g<w.heap.size):
  ∃w',(convert 68 68 (Sl.v s)).run aq w=.ok (Sl.v s) w'/\SliceF jE 1 w' (fun _=>True) s l/\OnlyP (fun k=>k=g) w w':=by
 have hs:=uc h;obtain⟨g',css,tail,a1,a2,a4,_⟩:=h.resolve_left (fun e=>by rw[e.1]at ha;cases ha);rw[ha]at a1;injection a1 with a1;injection a1 with a1;subst a1;have qi:w.shape? g=some (5,(css.flatten++tail).toArray.size):=by
  unfold World.shape?;unfold Blk at a4;rw[a4]
 have hu:Tryz.prog.underlying 68=some (.slice 5):=by kernel_rfl
 have Wh:Tryz.prog.underlying 5=some (.int .u8):=by kernel_rfl
 refine⟨w.freeze ⟨g,(css.flatten++tail).toArray.size,none⟩ 1,?_,⟨hs.len,hs.cap,hs.nil0,hs.big,fun j x hj=>?_⟩,qL w ⟨g,(css.flatten++tail).toArray.size,none⟩ 1⟩
 ·unfold Sl.v;rw[ha];simp[convert,run_underlying hu,run_underlying Wh,markStringish,qi,Result.andThen]
 ·obtain⟨base,cs,g1,g2,g3,g4,g5⟩:=hs.at_ j x hj;exact⟨base,cs,g1,trivial,g3,fun q v hq=>by rw[qK];exact g4 q v hq,g5⟩
theorem Hy {c d:UInt8}:((c.toNat:Int)==(d.toNat:Int))=(c==d):=by
 rw[bq];simp only[cZ];constructor
 ·intro h;exact Pe.1 (by omega)
 ·rintro rfl;rfl
theorem Jy {m:aB} (h:oJ m=true):2<=m.length:=by
 match m,h with
 | _::_::_,_=>simp
theorem ud {m:aB}:gH m<=m.length:=by
 unfold gH;split
 ·exact Jy (by assumption)
 ·split
  ·split
   ·simp
   ·exact aQ _
  ·exact aQ _
theorem Vf {w:av} {b:Nat} {l:aB} {i:Nat} {rs:Sl} {acc:List Tk} (h:Cut w b l i rs acc) (ha:acc.length<=16384) (gf:i<l.length):
  az aq 206 #[ae (some ⟨b,0,none⟩)] w fun e w'=>∃v,e=ak v/\OnlyP (fun k=>b<=k) w w'/\KJ w' b l i acc (lQ (l.drop i)) v:=by
 refine ZM ⟨b,0,none⟩ (fun v w'=>OnlyP (fun k=>b<=k) w w'/\KJ w' b l i acc (lQ (l.drop i)) v) w ?_;unfold SU;obtain⟨ws,hb,hw⟩:=h.blk;have CR:=h.ll;have hil:=h.il;refine(xW hb h.il).mono ?_;rintro _ w0 ⟨rfl,bT⟩;have uR:(l.drop i).length=l.length-i:=bN;generalize hm:l.drop i=m at*
 obtain⟨c,r,rfl⟩:∃c r,m=c::r:=by
  cases m with
  | nil=>simp at uR;omega
  | cons c r=>exact⟨c,r,rfl⟩
 have g0:(0:Int)<=0/\(T (c::r))[0]? =some c:=⟨ig _,by rw[ke];rfl⟩
 refine⟨T (c::r),rfl,fun i0 w'=>i0=(if lZ.contains c then 1 else 0:Int)/\ay [] w w',?_,c,g0,?_⟩
 ·rintro _ w1 ⟨rfl,bZ⟩;refine⟨fun i1 w'=>i1=(gH (c::r):Int)/\ay [] w w',?_,fun b w'=>b=oJ (c::r)/\ay [] w w',?_,?_,?_⟩
  ·rintro _ w2 ⟨rfl,cp⟩;refine⟨fun hz=>⟨cp.p0,?_⟩,fun hz=>⟨gH (c::r),⟨rfl,by rw[bI];exact ud⟩,?_⟩⟩
   ·rw[lQ,if_pos (by have:(gH (c::r):Int)=0:=(by simpa using hz);omega)];exact⟨rfl,rs,h.only cp⟩
   have hz:¬gH (c::r)=0:=by
    intro e;rw[e]at hz;simp at hz
   rw[lQ,if_neg hz,qA,fg,rD];have hn:=ud (m:=c::r);refine(ret (SQ (T _) (fun v w'=>v=ab (T ((c::r).take (gH (c::r))))/\ay [] w2 w') w2 ?_)).mono ?_
   ·unfold LY;refine(Tryz.stringslite_Clone (T _) w2 (by rw[bI,cM];omega)).mono ?_;rintro _ w3 ⟨rfl,hw⟩;exact⟨_,rfl,rfl,Only.uE hw⟩
   rintro _ w3 ⟨rfl,cO⟩;refine⟨_,rfl,(Hx (h.only (cp.bP cO)) 4 _ 0 0 (gH (c::r)) (by omega) ha).mono ?_⟩;rintro _ w4 ⟨rfl,dm,RP,hC⟩;exact⟨rfl,(cp.bP cO).yT dm,rfl,RP,hC⟩
  ·rintro _ w5 ⟨rfl,dS⟩;refine⟨fun hs=>⟨by rw[gH,if_pos hs];rfl,dS⟩,fun hs=>⟨?_,dS⟩⟩;have e:gH (c::r)=if lZ.contains c then 1 else 0:=by rw[gH,if_neg (by rw[hs];decide)]
   rw[e];split<;>rfl
  ·intro hc;rw[bI]at hc;obtain⟨d,r,rfl⟩:∃d r',r=d::r':=by
    cases r with
    | nil=>simp at hc
    | cons d r=>exact⟨d,r,rfl⟩
   have g1:(0:Int)<=1/\(T (c::d::r))[1]? =some d:=⟨by decide,by rw[ke];rfl⟩
   have ex:(T (c::d::r)).extract 0 2=T [c,d]:=by rw[qA];rfl
   have sz:2<=(T (c::d::r)).size:=by rw[bI];simp
   have lit:(ao #[45,62])=T [45,62]:=rfl;have eqx:((T [c,d]).toList==(T [45,62]).toList)=(c==45&&d==62):=by
    rw[gV,bq];simp
   have e61:((d.toNat:Int)==61)=(d==61):=Hy (d:=61);have Kr:oJ (c::d::r)=((d==61&&[60,62,61,33].contains c)||(d==c&&[38,124].contains c)||(c==45&&d==62)):=rfl;rw[Kr];generalize Wg:([60,62,61,33]:aB).contains c=p1;generalize Oj:([38,124]:aB).contains c=p2;have PF:((((T (c::d::r)).extract 0 2).toList)==((ao #[45,62]).toList))=(c==45&&d==62):=by rw[ex,lit,eqx]
   refine⟨d,g1,fun I4=>⟨c,g0,fun w6 dG=>?_⟩,fun I4=>⟨d,g1,c,g0,fun Ks=>⟨c,g0,fun cY dP=>?_⟩,fun Ks=>⟨sz,fun eI eh=>⟨?_,bZ.bP eh⟩⟩⟩⟩
   ·rw[e61]at I4;obtain⟨s,w7,k1,k2,k3,_⟩:=pH w6 [60,62,61,33] (n:=4) (parts:=#[(0,.int .u8 60),(1,.int .u8 62),(2,.int .u8 61),(3,.int .u8 33)]) rfl rfl (by decide) (by decide);refine⟨s,w7,k1,(DF (uc k2) c).mono ?_⟩;rintro _ w8 ⟨rfl,fh⟩;have jC:=bZ.bP (dG.bP (k3.bP fh));rw[Wg];refine⟨_,rfl,fun hb=>⟨by rw[I4,hb];rfl,jC⟩,fun hb=>⟨d,g1,c,g0,fun Ks=>⟨c,g0,?_⟩,fun Ks=>⟨sz,?_,jC⟩⟩⟩
    ·rw[Hy]at Ks;obtain⟨s,w9,k1,k2,k3,_⟩:=pH w8 [38,124] (n:=2) (parts:=#[(0,.int .u8 38),(1,.int .u8 124)]) rfl rfl (by decide) (by decide);refine⟨s,w9,k1,(DF (uc k2) c).mono ?_⟩;rintro _ cK ⟨rfl,dy⟩;have hO:=jC.bP (k3.bP dy);rw[Oj];exact⟨_,rfl,fun wl=>⟨by rw[I4,hb,Ks,wl];rfl,hO⟩,fun wl=>⟨sz,by rw[PF,I4,hb,Ks,wl];rfl,hO⟩⟩
    ·rw[Hy]at Ks;rw[PF,I4,hb,Ks];rfl
   ·rw[e61]at I4;rw[Hy]at Ks;obtain⟨s,dz,k1,k2,k3,_⟩:=pH cY [38,124] (n:=2) (parts:=#[(0,.int .u8 38),(1,.int .u8 124)]) rfl rfl (by decide) (by decide);refine⟨s,dz,k1,(DF (uc k2) c).mono ?_⟩;rintro _ dF ⟨rfl,dq⟩;have hO:=bZ.bP (dP.bP (k3.bP dq));rw[Oj];exact⟨_,rfl,fun wl=>⟨by rw[I4,Ks,wl];rfl,hO⟩,fun wl=>⟨sz,by rw[PF,I4,Ks,wl];rfl,hO⟩⟩
   ·rw[e61]at I4;rw[Hy]at Ks;rw[PF,I4,Ks];rfl
  ·intro hc fQ jN;rw[bI]at hc;have hr:r=[]:=by
    cases r with
    | nil=>rfl
    | cons d r=>exact absurd (aI hc) (by simp only[aH];omega)
   subst hr;exact⟨rfl,bZ.bP jN⟩
 ·obtain⟨s,gP,k1,k2,k3,k4⟩:=pH w0 lZ (n:=17) (parts:=#[(0,.int .u8 123),(1,.int .u8 125),(2,.int .u8 40),(3,.int .u8 41),(4,.int .u8 91),(5,.int .u8 93),(6,.int .u8 59),(7,.int .u8 44),(8,.int .u8 61),(9,.int .u8 43),(10,.int .u8 45),(11,.int .u8 42),(12,.int .u8 47),(13,.int .u8 37),(14,.int .u8 60),(15,.int .u8 62),(16,.int .u8 33)]) rfl rfl (by decide) (by decide);obtain⟨fY,c1,c2,c3⟩:=Ve k4 k2 (k2.blk k4).2;have iP:ay [] w0 fY:=((k3.p0 (F:=fun k=>w0.heap.size<=k)).trans c3 fun k hk=>.inl (by omega)).only fun k hk=>hk;refine⟨s,gP,k1,s,fY,c1,(DF c2 c).mono ?_⟩;rintro _ iv ⟨rfl,jC⟩;have hO:=bT.bP (iP.bP jC);exact⟨_,rfl,fun hb=>⟨by rw[if_pos hb],hO⟩,fun hb=>⟨by rw[hb];rfl,hO⟩⟩
theorem KJ.int {w':av} {b:Nat} {l:aB} {i:Nat} {acc:List Tk} {r:Except Int Tq} {v:aw} (h:KJ w' b l i acc r v):∃k:Int,v=O U k:=by
 unfold KJ at h;split at h
 ·exact⟨_,h.1⟩
 ·exact⟨_,h.1⟩
theorem QJ {w:av} {b:Nat} {l:aB} {i:Nat} {rs:Sl} {acc:List Tk} (h:Cut w b l i rs acc) (ha:acc.length<=16384) (gf:i<l.length):
  az aq 136 #[ae (some ⟨b,0,none⟩)] w fun e w'=>∃v,e=ak v/\OnlyP (fun k=>b<=k) w w'/\KJ w' b l i acc (jZ (l.drop i)) v:=by
 refine ZE ⟨b,0,none⟩ (fun v w'=>OnlyP (fun k=>b<=k) w w'/\KJ w' b l i acc (jZ (l.drop i)) v) w ?_;unfold SJ;obtain⟨ws,hb,hw⟩:=h.blk;have hx:l[i]? =some l[i]:=bA gf;generalize l[i]=x at hx;have ht:jZ (l.drop i)=if dT x then kl (l.drop i)else if cw x then pI (l.drop i)else lQ (l.drop i):=by
  rw[lf hx];rfl
 rw[ht];refine⟨T l,Blk.dI hb 0 rfl,i,Blk.dI hb 1 rfl,x,⟨aO i,by rw[ke,aM,hx]⟩,fun w0 bT=>(xV w0 x).mono ?_⟩;rintro _ w1 ⟨rfl,bZ⟩;have fb:=bT.bP bZ;refine⟨_,rfl,fun hl=>?_,fun hl=>(Hu w1 x).mono ?_⟩
 ·rw[if_pos hl];refine(Vd (h.only fb) ha).mono ?_;rintro _ w2 ⟨v,rfl,cp,hd⟩;obtain⟨k,rfl⟩:=hd.int;exact⟨k,rfl,fb.yT cp,hd⟩
 rintro _ w3 ⟨rfl,cO⟩;have lu:=fb.bP cO;rw[if_neg (by rw[hl];decide)];refine⟨_,rfl,fun hd=>?_,fun hd=>?_⟩
 ·rw[if_pos hd];refine(Mb (h.only lu) ha).mono ?_;rintro _ w2 ⟨v,rfl,cp,hd⟩;obtain⟨k,rfl⟩:=hd.int;exact⟨k,rfl,lu.yT cp,hd⟩
 ·rw[if_neg (by rw[hd];decide)];refine(Vf (h.only lu) ha gf).mono ?_;rintro _ w2 ⟨v,rfl,cp,hd⟩;obtain⟨k,rfl⟩:=hd.int;exact⟨k,rfl,lu.yT cp,hd⟩
theorem rN {m:aB} {q:Tq} (h:jZ m=.ok q):1<=q.2.2.2:=by
 cases m with
 | nil=>cases h
 | cons c r=>
  simp only[jZ]at h;split at h
  ·rename_i hc;unfold kl at h;split at h
   ·cases h
   ·injection h with h;subst h;have:dC c=true:=by unfold dC;rw[hc];rfl
    dsimp only;rw[cI,if_pos this,aH];omega
  ·split at h
   ·rename_i hc;unfold pI at h;split at h
    ·cases h
    ·split at h
     ·cases h
     ·rename_i h1 h2;injection h with h;subst h;dsimp only;rw[cI,if_pos (by unfold dC;rw[hc,lA]),aH]at h2;omega
   ·unfold lQ at h;split at h
    ·cases h
    ·injection h with h;subst h;dsimp only;omega
theorem Bz {m:aB} {e:Int} (h:jZ m=.error e):e≠0:=by
 cases m with
 | nil=>injection h with h;omega
 | cons c r=>
  simp only[jZ]at h;split at h
  ·unfold kl at h;split at h
   ·injection h with h;omega
   ·cases h
  ·split at h
   ·unfold pI at h;split at h
    ·injection h with h;omega
    ·split at h
     ·injection h with h;omega
     ·cases h
   ·unfold lQ at h;split at h
    ·injection h with h;omega
    ·cases h
def xY (l:aB):Nat->Nat->Except (Int×Nat) (List Tk)
 | 0,_=>.ok []
 | f+1,i=>
  if l.length<=i+iL false (l.drop i)then .ok [⟨5,[],0,(i+iL false (l.drop i):Nat)⟩]
  else match jZ (l.drop (i+iL false (l.drop i)))with
   | .error e=>.error (e,i+iL false (l.drop i))
   | .ok q=>match xY l f (i+iL false (l.drop i)+q.2.2.2)with
    | .error x=>.error x
    | .ok r=>.ok (⟨q.1,q.2.1,q.2.2.1,(i+iL false (l.drop i):Nat)⟩::r)
theorem Mc {l:aB}:(eu l).2.1<=l.length:=by
 have:=oK (p:=cw) (l:=l);unfold eu;split
 ·exact aQ _
 ·split
  ·exact aQ _
  ·split
   ·exact this
   ·exact aQ _
theorem xZ {m:aB} {q:Tq} (h:jZ m=.ok q):q.2.2.2<=m.length:=by
 cases m with
 | nil=>cases h
 | cons c r=>
  simp only[jZ]at h;split at h
  ·unfold kl at h;split at h
   ·cases h
   ·injection h with h;subst h;exact oK
  ·split at h
   ·unfold pI at h;split at h
    ·cases h
    ·split at h
     ·cases h
     ·injection h with h;subst h;exact Mc
   ·unfold lQ at h;split at h
    ·cases h
    ·injection h with h;subst h;exact ud
theorem DI {l:aB} {i:Nat} (hi:i<=l.length):i+iL false (l.drop i)<=l.length:=by
 have:=Bw (b:=false) (l:=l.drop i);rw[bN]at this;omega
theorem DJ (l:aB):∀(f g i:Nat),i<=l.length->l.length<i+f->l.length<i+g->xY l f i=xY l g i
 | 0,_,i,hi,h,_=>by omega
 | _,0,i,hi,_,h=>by omega
 | f+1,g+1,i,hi,h1,h2=>by
  rw[xY,xY];split
  ·rfl
  ·split
   ·rfl
   ·rename_i q hq;have h3:=rN hq;have h4:=xZ hq;rw[bN]at h4;rw[DJ l f g _ (by omega) (by omega) (by omega)]
def iX (l:aB) (i:Nat):Except (Int×Nat) (List Tk):=xY l (l.length+1) i
theorem iR {l:aB} {i:Nat} (hi:i<=l.length):iX l i=if l.length<=i+iL false (l.drop i)then .ok [⟨5,[],0,(i+iL false (l.drop i):Nat)⟩]
  else match jZ (l.drop (i+iL false (l.drop i)))with
   | .error e=>.error (e,i+iL false (l.drop i))
   | .ok q=>match iX l (i+iL false (l.drop i)+q.2.2.2)with
    | .error x=>.error x
    | .ok r=>.ok (⟨q.1,q.2.1,q.2.2.1,(i+iL false (l.drop i):Nat)⟩::r):=by
 unfold iX;rw[xY];split
 ·rfl
 ·split
  ·rfl
  ·rename_i q hq;have h3:=rN hq;have h4:=xZ hq;rw[bN]at h4;rw[DJ l l.length (l.length+1) _ (by omega) (by omega) (by omega)]
def ca (l:aB):List Tk×Int×Int:=if 16384<l.length then([],2, -1)else match iX l 0 with
 | .error x=>([],x.1,(x.2:Nat))
 | .ok r=>(r,0,0)
def iC (acc:List Tk):Except (Int×Nat) (List Tk)->Except (Int×Nat) (List Tk)
 | .error x=>.error x
 | .ok r=>.ok (acc++r)
theorem nH (b:Bool):∀(l:aB),iL false (l.drop (iL b l))=0
 | []=>by simp[iL]
 | c::r=>by
  cases b with
  | true=>
   rw[iL,jR,lM];exact nH _ r
  | false=>
   rw[iL];split
   ·rw[jR,lM];exact nH _ r
   ·split
    ·rw[jR,lM];exact nH _ r
    ·rename_i h1 h2;rw[fg,iL,if_neg h1,if_neg h2]
theorem lg {l:aB} {i:Nat} (hi:i<=l.length):iX l i=iX l (i+iL false (l.drop i)):=by
 have h1:=DI hi;have h2:iL false (l.drop (i+iL false (l.drop i)))=0:=by
  rw[<-iA];exact nH false (l.drop i)
 rw[iR hi,iR h1,h2,gr]
theorem Hz {a b:List Tk} {x:Except (Int×Nat) (List Tk)}:iC a (iC b x)=iC (a++b) x:=by
 cases x with
 | error _=>rfl
 | ok r=>simp[iC]
theorem DK {w:av} (l:aB) (hE:Er w):
  az aq 72 #[ab (T l)] w fun e w'=>∃rs:Sl,e=ak (ai #[rs.v,ah #[O U (ca l).2.1,O U (ca l).2.2]])/\jY w.heap.size w' rs (ca l).1/\ay [] w w':=by
 refine(Zr (T l) (fun v w'=>∃rs:Sl,v=(ai #[rs.v,ah #[O U (ca l).2.1,O U (ca l).2.2]])/\jY w.heap.size w' rs (ca l).1/\ay [] w w') w ?_).mono (by
  rintro e w' ⟨v,rfl,rs,rfl,h⟩;exact⟨rs,rfl,h⟩)
 unfold Sz;rw[bI];refine⟨fun hc k0 w0 _ _ hO=>⟨Sl.nil,?_,?_,hO⟩,fun hc k1 w1 jO jb bZ=>(Hw w1).mono ?_⟩
 ·rw[ca,if_pos (by have:=aG hc;omega)]
 ·rw[ca,if_pos (by have:=aG hc;omega)];exact Own.nil _ _ _ _ _ _
 have CR:l.length<=16384:=by have:=aI hc;omega
 have Wy:ca l=match iX l 0 with
  | .error x=>([],x.1,(x.2:Nat))
  | .ok r=>(r,0,0):=by rw[ca,if_neg (by omega)]
 rintro _ w2 ⟨ws,rfl,hws,cp⟩;refine⟨ws,rfl,cp.same (by simp;omega),fun b w3 hb ml cO Ol=>?_⟩;have dq:=bZ.bP (cp.bP cO);have z1:=bZ.size;have z2:=cp.size;have z3:=cO.size;have hC0:Cut w3 b l 0 Sl.nil []:=⟨⟨ws,Ol,(SliceF.only cG (by decide) ((qc hws).inHeap cG (by decide)) cO (by simp)).mono cG fun k hk=>by omega⟩,Own.nil _ _ _ _ _ _,hE.only dq,by have:=hE.lt;omega,aQ _,CR⟩
 have sm:∀{u u':av},w2.heap.size<=u.heap.size->OnlyP (fun k=>b<=k) u u'->aR [k1] u u':=fun hu hO=>hO.same (by intro x hx;simp only[aF]at hx;subst hx;omega);refine(L8 Ol (aQ _) (by omega)).mono ?_;rintro _ w4 ⟨rfl,dm,Uk⟩;have p4:OnlyP (fun k=>b<=k) w3 w4:=dm.p fun x hx=>.inl (by simp only[aF]at hx;omega);have hC4:Cut w4 b l (0+iL false (l.drop 0)) Sl.nil []:=hC0.move dm (DI (aQ _)) fun Kq h'=>by
  have:Kq=ws:=by
   unfold Blk at h' Ol;rw[h']at Ol;simp[Sl.v]at Ol;cases ws;cases Kq;simp_all
  subst this;exact Uk
 refine⟨rfl,sm (by omega) p4,T l,_,ws,Sl.nil,Uk,fun nv e1 e2 s0 i0 l1 l2 w'=>e1=0/\e2=0/\s0=T l/\∃(i:Nat) (acc:List Tk),i0=(i:Int)/\Cut w' b l i l2 acc/\acc.length<=i/\iL false (l.drop i)=0/\iX l 0=iC acc (iX l i)/\nv=l.length-i/\OnlyP (fun k=>b<=k) w3 w'/\Blk w' b 198 [ab (T l),O U (i:Int),l1.v,l2.v],l.length-(0+iL false (l.drop 0)),?_,?_⟩
 ·refine⟨rfl,rfl,rfl,_,[],rfl,hC4,aQ _,?_,?_,rfl,p4,Uk⟩
  ·rw[<-iA];exact nH false (l.drop 0)
  ·rw[<-lg (aQ _)];cases iX l 0<;>rfl
 rintro nv _ _ _ _ l1 rs w5 ⟨rfl,rfl,rfl,i,acc,rfl,hC,dN,Yj,od,rfl,dS,Kl⟩;have z5:=dS.size;have hil:=hC.il;refine(Tz Kl).mono ?_;rintro _ w6 ⟨rfl,dG⟩;have hC6:=hC.only dG;have hb6:Blk w6 b 198 [ab (T l),O U (i:Int),l1.v,rs.v]:=(dG.block b Kl.lt (by simp)).trans Kl;have z6:=dG.size;have kb:=iR hC.il;rw[Yj,gr]at kb;refine⟨_,rfl,dG.same (by simp;omega),T l,i,l1,rs,hb6,fun hc=>?_,fun hc=>?_⟩
 ·have bJ:i<l.length:=by simpa using hc
  rw[if_neg (by omega)]at kb;refine(QJ hC6 (by omega) bJ).mono ?_;rintro _ w7 ⟨v,rfl,fz,hd⟩;have p7:OnlyP (fun k=>b<=k) w3 w7:=(dS.bP dG).trans fz fun k hk=>.inl hk;have z7:=fz.size;unfold KJ at hd;cases hq:jZ (l.drop i)with
  | error e=>
   rw[hq]at hd kb;obtain⟨rfl,rs7,hC7⟩:=hd;obtain⟨Yk,Wz,_⟩:=hC7.blk;refine⟨e,rfl,sm (by omega) fz,T l,i,Yk,rs7,Wz,fun _ w8 fh _=>⟨Sl.nil,?_,?_,?_⟩,fun he=>absurd (Bz hq) (by simpa using he)⟩
   ·rw[Wy,od,kb];rfl
   ·rw[Wy,od,kb];exact Own.nil _ _ _ _ _ _
   ·exact(((dq.p0 (F:=fun k=>w.heap.size<=k)).trans p7 fun k hk=>.inl (by omega)).trans (fh.p (F:=fun k=>k=k1) fun x hx=>.inl (by simpa using hx)) fun k hk=>.inl (by omega)).only fun k hk=>hk
  | ok q=>
   rw[hq]at hd kb;obtain⟨rfl,rs7,hC7⟩:=hd;obtain⟨Yk,Wz,_⟩:=hC7.blk;have hq1:=rN hq;have h7l:=hC7.il;refine⟨0,rfl,sm (by omega) fz,T l,(i+q.2.2.2:Nat),Yk,rs7,Wz,fun he=>(by simp at he),fun _=>(L8 Wz h7l (by omega)).mono ?_⟩;rintro _ w9 ⟨rfl,fK,Yl⟩;have p9:OnlyP (fun k=>b<=k) w7 w9:=fK.p fun x hx=>.inl (by simp only[aF]at hx;omega);have hC9:=hC7.move fK (DI h7l) fun Kq h'=>by
    have:Kq=Yk:=by
     unfold Blk at h' Wz;rw[h']at Wz;simp[Sl.v]at Wz;cases Yk;cases Kq;simp_all
    subst this;exact Yl
   refine⟨rfl,sm (by omega) p9,T l,_,Yk,rs7,Yl,l.length-(i+q.2.2.2+iL false (l.drop (i+q.2.2.2))),by omega,rfl,rfl,rfl,_,_,rfl,hC9,?_,?_,?_,rfl,p7.trans p9 fun k hk=>.inl hk,Yl⟩
   ·rw[aD,aW];omega
   ·rw[<-iA];exact nH false _
   ·rw[od,kb,<-lg h7l,<-Hz];dsimp only;cases iX l (i+q.2.2.2)<;>rfl
 ·have kO:l.length<=i:=by simpa using hc
  rw[if_pos kO]at kb;refine(Hx hC6 5 [] 0 0 0 (by omega) (by omega)).mono ?_;rintro _ cK ⟨rfl,dy,WA,adA⟩;obtain⟨aiP,aiQ,_⟩:=adA.blk;have p10:OnlyP (fun k=>b<=k) w3 cK:=(dS.bP dG).trans dy fun k hk=>.inl hk;have htt:ca l=(acc++[⟨5,[],0,(i:Nat)⟩],0,0):=by
   rw[Wy,od,kb];rfl
  refine⟨rfl,sm (by omega) dy,T l,_,aiP,WA,aiQ,fun cY dP _=>⟨WA,?_,?_,?_⟩⟩
  ·rw[htt]
  ·rw[htt];have:jY (b+1) cY WA _:=adA.own.keep fun k hk bJ=>dP.block k bJ (by simp only[aF];omega);exact Own.low this (by omega)
  ·exact(((dq.p0 (F:=fun k=>w.heap.size<=k)).trans p10 fun k hk=>.inl (by omega)).trans (dP.p (F:=fun k=>k=k1) fun x hx=>.inl (by simpa using hx)) fun k hk=>.inl (by omega)).only fun k hk=>hk
end Go.Proofs.YtmhoiicofhlgbaaGreatDoor.Con
namespace Go.Proofs.YtmhoiicofhlgbaaGreatDoor.Con
open Go.Value renaming int->O,string->ab,pointer->ae,agg->ah,tuple->ai,bool->aj
open Go.IntKind renaming i64->U,wrap->ar
open Go.Ending renaming returned->ak
open _root_.ByteArray renaming mk->ao
open _root_.Go.Proofs.Tryz renaming prog->aq
open Go.Instr renaming buildSlice->au
open Go renaming World->av,Value->aw,Calls->az
open Go.Kt renaming Only->ay
open Go Go.RowKit Go.Kt Go.Kt.V
set_option linter.unusedSimpArgs false
set_option linter.unusedVariables false
set_option maxHeartbeats 4000000
inductive Ex where
 | mk (k n:Int) (s:aB) (op:Int) (subs:List Ex) (a:Int)
def Ex.k:Ex->Int | .mk k _ _ _ _ _=>k
def Ex.n:Ex->Int | .mk _ n _ _ _ _=>n
def Ex.s:Ex->aB | .mk _ _ s _ _ _=>s
def Ex.op:Ex->Int | .mk _ _ _ op _ _=>op
def Ex.cR:Ex->List Ex | .mk _ _ _ _ l _=>l
def Ex.a:Ex->Int | .mk _ _ _ _ _ a=>a
def tk0:Tk:=⟨5,[],0, -1⟩
def tk (ts:List Tk) (i:Nat):Tk:=(ts[i]?).getD tk0
def sg (ts:List Tk) (i:Nat) (s:aB):Bool:=(tk ts i).k==4&&decide ((tk ts i).t=s)
def eF (ts:List Tk) (i:Nat):Int×Int:=(if(tk ts i).k=5 then 3 else 4,(tk ts i).a)
theorem x9 {ts:List Tk} {i:Nat} (h:i<ts.length):ts[i]? =some (tk ts i):=by
 unfold tk;rw[bA h];rfl
def nY (ts:List Tk):Prop:=∀i,i<ts.length->((tk ts i).k=5↔i+1=ts.length)
theorem nY.next {ts:List Tk} (h:nY ts) {i:Nat} (hi:i<ts.length) (hk:(tk ts i).k≠5):i+1<ts.length:=by
 have h2:¬(i+1=ts.length):=fun e=>hk ((h i hi).2 e);omega
theorem sw {ts:List Tk} {i:Nat} {s:aB} (h:sg ts i s=true):(tk ts i).k≠5:=by
 simp only[sg,aE,cZ]at h;rw[h.1];decide
def sA:List (aB):=[[],[43],[45],[42],[47],[37],[60],[60,61],[62],[62,61],[61,61],[33,61],[38,38],[124,124],[45],[33]]
def dY (op:Int):Int:=if 3<=op/\op<=5 then 5 else if op=1∨op=2 then 4 else if 6<=op/\op<=9 then 3 else if op=10∨op=11 then 2 else if op=12 then 1 else if op=13 then 0 else 6
def dh (op:Nat):aB:=(sA[op]?).getD []
def ij (ts:List Tk) (k:Int) (i:Nat):Nat->Nat->Int
 | 0,_=>0
 | f+1,op=>if dY (op:Int)=k/\sg ts i (dh op)=true then(op:Int)else ij ts k i f (op+1)
def iE (ts:List Tk) (k:Int) (i:Nat):Int:=ij ts k i 13 1
theorem mH {ts:List Tk} {k:Int} {i:Nat}:∀(f op:Nat),ij ts k i f op≠0->(tk ts i).k≠5
 | 0,_,h=>absurd rfl h
 | f+1,op,h=>by
  rw[ij]at h;split at h
  ·rename_i hc;exact sw hc.2
  ·exact mH f _ h
abbrev Pr:=Except (Int×Int) (Ex×Nat)
def DL (g:Ex->Ex):Pr->Pr
 | .error e=>.error e
 | .ok (x,j)=>.ok (g x,j)
def yd:Pr->(Ex->Nat->Pr)->Pr
 | .error e,_=>.error e
 | .ok (x,j),g=>g x j
def pJ (ts:List Tk):Pr->Pr
 | .error e=>.error e
 | .ok (x,j)=>if sg ts j [41]then .ok (x,j+1)else .error (eF ts j)
def gU (d:Nat) (a:Int) (r:Pr):Pr:=if d=20 then .error (21,a)else r
def yf (ts:List Tk) (i:Nat):Pr:=
 if sg ts (i+1) [40]then
  (if(tk ts (i+2)).k=1 then
   (if sg ts (i+3) [41]then .ok (.mk 3 0 (tk ts (i+2)).t 0 [] (tk ts i).a,i+4)else .error (eF ts (i+3)))
  else .error (eF ts (i+2)))
 else .error (eF ts (i+1))
def mz (ts:List Tk) (E0 One:Nat->Pr) (d i:Nat):Pr:=
 if(sg ts i [45]||sg ts i [33])=true then DL (fun x=>.mk 4 0 [] (if(tk ts i).t=[33]then 15 else 14) [x] (tk ts i).a) (gU d (tk ts i).a (One (i+1)))
 else if sg ts i [40]=true then gU d (tk ts i).a (pJ ts (E0 (i+1)))
 else if(tk ts i).k=3 then .ok (.mk 1 (tk ts i).n [] 0 [] (tk ts i).a,i+1)
 else if(tk ts i).k=1 then .ok (.mk 2 0 (tk ts i).t 0 [] (tk ts i).a,i+1)
 else if(tk ts i).k=2/\(tk ts i).t=[105,110]then yf ts i
 else .error (eF ts i)
def gI (ts:List Tk) (E:Nat->Pr) (k:Int):Nat->Ex->Nat->Pr
 | 0,x,j=>.ok (x,j)
 | g+1,x,j=>if iE ts k j=0 then .ok (x,j)else yd (E (j+1)) fun y j'=>gI ts E k g (.mk 5 0 [] (iE ts k j) [x,y] x.a) j'
def cx (ts:List Tk):Nat->Nat->Nat->Nat->Pr
 | 0,_,_,_=>.error (1,0)
 | f+1,k,d,i=>if k=6 then mz ts (cx ts f 0 (d+1)) (cx ts f 6 (d+1)) d i else yd (cx ts f (k+1) d i) fun x j=>gI ts (cx ts f (k+1) d) (k:Int) (ts.length-j) x j
theorem wS {g:Ex->Ex} {r:Pr} {x:Ex} {j:Nat} (h:DL g r=.ok (x,j)):∃y,r=.ok (y,j)/\x=g y:=by
 cases r with
 | error e=>cases h
 | ok q=>
  obtain⟨y,j'⟩:=q;simp only[DL,dj,cW]at h;obtain⟨rfl,rfl⟩:=h;exact⟨y,rfl,rfl⟩
theorem oL {d:Nat} {a:Int} {r:Pr} {q:Ex×Nat} (h:gU d a r=.ok q):r=.ok q/\d≠20:=by
 unfold gU at h;split at h
 ·cases h
 ·exact⟨h,by assumption⟩
theorem wT {ts:List Tk} {r:Pr} {x:Ex} {j:Nat} (h:pJ ts r=.ok (x,j)):∃j',r=.ok (x,j')/\sg ts j' [41]=true/\j=j'+1:=by
 cases r with
 | error e=>cases h
 | ok q=>
  obtain⟨y,j'⟩:=q;simp only[pJ]at h;split at h
  ·simp only[dj,cW]at h;obtain⟨rfl,rfl⟩:=h;exact⟨j',rfl,by assumption,rfl⟩
  ·cases h
theorem ue {r:Pr} {g:Ex->Nat->Pr} {q:Ex×Nat} (h:yd r g=.ok q):∃x j,r=.ok (x,j)/\g x j=.ok q:=by
 cases r with
 | error e=>cases h
 | ok p=>exact⟨p.1,p.2,rfl,h⟩
theorem FQ {ts:List Tk} {i:Nat} {x:Ex} {j:Nat} (h:yf ts i=.ok (x,j)):j=i+4/\x=.mk 3 0 (tk ts (i+2)).t 0 [] (tk ts i).a:=by
 unfold yf at h;split at h
 ·split at h
  ·split at h
   ·simp only[dj,cW]at h;exact⟨h.2.symm,h.1.symm⟩
   ·cases h
  ·cases h
 ·cases h
theorem Jz {ts:List Tk} {E0 One:Nat->Pr} {d i:Nat} {x:Ex} {j:Nat} (hE:∀i x j,E0 i=.ok (x,j)->i<j) (hO:∀i x j,One i=.ok (x,j)->i<j) (h:mz ts E0 One d i=.ok (x,j)):i<j:=by
 unfold mz at h;split at h
 ·obtain⟨y,h1,_⟩:=wS h;have:=hO _ _ _ (oL h1).1;omega
 ·split at h
  ·obtain⟨j',h1,_,rfl⟩:=wT (oL h).1;have:=hE _ _ _ h1;omega
  ·split at h
   ·simp only[dj,cW]at h;omega
   ·split at h
    ·simp only[dj,cW]at h;omega
    ·split at h
     ·have:=(FQ h).1;omega
     ·cases h
theorem yg {ts:List Tk} {E:Nat->Pr} {k:Int} (hE:∀i x j,E i=.ok (x,j)->i<j):∀(g:Nat) (x:Ex) (j:Nat) {x':Ex} {j':Nat},gI ts E k g x j=.ok (x',j')->j<=j'
 | 0,x,j,x',j',h=>by
  simp only[gI,dj,cW]at h;omega
 | g+1,x,j,x',j',h=>by
  rw[gI]at h;split at h
  ·simp only[dj,cW]at h;omega
  ·obtain⟨y,m,h1,h2⟩:=ue h;have:=hE _ _ _ h1;have:=yg hE g _ _ h2;omega
theorem jk {ts:List Tk}:∀(f k d i:Nat) {x:Ex} {j:Nat},cx ts f k d i=.ok (x,j)->i<j
 | 0,_,_,_,_,_,h=>by cases h
 | f+1,k,d,i,x,j,h=>by
  rw[cx]at h;split at h
  ·exact Jz (fun i x j h=>jk f _ _ i h) (fun i x j h=>jk f _ _ i h) h
  ·obtain⟨y,m,h1,h2⟩:=ue h;have:=jk f _ _ _ h1;have:=yg (fun i x j h=>jk f _ _ i h) _ _ _ h2;omega
def eS (k d:Nat):Nat:=(20-d)*8+(7-k)
def nZ (ts:List Tk) (i:Nat):Pr:=cx ts (eS 0 0) 0 0 i
end Go.Proofs.YtmhoiicofhlgbaaGreatDoor.Con
namespace Go.Proofs.YtmhoiicofhlgbaaGreatDoor.Con
open Go.Value renaming int->O,string->ab,pointer->ae,agg->ah,tuple->ai,bool->aj
open Go.IntKind renaming i64->U,wrap->ar
open Go.Ending renaming returned->ak
open _root_.ByteArray renaming mk->ao
open _root_.Go.Proofs.Tryz renaming prog->aq
open Go.Instr renaming buildSlice->au
open Go renaming World->av,Value->aw,Calls->az
open Go.Kt renaming Only->ay
open Go Go.RowKit Go.Kt Go.Kt.V Go.Proofs.YtmhoiicofhlgbaaGreatDoor.Vc
set_option linter.unusedSimpArgs false
set_option linter.unusedVariables false
set_option maxHeartbeats 4000000
structure Rd (F G:Nat->Prop) (ts:List Tk) (w:av) (b:Nat) (l sn:Sl) (i:Nat) (fc fa d:Int):Prop where
 blk:Blk w b 331 [l.v,O U (i:Int),O U fc,O U fa,O U d,sn.v]
 tok:SliceF zW 4 w F l ts
 sig:SliceF iW 1 w G sn sA
 hF:∀k,F k->k<b
 hG:∀k,G k->k<b
 en:nY ts
 lt:i<ts.length
section
variable {F G:Nat->Prop} {ts:List Tk} {w w':av} {b:Nat} {l sn:Sl} {i:Nat} {fc fa d:Int}
theorem Rd.only (h:Rd F G ts w b l sn i fc fa d) (hO:ay [] w w'):Rd F G ts w' b l sn i fc fa d:=
 ⟨hO.blk h.blk (by simp),SliceF.only fT (by decide) h.tok hO (by simp),SliceF.only cG (by decide) h.sig hO (by simp),h.hF,h.hG,h.en,h.lt⟩
theorem Rd.jM (h:Rd F G ts w b l sn i fc fa d) (hO:ay [b] w w') {i':Nat} {fc' fa' d':Int} (hB:Blk w' b 331 [l.v,O U (i':Int),O U fc',O U fa',O U d',sn.v]) (hi:i'<ts.length):Rd F G ts w' b l sn i' fc' fa' d':=
 ⟨hB,SliceF.only fT (by decide) h.tok hO fun k hk _ hm=>by have:=h.hF k hk;simp only[aF]at hm;omega,SliceF.only cG (by decide) h.sig hO fun k hk _ hm=>by have:=h.hG k hk;simp only[aF]at hm;omega,h.hF,h.hG,h.en,hi⟩
theorem Rd.own (h:Rd F G ts w b l sn i fc fa d) {bs:List Nat} (hO:ay bs w w') (hb:∀x,x∈bs->b<x):Rd F G ts w' b l sn i fc fa d:=
 ⟨hO.blk h.blk fun hm=>by have:=hb b hm;omega,SliceF.only fT (by decide) h.tok hO fun k hk _ hm=>(by have:=h.hF k hk;have:=hb k hm;omega),SliceF.only cG (by decide) h.sig hO fun k hk _ hm=>(by have:=h.hG k hk;have:=hb k hm;omega),h.hF,h.hG,h.en,h.lt⟩
theorem Rd.lb (h:Rd F G ts w b l sn i fc fa d):b<w.heap.size:=h.blk.lt
theorem Rd.big (h:Rd F G ts w b l sn i fc fa d):ts.length<=9223372036854775807:=by
 have h1:=h.tok.len;have h2:=h.tok.cap;have h3:=h.tok.big;omega
theorem Rd.now (h:Rd F G ts w b l sn i fc fa d):∃ad,ck l (i:Int) 4 ad/\Cells w ad [O U (tk ts i).k,ab (T (tk ts i).t),O U (tk ts i).n,O U (tk ts i).a]:=by
 have hl:=h.tok.len;have bJ:=h.lt;obtain⟨ad,x,cs,g1,g2,g3,g4,g5,g6⟩:=h.tok.get (aO i) (by omega);rw[aM,x9 h.lt]at g2;injection g2 with g2;subst g2;unfold zW at g6;subst g6;exact⟨ad,g1,g5⟩
theorem DM (h:Rd F G ts w b l sn i fc fa d):az aq 328 #[ae (some ⟨b,0,none⟩)] w fun e w'=>e=ak (tk ts i).v/\ay [] w w':=by
 refine ret (agi _ _ _ ?_);unfold Z6;intro k0 w0 hk wI hO;have h0:=h.only hO;obtain⟨ad,g1,g2⟩:=h0.now;exact⟨l,Blk.dI h0.blk 0 rfl,_,Blk.dI h0.blk 1 rfl,ad,g1,_,_,_,_,g2,fun w1 bZ=>⟨rfl,hO.new bZ hk⟩⟩
theorem zX (h:Rd F G ts w b l sn i fc fa d):az aq 307 #[ae (some ⟨b,0,none⟩)] w fun e w'=>e=ak (aj (fc !=0))/\ay [] w w':=by
 refine ret (v7w _ _ _ ?_);unfold v7v;exact⟨fc,Blk.dI h.blk 2 rfl,rfl,Only.refl _ _⟩
theorem BA (h:Rd F G ts w b l sn i fc fa d) (c:Int):az aq 336 #[ae (some ⟨b,0,none⟩),O U c] w fun e w'=>e=ak (ai #[])/\ay [b] w w'/\
  Rd F G ts w' b l sn i (if fc=0 then c else fc) (if fc=0 then(tk ts i).a else fa) d:=by
 refine ret (agk _ _ _ _ ?_);unfold Z8;refine(zX h).mono ?_;rintro _ w0 ⟨rfl,bT⟩;have h0:=h.only bT;refine⟨_,rfl,fun hc=>(DM h0).mono ?_,fun hc=>?_⟩
 ·have hc:fc=0:=by simpa using hc
  subst hc;rintro _ w1 ⟨rfl,bZ⟩;have h1:=h0.only bZ;refine⟨_,_,_,_,rfl,b,2,_,_,rfl,h1.blk,by simp,fun w2 cp kC=>⟨rfl,(bT.bP bZ).weaken (fun _ h=>(by cases h)) |>.trans cp (fun x hx=>.inl hx),?_⟩⟩;rw[if_pos rfl,if_pos rfl];exact h1.jM cp kC h.lt
 ·have hc:fc≠0:=by simpa using hc
  rw[if_neg hc,if_neg hc];exact⟨rfl,bT.weaken fun _ h=>(by cases h),h0⟩
theorem BB (h:Rd F G ts w b l sn i fc fa d):az aq 334 #[ae (some ⟨b,0,none⟩)] w fun e w'=>e=ak (ai #[])/\ay [b] w w'/\
  Rd F G ts w' b l sn i (if fc=0 then(eF ts i).1 else fc) (if fc=0 then(eF ts i).2 else fa) d:=by
 refine ret (agm _ _ _ ?_);unfold aaa;refine⟨fun w'=>ay [b] w w'/\((tk ts i).k=5->Rd F G ts w' b l sn i (if fc=0 then 3 else fc) (if fc=0 then(tk ts i).a else fa) d)/\((tk ts i).k≠5->Rd F G ts w' b l sn i fc fa d),?_,(DM h).mono ?_⟩
 ·rintro w0 ⟨bT,h1,h2⟩;by_cases hk:(tk ts i).k=5
  ·refine(BA (h1 hk) 4).mono ?_;rintro _ w1 ⟨rfl,bZ,hR⟩;refine⟨rfl,rfl,bT.trans bZ (fun x hx=>.inl hx),?_⟩;unfold eF;rw[if_pos hk];by_cases hc:fc=0
   ·rw[if_pos hc,if_pos hc,if_neg (by decide),if_neg (by decide)]at hR;rw[if_pos hc,if_pos hc];exact hR
   ·rw[if_neg hc,if_neg hc,if_neg hc,if_neg hc]at hR;rw[if_neg hc,if_neg hc];exact hR
  ·refine(BA (h2 hk) 4).mono ?_;rintro _ w1 ⟨rfl,bZ,hR⟩;refine⟨rfl,rfl,bT.trans bZ (fun x hx=>.inl hx),?_⟩;unfold eF;rw[if_neg hk];exact hR
 ·rintro _ w2 ⟨rfl,cp⟩;have h2:=h.only cp;refine⟨_,_,_,_,rfl,fun hc=>(BA h2 3).mono ?_,fun hc=>⟨cp.weaken fun _ h=>(by cases h),fun e=>?_,fun _=>h2⟩⟩
  ·rintro _ w3 ⟨rfl,cO,hR⟩;exact⟨rfl,cp.weaken (fun _ h=>(by cases h)) |>.trans cO (fun x hx=>.inl hx),fun _=>hR,fun e=>absurd (by simpa using hc) e⟩
  ·rw[e]at hc;simp at hc
theorem abJ (h:Rd F G ts w b l sn i fc fa d) {H:Nat->Prop} {s:Sl} {ss:List (aB)} (hs:SliceF iW 1 w H s ss):az aq 329 #[ae (some ⟨b,0,none⟩),s.v] w fun e w'=>
  e=ak (aj (fc==0&&(tk ts i).k==4&&ss.contains (tk ts i).t))/\ay [] w w':=by
 refine ret (v8w _ _ _ _ ?_);unfold v8v;refine(DM h).mono ?_;rintro _ w0 ⟨rfl,bT⟩;refine⟨_,_,_,_,rfl,fun k0 w1 hk wI bZ=>⟨fun c w'=>c=(fc==0&&(tk ts i).k==4&&ss.contains (tk ts i).t)/\ay [] w w',fun c w2 h2=>⟨by rw[h2.1],h2.2⟩,?_⟩⟩;have fb:=bT.bP bZ;refine(zX (h.only fb)).mono ?_;rintro _ w3 ⟨rfl,cO⟩;have e:(!(fc !=0))=(fc==0):=by cases h:(fc==0)<;>simp[bne,h]
 refine⟨_,rfl,cO.same (by simp;omega),fun hc=>(qJ (SliceF.only cG (by decide) hs (fb.bP cO) (by simp)) _).mono ?_,fun hc=>⟨?_,fb.bP cO⟩⟩
 ·rintro _ w4 ⟨rfl,dm⟩;rw[e]at hc;have hl:=h.lb;have z3:=cO.size;exact⟨_,rfl,dm.same (by simp;omega),by rw[hc,bK],fb.bP (cO.bP dm)⟩
 ·rw[e]at hc;rw[hc,da]
theorem is1 (h:Rd F G ts w b l sn i fc fa d) (s:aB):∃(s0:Sl) (w0:av),(au 52 1 #[.mk 0 (ab (T s))]).run aq w=.ok s0.v w0/\ay [] w w0/\
  az aq 329 #[ae (some ⟨b,0,none⟩),s0.v] w0 fun e w'=>e=ak (aj (fc==0&&sg ts i s))/\ay [] w0 w':=by
 obtain⟨s0,w0,k1,k2,k3⟩:=iB w [s] (n:=1) (parts:=#[(0,ab (T s))]) rfl rfl (by decide) (by decide);refine⟨s0,w0,k1,k3,(abJ (h.only k3) (qc k2)).mono ?_⟩;rintro _ w1 ⟨rfl,bZ⟩;have e:[s].contains (tk ts i).t=decide ((tk ts i).t=s):=by
  by_cases e:(tk ts i).t=s
  ·rw[bh e,e];simp
  ·rw[aZ e];simp[e]
 refine⟨?_,bZ⟩;unfold sg;rw[sO,e]
theorem is2 (h:Rd F G ts w b l sn i fc fa d):∃(s0:Sl) (w0:av),(au 52 2 #[.mk 0 (ab (ao #[45])),.mk 1 (ab (ao #[33]))]).run aq w=.ok s0.v w0/\ay [] w w0/\
  az aq 329 #[ae (some ⟨b,0,none⟩),s0.v] w0 fun e w'=>e=ak (aj (fc==0&&(sg ts i [45]||sg ts i [33])))/\ay [] w0 w':=by
 obtain⟨s0,w0,k1,k2,k3⟩:=iB w [[45],[33]] (n:=2) (parts:=#[(0,ab (T [45])),(1,ab (T [33]))]) rfl rfl (by decide) (by decide);refine⟨s0,w0,k1,k3,(abJ (h.only k3) (qc k2)).mono ?_⟩;rintro _ w1 ⟨rfl,bZ⟩;have e:[[45],[33]].contains (tk ts i).t=(decide ((tk ts i).t=[45])||decide ((tk ts i).t=[33])):=by
  rw[bq];simp
 refine⟨?_,bZ⟩;unfold sg;rw[sO,<-Bool.and_or_distrib_left,e]
theorem yh (h:Rd F G ts w b l sn i fc fa d) (s:aB):az aq 332 #[ae (some ⟨b,0,none⟩),ab (T s)] w fun e w'=>e=ak (ai #[])/\ay [b] w w'/\
  (if fc==0&&sg ts i s then Rd F G ts w' b l sn (i+1) fc fa d else Rd F G ts w' b l sn i (if fc=0 then(eF ts i).1 else fc) (if fc=0 then(eF ts i).2 else fa) d):=by
 refine ret (v9w _ _ _ _ ?_);unfold v9v;obtain⟨s0,w0,k1,k2,k3⟩:=is1 h s;refine⟨s0,w0,k1,k3.mono ?_⟩;rintro _ w1 ⟨rfl,bZ⟩;have h1:=h.only (k2.bP bZ);have fb:ay [b] w w1:=(k2.bP bZ).weaken fun _ h=>(by cases h)
 refine⟨_,rfl,fun hc=>(BB h1).mono ?_,fun hc=>?_⟩
 ·rintro _ w2 ⟨rfl,cp,hR⟩;have hc:(fc==0&&sg ts i s)=false:=by rwa[bX]at hc
  rw[hc];exact⟨rfl,rfl,fb.trans cp (fun x hx=>.inl hx),hR⟩
 ·have hc:(fc==0&&sg ts i s)=true:=by rwa[ga]at hc
  rw[hc];simp only[aE]at hc;have hn:=h.en.next h.lt (sw hc.2);have hb:=h.big;refine⟨(i:Int),Blk.dI h1.blk 1 rfl,b,1,_,_,rfl,h1.blk,by simp,fun w3 cO sK=>⟨rfl,fb.trans cO (fun x hx=>.inl hx),h1.jM cO ?_ hn⟩⟩;rw[fy (by omega) (by omega)]at sK;exact sK
theorem HA (h:Rd F G ts w b l sn i fc fa d):az aq 333 #[ae (some ⟨b,0,none⟩)] w fun e w'=>ay [b] w w'/\
  (if fc=0/\(tk ts i).k=1 then e=ak (ab (T (tk ts i).t))/\Rd F G ts w' b l sn (i+1) fc fa d else e=ak (ab (T []))/\Rd F G ts w' b l sn i (if fc=0 then(eF ts i).1 else fc) (if fc=0 then(eF ts i).2 else fa) d):=by
 refine(agn ⟨b,0,none⟩ (fun v w'=>ay [b] w w'/\(if fc=0/\(tk ts i).k=1 then v=(ab (T (tk ts i).t))/\Rd F G ts w' b l sn (i+1) fc fa d else v=(ab (T []))/\Rd F G ts w' b l sn i (if fc=0 then(eF ts i).1 else fc) (if fc=0 then(eF ts i).2 else fa) d)) w ?_).mono (by
  rintro e w' ⟨v,rfl,hO,hv⟩;refine⟨hO,?_⟩;split at hv
  ·rename_i hc;rw[if_pos hc];exact⟨by rw[hv.1],hv.2⟩
  ·rename_i hc;rw[if_neg hc];exact⟨by rw[hv.1],hv.2⟩)
 unfold aab;refine(DM h).mono ?_;rintro _ w0 ⟨rfl,bT⟩;refine⟨_,_,_,_,rfl,fun k0 w1 hk wI bZ=>?_⟩;have fb:=bT.bP bZ;have z0:=bT.size;have hl:=h.lb;refine(zX (h.only fb)).mono ?_;rintro _ w2 ⟨rfl,cp⟩;have z2:=cp.size;have h2:=h.only (fb.bP cp);have iO:ay [b] w w2:=(fb.bP cp).weaken fun _ h=>(by cases h)
 refine⟨_,rfl,cp.same (by simp;omega),fun hc=>(BB h2).mono ?_,fun hc=>?_⟩
 ·rintro _ w3 ⟨rfl,cO,hR⟩;refine⟨rfl,cO.same (by simp;omega),iO.trans cO (fun x hx=>.inl hx),?_⟩;rw[if_neg (fun hh=>by rw[hh.1,hh.2]at hc;simp at hc)];exact⟨rfl,hR⟩
 ·have hc:fc=0/\(tk ts i).k=1:=by simpa using hc
  have hn:=h.en.next h.lt (by rw[hc.2];decide);have hb:=h.big;refine⟨(i:Int),Blk.dI h2.blk 1 rfl,b,1,_,_,rfl,h2.blk,by simp,by omega,fun w3 cO sK=>⟨iO.trans cO (fun x hx=>.inl hx),?_⟩⟩;rw[if_pos hc];refine⟨rfl,h2.jM cO ?_ hn⟩;rw[fy (by omega) (by omega)]at sK;exact sK
end
theorem FR (w:av) (op:Int):az aq 293 #[O U op] w fun e w'=>e=ak (O U (dY op))/\w'=w:=by
 refine ret (agp _ _ _ ?_);unfold aad;have fin:∀{k:Int} {w1:av},dY op=k->(Value.int U k=O U (dY op)/\w1=w1):=fun e=>⟨by rw[e],rfl⟩
 refine⟨fun h=>fin ?_,fun h=>⟨fun b w'=>b=decide (op=1∨op=2)/\w'=w,?_,fun h1=>⟨?_,rfl⟩,fun h1=>⟨?_,rfl⟩⟩⟩
 ·simp only[aE,bd]at h;unfold dY;rw[if_pos (by omega)]
 ·rintro _ w1 ⟨rfl,rfl⟩;have h:¬(3<=op/\op<=5):=fun hh=>by rw[bh hh.1,bh hh.2]at h;cases h
  refine⟨fun h1=>fin ?_,fun h1=>⟨fun h2=>fin ?_,fun h2=>⟨fun b w2=>b=decide (op=10∨op=11)/\w2=w1,?_,fun h3=>⟨?_,rfl⟩,fun h3=>⟨?_,rfl⟩⟩⟩⟩
  ·have h1:=aG h1;unfold dY;rw[if_neg h,if_pos h1]
  ·have h1:=aI h1;simp only[aE,bd]at h2;unfold dY;rw[if_neg h,if_neg h1,if_pos (by omega)]
  ·rintro _ _ ⟨rfl,rfl⟩;have h1:=aI h1;have h2:¬(6<=op/\op<=9):=fun hh=>by rw[bh hh.1,bh hh.2]at h2;cases h2
   refine⟨fun h3=>fin ?_,fun h3=>⟨fun h4=>fin ?_,fun h4=>⟨fun h5=>fin ?_,fun h5=>fin ?_⟩⟩⟩
   ·have h3:=aG h3;unfold dY;rw[if_neg h,if_neg h1,if_neg h2,if_pos h3]
   ·have h3:=aI h3;have h4:op=12:=by simpa using h4
    unfold dY;rw[if_neg h,if_neg h1,if_neg h2,if_neg h3,if_pos h4]
   ·have h3:=aI h3;have h4:¬op=12:=by simpa using h4
    have h5:op=13:=by simpa using h5
    unfold dY;rw[if_neg h,if_neg h1,if_neg h2,if_neg h3,if_neg h4,if_pos h5]
   ·have h3:=aI h3;have h4:¬op=12:=by simpa using h4
    have h5:¬op=13:=by simpa using h5
    unfold dY;rw[if_neg h,if_neg h1,if_neg h2,if_neg h3,if_neg h4,if_neg h5]
  ·have h3:op=10:=by simpa using h3
   rw[h3];rfl
  ·have h3:¬op=10:=by simpa using h3
   rw[bq];simp[h3]
 ·have h1:op=1:=by simpa using h1
  rw[h1];rfl
 ·have h1:¬op=1:=by simpa using h1
  rw[bq];simp[h1]
section
variable {F G:Nat->Prop} {ts:List Tk} {w w':av} {b:Nat} {l sn:Sl} {i:Nat} {fc fa d:Int}
theorem yi (h:Rd F G ts w b l sn i fc fa d) (k:Int):az aq 319 #[ae (some ⟨b,0,none⟩),O U k] w fun e w'=>e=ak (O U (if fc=0 then iE ts k i else 0))/\ay [] w w':=by
 refine ret (ago _ _ _ _ ?_);unfold aac;refine⟨fun nv i0 w'=>∃op:Nat,1<=op/\op<=14/\i0=(op:Int)/\nv=14-op/\(if fc=0 then iE ts k i else 0)=(if fc=0 then ij ts k i (14-op) op else 0)/\ay [] w w',13,⟨1,by decide,by decide,rfl,rfl,rfl,Only.refl _ _⟩,?_⟩;rintro nv _ w0 ⟨op,h1,h2,rfl,rfl,hV,bT⟩;refine⟨fun hc=>?_,fun hc=>?_⟩
 ·have hc:(op:Int)<=13:=aG hc;obtain⟨m,hm⟩:∃m,14-op=m+1:=⟨13-op,by omega⟩
  rw[hm,ij]at hV;refine⟨fun c w'=>c=(decide (dY (op:Int)=k)&&(fc==0&&sg ts i (dh op)))/\ay [] w w',?_,fun w2 cp=>(FR w2 _).mono ?_⟩
  ·rintro _ w1 ⟨rfl,bZ⟩;refine⟨fun hb=>⟨?_,bZ⟩,fun hb=>⟨m,by omega,op+1,by omega,by omega,by rw[fy (by omega) (by omega)];rfl,by omega,?_,bZ⟩⟩
   ·simp only[aE,bd,cZ]at hb;rw[hV,if_pos hb.2.1,if_pos ⟨hb.1,hb.2.2⟩]
   ·rw[hV,show 14-(op+1)=m by omega];by_cases h0:fc=0
    ·rw[if_pos h0,if_pos h0,if_neg];rintro⟨e1,e2⟩;rw[bh e1,e2,h0]at hb;simp at hb
    ·rw[if_neg h0,if_neg h0]
  ·rintro _ w3 ⟨rfl,rfl⟩;have h3:=h.only (bT.bP cp);refine⟨_,rfl,fun hk=>?_,fun hk=>?_⟩
   ·have hk:dY (op:Int)=k:=by simpa using hk
    have hn:=h3.sig.len;have hol:sA.length=16:=rfl;obtain⟨ad,x,cs,g1,g2,g3,g4,g5,g6⟩:=h3.sig.get (i:=(op:Int)) (by omega) (by omega);unfold iW at g6;subst g6;rw[aM]at g2;have hx:dh op=x:=by unfold dh;rw[g2];rfl
    subst hx;obtain⟨s0,w4,k1,k2,k3⟩:=is1 h3 (dh op);refine⟨sn,Blk.dI h3.blk 5 rfl,ad,g1,_,g5,s0,w4,k1,k3.mono ?_⟩;rintro _ w5 ⟨rfl,dS⟩;exact⟨_,rfl,by rw[bh hk,bK],bT.bP (cp.bP (k2.bP dS))⟩
   ·have hk:¬dY (op:Int)=k:=by simpa using hk
    exact⟨by rw[aZ hk,da],bT.bP cp⟩
 ·have hc:¬(op:Int)<=13:=aI hc;have:op=14:=by omega
  subst this;rw[hV];refine⟨?_,bT⟩;split<;>rfl
end
abbrev jy (k n:Int) (s:aB) (op:Int) (sl:Sl) (a:Int):List aw:=[O U k,O U n,ab (T s),O U op,sl.v,O U a]
inductive RXN (w:av) (N:Nat->Prop):Nat->Nat->Ex->List aw->Prop
 | leaf (lo hi:Nat) (k n:Int) (s:aB) (op a:Int):RXN w N lo hi (.mk k n s op [] a) (jy k n s op Sl.nil a)
 | one (lo m g hi:Nat) (k n:Int) (s:aB) (op a:Int) (x:Ex) (cs:List aw):RXN w N lo m x cs->lo<=g->m<=g->g<hi->¬N g->Blk w g 51 cs->RXN w N lo hi (.mk k n s op [x] a) (jy k n s op ⟨some ⟨g,0,none⟩,1,1⟩ a)
 | two (lo m m' m2 g hi:Nat) (k n:Int) (s:aB) (op a:Int) (x y:Ex) (cs ds:List aw):RXN w N lo m x cs->m<=m'->RXN w N m' m2 y ds->lo<=m'->m<=g->m'<=g->m2<=g->g<hi->¬N g->Blk w g 51 (cs++ds)->RXN w N lo hi (.mk k n s op [x,y] a) (jy k n s op ⟨some ⟨g,0,none⟩,2,2⟩ a)
abbrev RX (w:av):Nat->Nat->Ex->List aw->Prop:=RXN w fun _=>False
section
variable {w w':av} {N N':Nat->Prop} {lo hi:Nat} {x:Ex} {cs:List aw}
theorem RXN.keep (h:RXN w N lo hi x cs):(∀k,lo<=k->k<hi->¬N k->k<w.heap.size->w'.heap[k]? =w.heap[k]?)->RXN w' N lo hi x cs:=by
 induction h with
 | leaf lo hi k n s op a=>exact fun _=>.leaf ..
 | one lo m g hi k n s op a x cs h1 h2 h3 h4 hn h5 ih=>
  intro hk;exact .one lo m g hi k n s op a x cs (ih fun j h6 h7 h8=>hk j h6 (by omega) h8) h2 h3 h4 hn ((hk g h2 h4 hn h5.lt).trans h5)
 | two lo m m' m2 g hi k n s op a x y cs ds h1 h2 h3 h4 h5 h6 h7 h8 hn h9 zD CS=>
  intro hk;exact .two lo m m' m2 g hi k n s op a x y cs ds (zD fun j a1 a2 a3=>hk j a1 (by omega) a3) h2 (CS fun j a1 a2 a3=>hk j (by omega) (by omega) a3) h4 h5 h6 h7 h8 hn ((hk g (by omega) h8 hn h9.lt).trans h9)
theorem RXN.wide (h:RXN w N lo hi x cs):∀{Ym wj:Nat},Ym<=lo->hi<=wj->RXN w N Ym wj x cs:=by
 induction h with
 | leaf lo hi k n s op a=>exact fun _ _=>.leaf ..
 | one lo m g hi k n s op a x cs h1 h2 h3 h4 hn h5 ih=>
  intro Ym wj a1 a2;exact .one Ym m g wj k n s op a x cs (ih a1 (aK _)) (by omega) h3 (by omega) hn h5
 | two lo m m' m2 g hi k n s op a x y cs ds h1 h2 h3 h4 h5 h6 h7 h8 hn h9 zD CS=>
  intro Ym wj a1 a2;exact .two Ym m m' m2 g wj k n s op a x y cs ds (zD a1 (aK _)) h2 h3 (by omega) h5 h6 h7 (by omega) hn h9
theorem RXN.AG (h:RXN w N lo hi x cs):(∀k,lo<=k->k<hi->¬N k->¬N' k)->RXN w N' lo hi x cs:=by
 induction h with
 | leaf lo hi k n s op a=>exact fun _=>.leaf ..
 | one lo m g hi k n s op a x cs h1 h2 h3 h4 hn h5 ih=>
  intro hk;exact .one lo m g hi k n s op a x cs (ih fun j h6 h7=>hk j h6 (by omega)) h2 h3 h4 (hk g h2 h4 hn) h5
 | two lo m m' m2 g hi k n s op a x y cs ds h1 h2 h3 h4 h5 h6 h7 h8 hn h9 zD CS=>
  intro hk;exact .two lo m m' m2 g hi k n s op a x y cs ds (zD fun j a1 a2=>hk j a1 (by omega)) h2 (CS fun j a1 a2=>hk j (by omega) (by omega)) h4 h5 h6 h7 h8 (hk g (by omega) h8 hn) h9
theorem RXN.cells (h:RXN w N lo hi x cs):∃sl:Sl,cs=jy x.k x.n x.s x.op sl x.a/\(sl.n=x.cR.length):=by
 cases h with
 | leaf=>exact⟨_,rfl,rfl⟩
 | one=>exact⟨_,rfl,rfl⟩
 | two=>exact⟨_,rfl,rfl⟩
theorem RXN.only (h:RXN w N lo hi x cs) {bs:List Nat} (hO:ay bs w w') (hb:∀k,k∈bs->k<lo∨hi<=k∨N k):RXN w' N lo hi x cs:=
 h.keep fun k h1 h2 hn h3=>hO.block k h3 fun hm=>by
  rcases hb k hm with e | e | e
  ·omega
  ·omega
  ·exact hn e
end
theorem yj (w:av) (vs:List (List aw)) (hv:∀v,v∈vs->v.length=6) (h0:0<vs.length) (hm:vs.length<=100) {parts:Array (Nat×aw)} (hp:parts=(((vs.map fun v=>Value.agg v.toArray).zipIdx 0).map fun x=>(x.2,x.1)).toArray):
  ∃w',(au 49 vs.length parts).run aq w=.ok (Sl.v ⟨some ⟨w.heap.size,0,none⟩,vs.length,vs.length⟩) w'/\Blk w' w.heap.size 51 vs.flatten/\ay [] w w':=by
 have hc:((vs.map fun v=>Value.agg v.toArray).flatMap fun v=>v.cells.toList)=vs.flatten:=by
  clear hv h0 hm hp
  induction vs with
  | nil=>rfl
  | cons v vs ih=>rw[bg,List.flatMap_cons,ih,cE];rfl
 have hs:Tryz.t51.size=6:=rfl;have rl:=run_buildSlice (P:=aq) w 49 51 vs.length parts ((vs.map fun v=>Value.agg v.toArray).flatMap fun v=>v.cells.toList).toArray Tryz.t51 _ (by kernel_rfl) (by kernel_rfl) rfl (by rw[hs];omega) (by rw[hs];omega)
  (by
   subst hp;rw[eX,hs];refine Go.Great.fill_whole (s:=6) (by decide) (vs.map fun v=>Value.agg v.toArray) _ (fun v hm=>?_) ?_
   ·obtain⟨x,hx,rfl⟩:=jQ.1 hm;have:=hv x hx;simpa[Value.cells]using this
   ·simp)
 rw[hc]at rl;exact⟨_,rl,Blk.alloc w _ _,Only.alloc _ _⟩
def exT (v:aw):Prop:=∃(k n:Int) (s:aB) (op:Int) (sl:Sl) (a:Int),v=ah (jy k n s op sl a).toArray
def mQ (F G:Nat->Prop) (ts:List Tk) (w w':av) (b:Nat) (l sn:Sl) (d:Nat) (r:Pr) (v:aw):Prop:=ay [b] w w'/\match r with
 | .ok (x,j)=>∃cs,v=ah cs.toArray/\RX w' w.heap.size w'.heap.size x cs/\Rd F G ts w' b l sn j 0 0 (d:Int)
 | .error e=>e.1≠0/\exT v/\∃j,Rd F G ts w' b l sn j e.1 e.2 (d:Int)
section
variable {F G:Nat->Prop} {ts:List Tk} {w w':av} {b:Nat} {l sn:Sl} {i:Nat} {fc fa d:Int}
theorem eJ:(eF ts i).1≠0:=by
 unfold eF;dsimp only;split<;>decide
theorem DN {d:Nat} (hd:d<=20) (h:Rd F G ts w b l sn i 0 0 (d:Int)) (hi:i+1<ts.length) {g:Nat} {z1 z2:List aw} (hg:∀(x:Array aw) (w:av),(callFunc g x).run aq w=.ok (.enter g x) w) (f:OV) (hf:f.v=.func (.func g) z1.toArray z2.toArray) {r:Pr}
  (hr:d≠20->∀w1,ay [b] w w1->Rd F G ts w1 b l sn (i+1) 0 0 ((d+1:Nat):Int)->az aq g (z1++z2).toArray w1 fun e w'=>∃v,e=ak v/\mQ F G ts w1 w' b l sn (d+1) r v):
  az aq 330 #[ae (some ⟨b,0,none⟩),f.v] w fun e w'=>∃v,e=ak v/\mQ F G ts w w' b l sn d (gU d (tk ts i).a r) v:=by
 refine agj ⟨b,0,none⟩ f (fun v w'=>mQ F G ts w w' b l sn d (gU d (tk ts i).a r) v) w ?_;unfold Z7;intro k0 w0 hk wI bT;have hb:=h.lb;have h0:=h.only bT;refine⟨(d:Int),Blk.dI h0.blk 4 rfl,fun hc=>(BA h0 21).mono ?_,fun hc=>?_⟩
 ·have hc:d=20:=by have:(d:Int)=20:=(by simpa using hc);omega
  rintro _ w1 ⟨rfl,bZ,hR⟩;rw[if_pos rfl,if_pos rfl]at hR;have z1:=bZ.size;refine⟨rfl,bZ.same (by simp;omega),fun w2 cp=>⟨?_,?_⟩⟩
  ·exact((bT.weaken (bs':=[b]) fun _ h=>(by cases h)).trans bZ fun x hx=>.inl hx).new cp hk
  ·rw[gU,if_pos hc];exact⟨(by decide:(21:Int)≠0),⟨0,0,[],0,Sl.nil,0,rfl⟩,i,hR.own cp (by simp;omega)⟩
 ·have hc:d≠20:=fun e=>by subst e;simp at hc
  have Om:=h.big;refine⟨(i:Int),Blk.dI h0.blk 1 rfl,b,1,_,_,rfl,h0.blk,by simp,by omega,fun w3 cO sK=>?_⟩;rw[fy (by omega) (by omega)]at sK;have h3:Rd F G ts w3 b l sn (i+1) 0 0 (d:Int):=h0.jM cO sK hi;have z3:=cO.size;refine⟨(d:Int),Blk.dI h3.blk 4 rfl,b,4,_,_,rfl,h3.blk,by simp,by omega,fun w4 dm qj=>?_⟩;rw[fy (by omega) (by omega)]at qj;have h4:Rd F G ts w4 b l sn (i+1) 0 0 ((d+1:Nat):Int):=h3.jM dm qj hi;have z4:=dm.size;have oh:ay [b] w w4:=((bT.weaken (bs':=[b]) fun _ h=>(by cases h)).trans cO fun x hx=>.inl hx).trans dm fun x hx=>.inl hx;refine⟨g,z1,z2,hf,hg,?_⟩;have e:zq (zq z1 []) z2=z1++z2:=by unfold zq;rw[br]
  rw[e];refine(hr hc w4 oh h4).mono ?_;rintro _ w6 ⟨v,rfl,dG,hd⟩;have z6:=dG.size;rw[gU,if_neg hc];have hv:∃(k n:Int) (s:aB) (op:Int) (sl:Sl) (a:Int),v=ah (jy k n s op sl a).toArray:=by
   cases r with
   | error e=>exact hd.2.1
   | ok q=>
    obtain⟨cs,rfl,hx,_⟩:=hd;obtain⟨sl,rfl,_⟩:=hx.cells;exact⟨_,_,_,_,_,_,rfl⟩
  obtain⟨vk,vn,vs,vo,vsl,va,rfl⟩:=hv;refine⟨_,_,_,_,_,_,rfl,dG.same (by simp;omega),fun k8 w7 hk8 RR fz=>?_⟩;have z7:=fz.size;have key:∀{j:Nat} {fc fa:Int},Rd F G ts w6 b l sn j fc fa ((d+1:Nat):Int)->∃i7:Int,Cells w7 (Addr.add ⟨b,0,none⟩ 4) [O U i7]/\∃k9 rn:Nat,∃z4:List aw,∃ou:Nat,(Addr.add ⟨b,0,none⟩ 4)=⟨k9,rn,none⟩/\Blk w7 k9 ou z4/\(rn+1)<=z4.length/\k0≠k9/\k8≠k9/\
    ∀w8:av,ay [k9] w7 w8->Blk w8 k9 ou (bO z4 rn [O U (ar U (i7-1))])->∀w9:av,ay [k0] w8 w9->ay [b] w w9/\ay [b,k0] w6 w9/\Rd F G ts w9 b l sn j fc fa (d:Int):=fun{j fc fa} h6=>by
   have h7:=h6.only fz;refine⟨((d+1:Nat):Int),Blk.dI h7.blk 4 rfl,b,4,_,_,rfl,h7.blk,by simp,by omega,by omega,fun w8 fh wm w9 fK=>?_⟩;have ed:((d+1:Nat):Int)-1=d:=by omega
   rw[ed,fy (by omega) (by omega)]at wm;have h8:Rd F G ts w8 b l sn j fc fa (d:Int):=h7.jM fh wm h7.lt;have adF:ay [b,k0] w6 w9:=((fz.weaken (bs':=[b,k0]) fun _ h=>(by cases h)).trans fh fun x hx=>.inl (by simp only[aF]at hx;simp[hx])).trans fK fun x hx=>.inl (by simp only[aF]at hx;simp[hx]);exact⟨(oh.trans dG fun x hx=>.inl hx).trans adF (fun x hx=>by
    simp only[aL,aU,bM]at hx;rcases hx with rfl | rfl
    ·exact .inl (by simp)
    ·exact .inr hk),adF,h8.own fK (by simp;omega)⟩
  have Yn:=hd;cases r with
  | error e=>
   obtain⟨h1,h2,j,h3⟩:=Yn;obtain⟨i7,k1,k9,rn,z,ou,k2,k3,k4,k5,k6,k7⟩:=key h3;refine⟨i7,k1,k9,rn,z,ou,k2,k3,k4,k5,k6,fun w8 fh wm w9 fK=>?_⟩;obtain⟨a1,a2,a3⟩:=k7 w8 fh wm w9 fK;exact⟨a1,h1,h2,j,a3⟩
  | ok q=>
   obtain⟨x,j⟩:=q;obtain⟨cs,h1,h2,h3⟩:=Yn;obtain⟨i7,k1,k9,rn,z,ou,k2,k3,k4,k5,k6,k7⟩:=key h3;refine⟨i7,k1,k9,rn,z,ou,k2,k3,k4,k5,k6,fun w8 fh wm w9 fK=>?_⟩;obtain⟨a1,a2,a3⟩:=k7 w8 fh wm w9 fK;have z9:=a2.size;exact⟨a1,cs,h1,(h2.only a2 fun k hk=>.inl (by simp only[aL,aU,bM]at hk;omega)).wide (by omega) z9,a3⟩
end
section
variable {F G:Nat->Prop} {ts:List Tk} {w w':av} {b:Nat} {l sn:Sl} {i:Nat} {fc fa d:Int}
theorem mQ.nj {w w':av} {d:Nat} {r:Pr} {v:aw} (h:mQ F G ts w w' b l sn d r v):exT v:=by
 obtain⟨_,h⟩:=h;cases r with
 | error e=>exact h.2.1
 | ok q=>
  obtain⟨cs,rfl,hx,_⟩:=h;obtain⟨sl,rfl,_⟩:=hx.cells;exact⟨_,_,_,_,_,_,rfl⟩
theorem mQ.yU {w0 w1 w2 w3:av} {d:Nat} {r:Pr} {v:aw} (h:mQ F G ts w1 w2 b l sn d r v) (bT:ay [b] w0 w1) {bs:List Nat} (cp:ay bs w2 w3) (hb:∀x,x∈bs->b<x/\w0.heap.size<=x/\x<w1.heap.size):mQ F G ts w0 w3 b l sn d r v:=by
 obtain⟨hO,h⟩:=h;have z0:=bT.size;have z1:=hO.size;have z2:=cp.size;refine⟨(bT.trans hO fun x hx=>.inl hx).trans cp fun x hx=>.inr (hb x hx).2.1,?_⟩;cases r with
 | error e=>
  obtain⟨h1,h2,j,h3⟩:=h;exact⟨h1,h2,j,h3.own cp fun x hx=>(hb x hx).1⟩
 | ok q=>
  obtain⟨cs,h1,h2,h3⟩:=h;exact⟨cs,h1,(h2.only cp fun x hx=>.inl (hb x hx).2.2).wide z0 z2,h3.own cp fun x hx=>(hb x hx).1⟩
theorem abL {d:Nat} {r:Pr} {k0:Nat} (h:Rd F G ts w b l sn i 0 0 (d:Int)) (hk:b<k0) (hB:Blk w k0 327 [ae (some ⟨b,0,none⟩)])
  (hE:∀w1,ay [] w w1->az aq 306 #[ae (some ⟨b,0,none⟩),O U 0] w1 fun e w'=>∃v,e=ak v/\mQ F G ts w1 w' b l sn d r v):
  az aq 331 #[ae (some ⟨k0,0,none⟩)] w fun e w'=>∃v,e=ak v/\mQ F G ts w w' b l sn d (pJ ts r) v:=by
 refine agl ⟨k0,0,none⟩ (fun v w'=>mQ F G ts w w' b l sn d (pJ ts r) v) w ?_;unfold Z9;intro k1 w0 jO jb bT;have hb:=h.lb;have AM:Blk w0 k0 327 [ae (some ⟨b,0,none⟩)]:=bT.blk hB (by simp);have Oo:=hB.lt;refine⟨_,Blk.dI AM 0 rfl,(hE w0 bT).mono ?_⟩;rintro _ w1 ⟨v,rfl,hd⟩;obtain⟨k,n,s,op,sl,a,rfl⟩:=hd.nj;have z1:=hd.1.size;refine⟨_,_,_,_,_,_,rfl,hd.1.same (by simp;omega),fun k2 w2 nW nD cp=>?_⟩;have z2:=cp.size;have kC:Blk w2 k0 327 [ae (some ⟨b,0,none⟩)]:=cp.blk (hd.1.blk AM (by simp;omega)) (by simp);refine⟨_,Blk.dI kC 0 rfl,_,rfl,?_⟩;obtain⟨bZ,hd⟩:=hd;have iO:ay [b] w w2:=((bT.weaken fun _ h=>(by cases h)).trans bZ fun x hx=>.inl hx).bP cp;cases r with
 | error e=>
  obtain⟨h1,h2,j,h3⟩:=hd;have h3:=h3.only cp;refine(yh h3 [41]).mono ?_;rintro _ w3 ⟨rfl,cO,hR⟩;rw[if_neg (by simp[h1]),if_neg h1,if_neg h1]at hR;refine⟨rfl,cO.same (by simp;omega),fun w4 dm=>⟨((iO.trans cO fun x hx=>.inl hx).new dm jO),h1,⟨_,_,_,_,_,_,rfl⟩,j,hR.own dm (by simp;omega)⟩⟩
 | ok q=>
  obtain⟨x,j⟩:=q;obtain⟨cs,h1,h2,h3⟩:=hd;have h3:=h3.only cp;refine(yh h3 [41]).mono ?_;rintro _ w3 ⟨rfl,cO,hR⟩;have z3:=cO.size;refine⟨rfl,cO.same (by simp;omega),fun w4 dm=>⟨((iO.trans cO fun x hx=>.inl hx).new dm jO),?_⟩⟩;have z4:=dm.size;by_cases hs:sg ts j [41]=true
  ·rw[if_pos (by simp[hs])]at hR;simp only[pJ,hs,if_true];exact⟨cs,h1,(((h2.only cp (by simp)).only cO fun k hk=>.inl (by simp only[aF]at hk;omega)).only dm fun k hk=>.inl (by simp only[aF]at hk;omega)).wide (by omega) (by omega),hR.own dm (by simp;omega)⟩
  ·rw[if_neg (by simp[hs]),if_pos rfl,if_pos rfl]at hR;simp only[pJ,hs,iy];exact⟨eJ,⟨_,_,_,_,_,_,rfl⟩,j,hR.own dm (by simp;omega)⟩
theorem Vg {f d:Nat} (hd:d<=20) (h:Rd F G ts w b l sn i 0 0 (d:Int))
  (hE:d≠20->∀w i,Rd F G ts w b l sn i 0 0 ((d+1:Nat):Int)->az aq 306 #[ae (some ⟨b,0,none⟩),O U 0] w fun e w'=>∃v,e=ak v/\mQ F G ts w w' b l sn (d+1) (cx ts f 0 (d+1) i) v)
  (WB:d≠20->∀w i,Rd F G ts w b l sn i 0 0 ((d+1:Nat):Int)->az aq 318 #[ae (some ⟨b,0,none⟩)] w fun e w'=>∃v,e=ak v/\mQ F G ts w w' b l sn (d+1) (cx ts f 6 (d+1) i) v):
  az aq 318 #[ae (some ⟨b,0,none⟩)] w fun e w'=>∃v,e=ak v/\mQ F G ts w w' b l sn d (cx ts (f+1) 6 d i) v:=by
 have eR:cx ts (f+1) 6 d i=mz ts (cx ts f 0 (d+1)) (cx ts f 6 (d+1)) d i:=by rw[cx,if_pos rfl]
 rw[eR];generalize hgE:cx ts f 0 (d+1)=E0 at*
 generalize hgO:cx ts f 6 (d+1)=One at*
 generalize hR:mz ts E0 One d i=R;rw[mz]at hR;refine agh ⟨b,0,none⟩ (fun v w'=>mQ F G ts w w' b l sn d R v) w ?_;unfold Z5;intro k0 k1 w0 gN dJ jO jb bT;have hb:=h.lb;refine(DM (h.only bT)).mono ?_;rintro _ w1 ⟨rfl,bZ⟩;have z1:=bZ.size;have fb:=bT.bP bZ;refine⟨_,_,_,_,rfl,bZ.same (by simp;omega),fun k2 k3 w2 nW nD I5 yX cp=>?_⟩;have z2:=cp.size;have z0:=bT.size;have iO:=fb.bP cp;have h2:=h.only iO;have Om:=h.big;have sm:∀{u u':av},w2.heap.size<=u.heap.size->ay [b] u u'->aR [k0,k1,k2,k3] u u':=fun hu hO=>hO.same (by intro x hx;simp only[aL,aU,bM]at hx⊢;omega);have PQ:∀{u u':av},w2.heap.size<=u.heap.size->ay [] u u'->aR [k0,k1,k2,k3] u u':=fun hu hO=>hO.same (by intro x hx;simp only[aL,aU,bM]at hx;exact⟨by omega,by simp⟩);refine⟨fun q _ _ _ _ _ _ vk vn vs vo vl va w'=>q=some ⟨b,0,none⟩/\ay [] w w'/\(tk ts i).k≠5/\∃t,vs=T t/\vl=Sl.nil/\R=.ok (.mk vk vn t vo [] va,i+1),?_,?_⟩
 ·rintro _ _ _ _ _ _ _ vk vn _ vo _ va w3 ⟨rfl,cO,gf,t,rfl,rfl,yY⟩;have h3:=h.only cO;have hn:=h.en.next h.lt gf;refine⟨_,rfl,(i:Int),Blk.dI h3.blk 1 rfl,_,rfl,b,1,_,_,rfl,h3.blk,by simp,by omega,by omega,by omega,by omega,fun w4 dm qj w5 dS=>?_⟩;rw[fy (by omega) (by omega)]at qj;have h4:Rd F G ts w4 b l sn (i+1) 0 0 (d:Int):=h3.jM dm qj hn;rw[yY];refine⟨((cO.weaken (bs':=[b]) fun _ h=>(by cases h)).trans dm fun x hx=>.inl hx).new dS (by omega),_,rfl,.leaf ..,h4.own dS (by simp;omega)⟩
 refine(zX h2).mono ?_;rintro _ w6 ⟨rfl,dG⟩;have z6:=dG.size;have h6:=h2.only dG;refine⟨_,rfl,PQ (by omega) dG,fun hc=>(by simp at hc),fun _=>?_⟩;obtain⟨s8,w8,k8,fh,hc8⟩:=is2 h6;have z8:=fh.size;refine⟨s8,w8,k8,PQ (by omega) fh,hc8.mono ?_⟩;rintro _ w9 ⟨rfl,fK⟩;have z9:=fK.size;have ru:=dG.bP (fh.bP fK);have h9:=h2.only ru;rw[show((0:Int)==0)=true from rfl,bK];have Oq:=iO.bP ru;refine⟨_,rfl,PQ (by omega) fK,fun hc cK dy=>?_,fun hc=>?_⟩
 ·rw[if_pos hc]at hR;have gf:(tk ts i).k≠5:=by
   rcases bS _ _▸hc with e | e<;>exact sw e
  have hn:=h.en.next h.lt gf;have key:∀op:Int,op=(if(tk ts i).t=[33]then 15 else 14)->∀cY,ay [] w cY->w2.heap.size<=cY.heap.size->_:=fun op nu cY dP WC=>DN hd (h.only dP) hn (g:=318) (z1:=[ae (some ⟨b,0,none⟩)]) (z2:=[]) (kg (by kernel_rfl)) ⟨.func (.func 318) #[ae (some ⟨b,0,none⟩)] #[],rfl⟩ rfl (r:=One (i+1)) fun WD w1 _ h1=>WB WD w1 (i+1) h1;refine⟨fun k n s op sl a w'=>k=4/\n=0/\s=T []/\op=(if(tk ts i).t=[33]then 15 else 14)/\sl=Sl.nil/\a=(tk ts i).a/\ay [] w w'/\w2.heap.size<=w'.heap.size,?_,?_,?_⟩
  ·rintro _ _ _ _ _ _ cY ⟨rfl,rfl,rfl,nu,rfl,rfl,dP,WC⟩;refine(key _ nu cY dP WC).mono ?_;rintro _ dz ⟨v,rfl,hD⟩;obtain⟨vk,vn,vs,vo,vl,va,rfl⟩:=hD.nj;have z12:=hD.1.size;obtain⟨dF,sY,ry,dq⟩:=yj dz [jy vk vn vs vo vl va] (by simp) (by simp) (by simp) (parts:=#[(0,ah (jy vk vn vs vo vl va).toArray)]) rfl;refine⟨_,_,_,_,_,_,rfl,sm WC hD.1,⟨some ⟨dz.heap.size,0,none⟩,1,1⟩,dF,sY,PQ (by omega) dq,fun eI eh=>?_⟩;have KT:=dq.size;have WE:=eh.size;have hOf:ay [b] w eI:=(((dP.weaken (bs':=[b]) fun _ h=>(by cases h)).trans hD.1 fun x hx=>.inl hx).bP dq).trans eh fun x hx=>.inr (by simp only[aL,aU,bM]at hx;omega);have hob:∀x,x∈[k1,k3]->b<x:=by simp;omega
   have hoo:∀x,x∈[k1,k3]->x<cY.heap.size:=by simp;omega
   refine⟨hOf,?_⟩;obtain⟨_,hD⟩:=hD;rw[<-hR];cases hN:gU d (tk ts i).a (One (i+1))with
   | error e=>
    rw[hN]at hD;obtain⟨a1,a2,j,a3⟩:=hD;exact⟨a1,⟨_,_,_,_,_,_,rfl⟩,j,(a3.only dq).own eh hob⟩
   | ok q=>
    obtain⟨x,j⟩:=q;rw[hN]at hD;obtain⟨cs,a1,a2,a3⟩:=hD;refine⟨_,rfl,?_,(a3.only dq).own eh hob⟩;have kH:(jy vk vn vs vo vl va)=cs:=bp Array.toList (Value.agg.inj a1);rw[nu];have aiU:RX eI cY.heap.size dz.heap.size x cs:=(a2.only dq (by simp)).only eh fun k hk=>.inl (hoo k hk);have EZ:Blk eI dz.heap.size 51 cs:=by
     have:=eh.blk ry fun hm=>by have:=hoo _ hm;omega
     rw[cE,KE,br]at this;rw[<-kH];exact this
    exact .one w.heap.size dz.heap.size dz.heap.size _ _ _ _ _ _ x cs (aiU.wide (by omega) (aK _)) (by omega) (aK _) (by have:=ry.lt;omega) id EZ
  ·rw[show(ao #[33])=T [33]from rfl,gV];intro he fQ jN;have he:=aG he;exact⟨rfl,rfl,rfl,by rw[if_pos he],rfl,rfl,(Oq.new dy (by omega)).new jN (by omega),by have:=jN.size;have:=dy.size;omega⟩
  ·rw[show(ao #[33])=T [33]from rfl,gV];intro he;have he:=aI he;exact⟨rfl,rfl,rfl,by rw[if_neg he],rfl,rfl,Oq.new dy (by omega),by have:=dy.size;omega⟩
 ·rw[if_neg (by rw[hc];decide)]at hR;obtain⟨RJ,gP,ES,jD,aiV⟩:=is1 h9 [40];have z16:=jD.size;refine⟨RJ,gP,ES,PQ (by omega) jD,aiV.mono ?_⟩;rintro _ fY ⟨rfl,iP⟩;have z17:=iP.size;have I6:=Oq.bP (jD.bP iP);have PR:=h.only I6;have GL:ay [b] w fY:=I6.weaken fun _ h=>(by cases h)
  rw[show((0:Int)==0)=true from rfl,bK];refine⟨_,rfl,PQ (by omega) iP,fun hp hB _ _ _=>?_,fun hp=>?_⟩
  ·rw[if_pos hp]at hR;have hn:=h.en.next h.lt (sw hp);subst hR;refine(DN hd PR hn (g:=331) (z1:=[]) (z2:=[ae (some ⟨k0,0,none⟩)]) (kg (by kernel_rfl)) ⟨.func (.func 331) #[] #[ae (some ⟨k0,0,none⟩)],rfl⟩ rfl (r:=pJ ts (E0 (i+1))) fun WD w1 bZ h1=>abL h1 (by omega) (bZ.blk hB (by simp;omega)) fun w1' aiX=>hE WD w1' (i+1) (h1.only aiX)).mono ?_;rintro _ iv ⟨v,rfl,hD⟩;obtain⟨vk,vn,vs,vo,vl,va,rfl⟩:=hD.nj;have z18:=hD.1.size;refine⟨_,_,_,_,_,_,rfl,hD.1.same (by simp;omega),_,hD.1.blk hB (by simp;omega),fun ji kJ _=>?_⟩;exact hD.yU GL kJ (by simp;omega)
  rw[if_neg (by rw[hp];decide)]at hR;have hp':(tk ts i).k≠5->i+1<ts.length:=h.en.next h.lt;refine⟨fun hi iw kB _ _ _ _ _ gf=>⟨fun k=>k=k2,rfl,fun e=>gf e.symm,fun e=>gf e.symm,fun j9 ix=>?_⟩,fun hi=>⟨fun hv nU qp _ _ _ _ _ gf=>⟨fun k=>k=k2,rfl,fun e=>gf e.symm,fun e=>gf e.symm,fun pc rz=>?_⟩,fun hv=>⟨fun hw=>?_,fun hw=>?_⟩⟩⟩
  ·have hi:(tk ts i).k=3:=by simpa using hi
   rw[if_pos hi]at hR;exact⟨rfl,(I6.bP kB).new ix (by omega),by rw[hi];decide,[],rfl,rfl,hR.symm⟩
  ·have hi:¬(tk ts i).k=3:=by simpa using hi
   have hv:(tk ts i).k=1:=by simpa using hv
   rw[if_neg hi,if_pos hv]at hR;exact⟨rfl,(I6.bP qp).new rz (by omega),by rw[hv];decide,_,rfl,rfl,hR.symm⟩
  ·have hi:¬(tk ts i).k=3:=by simpa using hi
   have hv:¬(tk ts i).k=1:=by simpa using hv
   rw[show(ao #[105,110])=T [105,110]from rfl,gV]at hw;have hw:(tk ts i).k=2/\(tk ts i).t=[105,110]:=by simpa using hw
   rw[if_neg hi,if_neg hv,if_pos hw]at hR;have hn:=hp' (by rw[hw.1];decide);refine⟨(i:Int),Blk.dI PR.blk 1 rfl,b,1,_,_,rfl,PR.blk,by simp,by omega,by omega,by omega,by omega,fun qg zE adG=>?_⟩;rw[fy (by omega) (by omega)]at adG;have h24:Rd F G ts qg b l sn (i+1) 0 0 (d:Int):=PR.jM zE adG hn;have z24:=zE.size;refine(yh h24 [40]).mono ?_;rintro _ mL ⟨rfl,Cw,RS⟩;have z25:=Cw.size;refine⟨rfl,sm (by omega) Cw,?_⟩;have Ul:ay [b] w mL:=(GL.trans zE fun x hx=>.inl hx).trans Cw fun x hx=>.inl hx;have bad:∀{j:Nat} {c a:Int},Rd F G ts mL b l sn j c a (d:Int)->c≠0->az aq 333 #[ae (some ⟨b,0,none⟩)] mL fun e w'=>e=ak (ab (T []))/\ay [b] mL w'/\Rd F G ts w' b l sn j c a (d:Int):=fun{j c a} RT hc=>by
    refine(HA RT).mono ?_;rintro e oe ⟨jc,hh⟩;rw[if_neg (fun hh=>hc hh.1),if_neg hc,if_neg hc]at hh;exact⟨hh.1,jc,hh.2⟩
   have adI:∀{oe pT:av} {j:Nat} {c a:Int},ay [b] mL oe->ay [k3] oe pT->Rd F G ts oe b l sn j c a (d:Int)->c≠0->R=.error (c,a)->∀s6:asw,az aq 332 #[ae (some (Addr.add ⟨b,0,none⟩ 0)),ab (ao #[41])] pT fun e8 tI=>e8=(ak (ai #[]))/\aR [k0,k1,k2,k3] pT tI/\∀wD:av,ay [k1] tI wD->mQ F G ts w wD b l sn d R (ah #[O U 3,O U 0,ab s6,O U 0,Sl.nil.v,O U (tk ts i).a]):=fun{oe pT j c a} jc pe h26 hc yY s6=>by
    have z26:=jc.size;have z27:=pe.size;refine(yh (h26.own pe (by simp;omega)) [41]).mono ?_;rintro _ tI ⟨rfl,sL,GM⟩;rw[if_neg (by simp[hc]),if_neg hc,if_neg hc]at GM;refine⟨rfl,sm (by omega) sL,fun wD ru=>?_⟩;rw[yY];refine⟨((((Ul.trans jc fun x hx=>.inl hx).new pe (by omega)).trans sL fun x hx=>.inl hx).new ru (by omega)),hc,⟨3,0,s6.data.toList,0,Sl.nil,_,by unfold jy;rw[<-uX]⟩,j,GM.own ru (by simp;omega)⟩
   by_cases h1:sg ts (i+1) [40]=true
   ·rw[if_pos (by simp[h1])]at RS;rw[yf,if_pos h1]at hR;refine(HA RS).mono ?_;rintro _ oe ⟨jc,hh⟩;have z26:=jc.size;by_cases h2:(tk ts (i+2)).k=1
    ·rw[if_pos ⟨rfl,h2⟩]at hh;obtain⟨rfl,Ot⟩:=hh;rw[if_pos h2]at hR;refine⟨_,rfl,sm (by omega) jc,fun pT pe=>?_⟩;have z27:=pe.size;have h27:=Ot.own pe (by simp;omega);refine(yh h27 [41]).mono ?_;rintro _ tI ⟨rfl,sL,GM⟩;refine⟨rfl,sm (by omega) sL,fun wD ru=>?_⟩;have hOf:ay [b] w wD:=(((Ul.trans jc fun x hx=>.inl hx).new pe (by omega)).trans sL fun x hx=>.inl hx).new ru (by omega);refine⟨hOf,?_⟩;by_cases h3:sg ts (i+3) [41]=true
     ·rw[if_pos (by simp[h3])]at GM;rw[if_pos h3]at hR;rw[<-hR];exact⟨_,rfl,.leaf ..,GM.own ru (by simp;omega)⟩
     ·rw[if_neg (by simp[h3]),if_pos rfl,if_pos rfl]at GM;rw[if_neg h3]at hR;rw[<-hR];exact⟨eJ,⟨_,_,_,_,_,_,rfl⟩,_,GM.own ru (by simp;omega)⟩
    ·rw[if_neg (fun hh=>h2 hh.2),if_pos rfl,if_pos rfl]at hh;obtain⟨rfl,Ot⟩:=hh;rw[if_neg h2]at hR;exact⟨_,rfl,sm (by omega) jc,fun pT pe=>adI jc pe Ot eJ hR.symm _⟩
   ·rw[if_neg (by simp[h1]),if_pos rfl,if_pos rfl]at RS;rw[yf,if_neg h1]at hR;refine(bad RS eJ).mono ?_;rintro _ oe ⟨rfl,jc,Ot⟩;exact⟨_,rfl,sm (by omega) jc,fun pT pe=>adI jc pe Ot eJ hR.symm _⟩
  ·have hi:¬(tk ts i).k=3:=by simpa using hi
   have hv:¬(tk ts i).k=1:=by simpa using hv
   rw[show(ao #[105,110])=T [105,110]from rfl,gV]at hw;rw[if_neg hi,if_neg hv,if_neg (fun hh=>by rw[hh.1,hh.2]at hw;simp at hw)]at hR;refine(BB PR).mono ?_;rintro _ GJ ⟨rfl,adL,adM⟩;rw[if_pos rfl,if_pos rfl]at adM;refine⟨rfl,sm (by omega) adL,fun PO Ou=>⟨(GL.trans adL fun x hx=>.inl hx).new Ou (by omega),?_⟩⟩;rw[<-hR];exact⟨eJ,⟨0,0,[],0,Sl.nil,_,rfl⟩,i,adM.own Ou (by simp;omega)⟩
end
section
variable {F G:Nat->Prop} {ts:List Tk} {w w':av} {b:Nat} {l sn:Sl} {i:Nat} {fc fa d:Int}
theorem zY {E:Nat->Pr} {k:Int} {g:Nat} {x:Ex} {j:Nat} (h:iE ts k j=0):gI ts E k g x j=.ok (x,j):=by
 cases g with
 | zero=>rfl
 | succ g=>rw[gI,if_pos h]
def At5 (F G:Nat->Prop) (ts:List Tk) (w:av) (b:Nat) (l sn:Sl) (d:Nat) (N:Nat->Prop) (E:Nat->Pr) (k:Int) (R:Pr) (nv:Nat) (op:Int) (cs:List aw) (w':av):Prop:=ay [b] w w'/\
 ((∃(c a:Int) (j:Nat),op=0/\c≠0/\R=.error (c,a)/\Rd F G ts w' b l sn j c a (d:Int))∨
  (∃(x:Ex) (j:Nat),op=iE ts k j/\RXN w' N w.heap.size w'.heap.size x cs/\Rd F G ts w' b l sn j 0 0 (d:Int)/\R=gI ts E k nv x j/\ts.length-j<=nv))
theorem JA {f k d:Nat} (WG:k<6) (h:Rd F G ts w b l sn i 0 0 (d:Int))
  (hE:∀w i,Rd F G ts w b l sn i 0 0 (d:Int)->az aq 306 #[ae (some ⟨b,0,none⟩),O U ((k+1:Nat):Int)] w fun e w'=>∃v,e=ak v/\mQ F G ts w w' b l sn d (cx ts f (k+1) d i) v):
  az aq 306 #[ae (some ⟨b,0,none⟩),O U (k:Int)] w fun e w'=>∃v,e=ak v/\mQ F G ts w w' b l sn d (cx ts (f+1) k d i) v:=by
 have eR:cx ts (f+1) k d i=yd (cx ts f (k+1) d i) fun x j=>gI ts (cx ts f (k+1) d) (k:Int) (ts.length-j) x j:=by rw[cx,if_neg (by omega)]
 rw[eR];have Ov:∀i x j,cx ts f (k+1) d i=.ok (x,j)->i<j:=fun i x j h=>jk f _ _ i h;generalize hgE:cx ts f (k+1) d=E at*
 generalize hR:(yd (E i) fun x j=>gI ts E (k:Int) (ts.length-j) x j)=R;refine Z4 ⟨b,0,none⟩ _ (fun v w'=>mQ F G ts w w' b l sn d R v) w ?_;unfold U6;have ek:ar U ((k:Int)+1)=((k+1:Nat):Int):=by rw[fy (by omega) (by omega)];rfl
 refine⟨fun hc=>absurd (by simpa using hc) (by omega:¬(k:Int)=6),fun _ k1 w3 jO jb cO=>?_⟩;have hb:=h.lb;rw[ek];refine(hE w3 i (h.only cO)).mono ?_;rintro _ w4 ⟨v,rfl,hD⟩;obtain⟨vk,vn,vs,vo,vl,va,rfl⟩:=hD.nj;have z3:=cO.size;have z4:=hD.1.size;refine⟨_,_,_,_,_,_,rfl,hD.1.same (by simp;omega),fun k2 w5 nW nD dS=>?_⟩;have z5:=dS.size;have yZ:ay [b] w w5:=((cO.weaken (bs':=[b]) fun _ h=>(by cases h)).trans hD.1 fun x hx=>.inl hx).bP dS;have sm:∀{u u':av},w5.heap.size<=u.heap.size->ay [b] u u'->aR [k1,k2] u u':=fun hu hO=>hO.same (by intro x hx;simp only[aL,aU,bM]at hx⊢;omega);have Om:=h.big;have kb:∃(j:Nat) (c a:Int),Rd F G ts w4 b l sn j c a (d:Int)/\∀w6,ay [] w4 w6->∃nv,At5 F G ts w b l sn d (fun q=>q=k1∨q=k2) E (k:Int) R nv (if c=0 then iE ts (k:Int) j else 0) (jy vk vn vs vo vl va) w6:=by
  obtain⟨dm,Cx⟩:=hD;have oh:ay [b] w w4:=(cO.weaken (bs':=[b]) fun _ h=>(by cases h)).trans dm fun x hx=>.inl hx;cases AH:E i with
  | error e=>
   rw[AH]at Cx hR;obtain⟨c,a⟩:=e;obtain⟨a1,a2,j,a3⟩:=Cx;exact⟨j,c,a,a3,fun w6 dG=>⟨0,oh.bP dG,.inl ⟨c,a,j,if_neg a1,a1,hR.symm,a3.only dG⟩⟩⟩
  | ok q=>
   obtain⟨x,j⟩:=q;rw[AH]at Cx hR;obtain⟨cs,a1,a2,a3⟩:=Cx;have kH:(jy vk vn vs vo vl va)=cs:=bp Array.toList (Value.agg.inj a1);rw[kH];exact⟨j,0,0,a3,fun w6 dG=>⟨ts.length-j,oh.bP dG,.inr ⟨x,j,if_pos rfl,((a2.only dG (by simp)).AG fun q h1 h2 _=>(by omega)).wide z3 dG.size,a3.only dG,hR.symm,aK _⟩⟩⟩
 obtain⟨j0,c0,a0,hR4,kb⟩:=kb;refine(yi (hR4.only dS) (k:Int)).mono ?_;rintro _ w6 ⟨rfl,dG⟩;have z6:=dG.size;obtain⟨nv0,hA0⟩:=kb w6 (dS.bP dG);refine⟨_,rfl,dG.same (by simp;omega),fun nv op i10 i11 s2 i12 l2 i13 w'=>w5.heap.size<=w'.heap.size/\At5 F G ts w b l sn d (fun q=>q=k1∨q=k2) E (k:Int) R nv op [O U i10,O U i11,ab s2,O U i12,l2.v,O U i13] w',nv0,⟨z6,hA0⟩,?_⟩;rintro nv op i10 i11 s2 i12 l2 i13 w7 ⟨z7,fz,hA⟩;refine⟨fun nu=>?_,fun nu eI eh=>?_⟩
 ·have nu:op≠0:=by simpa using nu
  rcases hA with⟨_,_,_,e,_⟩ | ⟨x,j,rfl,hX,zA,yY,hnv⟩
  ·exact absurd e nu
  have hn:=zA.en.next zA.lt (mH _ _ nu);obtain⟨g,rfl⟩:∃g,nv=g+1:=⟨nv-1,by omega⟩
  rw[gI,if_neg nu]at yY;refine⟨(j:Int),Blk.dI zA.blk 1 rfl,b,1,_,_,rfl,zA.blk,by simp,by omega,by omega,fun w8 fh wm=>?_⟩;rw[fy (by omega) (by omega)]at wm;have h8:Rd F G ts w8 b l sn (j+1) 0 0 (d:Int):=zA.jM fh wm hn;have z8:=fh.size;refine(hE w8 (j+1) h8).mono ?_;rintro _ w9 ⟨v,rfl,Ow⟩;obtain⟨yk,yn,ys,yo,yl,ya,rfl⟩:=Ow.nj;have z9:=Ow.1.size;refine⟨_,_,_,_,_,_,rfl,sm (by omega) Ow.1,fun k8 cK hk8 RR dy=>?_⟩;have GI:=dy.size;obtain⟨cY,ou,zF,dP⟩:=yj cK [[O U i10,O U i11,ab s2,O U i12,l2.v,O U i13],jy yk yn ys yo yl ya] (by simp) (by simp) (by simp) (parts:=#[(0,ah #[O U i10,O U i11,ab s2,O U i12,l2.v,O U i13]),(1,ah (jy yk yn ys yo yl ya).toArray)]) rfl;have E1:=dP.size;refine⟨⟨some ⟨cK.heap.size,0,none⟩,2,2⟩,cY,ou,dP.same (by simp;omega),fun dz ey=>?_⟩;have z12:=ey.size;have E2:ay [b] w dz:=((((fz.trans fh fun x hx=>.inl hx).trans Ow.1 fun x hx=>.inl hx).bP dy).bP dP).new ey (by omega);have rA:ay [k2] w9 dz:=((dy.bP dP).weaken (bs':=[k2]) fun _ h=>(by cases h)).trans ey fun x hx=>.inl hx;have GN:∃(j':Nat) (c a:Int),Rd F G ts w9 b l sn j' c a (d:Int)/\∀dF,ay [] dz dF->∃nv,nv<g+1/\At5 F G ts w b l sn d (fun q=>q=k1∨q=k2) E (k:Int) R nv (if c=0 then iE ts (k:Int) j' else 0) (jy 5 0 [] (iE ts (k:Int) j) ⟨some ⟨cK.heap.size,0,none⟩,2,2⟩ i13) dF:=by
   obtain⟨fK,Cx⟩:=Ow;cases AH:E (j+1)with
   | error e=>
    rw[AH]at Cx yY;obtain⟨c,a⟩:=e;obtain⟨a1,a2,j',a3⟩:=Cx;exact⟨j',c,a,a3,fun dF dq=>⟨0,by omega,E2.bP dq,.inl ⟨c,a,j',if_neg a1,a1,yY,(a3.own rA (by simp;omega)).only dq⟩⟩⟩
   | ok q=>
    obtain⟨y,j'⟩:=q;rw[AH]at Cx yY;obtain⟨cs,a1,a2,a3⟩:=Cx;have kH:(jy yk yn ys yo yl ya)=cs:=bp Array.toList (Value.agg.inj a1);have Yo:=Ov _ _ _ AH;obtain⟨xl,IZ,_⟩:=hX.cells;have hxa:i13=x.a:=by
     simp only[jy,qu,Value.int.injEq]at IZ;exact IZ.2.2.2.2.2.1.2
    refine⟨j',0,0,a3,fun dF dq=>⟨g,by omega,E2.bP dq,.inr ⟨.mk 5 0 [] (iE ts (k:Int) j) [x,y] x.a,j',if_pos rfl,?_,(a3.own rA (by simp;omega)).only dq,yY,?_⟩⟩⟩
    ·have KT:=dq.size;have Ox:ay [b,k2] w7 dF:=(((((fh.weaken (bs':=[b,k2]) fun x hx=>.inl (by simp only[aF]at hx;simp[hx])).trans fK fun x hx=>.inl (by simp only[aF]at hx;simp[hx])).trans rA fun x hx=>.inl (by simp only[aF]at hx;simp[hx])).bP dq))
     have Oy:ay [k2] w9 dF:=rA.bP dq;have ry:Blk dF cK.heap.size 51 ([O U i10,O U i11,ab s2,O U i12,l2.v,O U i13]++cs):=by
      have:=dq.blk (ey.blk zF (by simp;omega)) (by simp);rw[<-kH];simpa using this
     have Oz:RXN dF (fun q=>q=k1∨q=k2) w.heap.size w7.heap.size x [O U i10,O U i11,ab s2,O U i12,l2.v,O U i13]:=by
      exact hX.only Ox fun q hq=>by
       simp only[aL,aU,bM]at hq;rcases hq with rfl | rfl
       ·exact .inl hb
       ·exact .inr (.inr (.inr rfl))
     have WH:RXN dF (fun q=>q=k1∨q=k2) w8.heap.size w9.heap.size y cs:=(a2.only Oy fun q hq=>.inl (by simp only[aF]at hq;omega)).AG fun q h1 h2 _=>(by omega)
     rw[hxa];exact .two w.heap.size w7.heap.size w8.heap.size w9.heap.size cK.heap.size _ _ _ _ _ _ x y _ cs Oz z8 WH (by omega) (by omega) (by omega) (by omega) (by have:=ry.lt;omega) (by omega) ry
    ·omega
  obtain⟨j',c',a',hR9,GN⟩:=GN;refine(yi (hR9.own rA (by simp;omega)) (k:Int)).mono ?_;rintro _ dF ⟨rfl,dq⟩;obtain⟨nv',WI,Yp⟩:=GN dF dq;exact⟨_,rfl,dq.same (by simp;omega),nv',WI,by have:=dq.size;omega,Yp⟩
 ·have nu:op=0:=by simpa using nu
  refine⟨fz.new eh (by omega),?_⟩;rcases hA with⟨c,a,j,_,hc,yY,zA⟩ | ⟨x,j,PB,hX,zA,yY,hnv⟩
  ·rw[yY];exact⟨hc,⟨i10,i11,s2.data.toList,i12,l2,i13,by unfold jy;rw[<-uX]⟩,j,zA.own eh (by simp;omega)⟩
  ·rw[yY,zY (by rw[<-PB,nu])];exact⟨_,rfl,((hX.only eh fun q hq=>.inr (.inr (.inl (by simpa using hq)))).AG fun _ _ _ _ h=>h).wide (aK _) eh.size,zA.own eh (by simp;omega)⟩
theorem DP : ∀ f : Nat, (∀ (k d i : Nat) (w : av), k <= 6 -> d <= 20 -> eS k d <= f -> Rd F G ts w b l sn i 0 0 (d : Int) ->
      az aq 306 #[ae (some ⟨b, 0, none⟩), O U (k : Int)] w fun e w' => ∃ v, e = ak v /\ mQ F G ts w w' b l sn d (cx ts f k d i) v) /\
    (∀ (d i : Nat) (w : av), d <= 20 -> eS 6 d <= f -> Rd F G ts w b l sn i 0 0 (d : Int) ->
      az aq 318 #[ae (some ⟨b, 0, none⟩)] w fun e w' => ∃ v, e = ak v /\ mQ F G ts w w' b l sn d (cx ts f 6 d i) v)
  | 0 => ⟨fun k d i w hk hd hn => by unfold eS at hn; omega, fun d i w hd hn => by unfold eS at hn; omega⟩
  | f + 1 => by
    obtain ⟨zD, CS⟩ := DP f
    have one : ∀ (d i : Nat) (w : av), d <= 20 -> eS 6 d <= f + 1 -> Rd F G ts w b l sn i 0 0 (d : Int) ->
      az aq 318 #[ae (some ⟨b, 0, none⟩)] w fun e w' => ∃ v, e = ak v /\ mQ F G ts w w' b l sn d (cx ts (f + 1) 6 d i) v := fun d i w hd hn h => by
      unfold eS at hn
      exact Vg hd h (fun xp w i h => zD 0 (d + 1) i w (by omega) (by omega) (by unfold eS; omega) h) (fun xp w i h => CS (d + 1) i w (by omega) (by unfold eS; omega) h)
    refine ⟨fun k d i w hk hd hn h => ?_, one⟩
    by_cases h6 : k = 6
    · subst h6
      refine Z4 ⟨b, 0, none⟩ _ (fun v w' => mQ F G ts w w' b l sn d (cx ts (f + 1) 6 d i) v) w ?_
      unfold U6
      refine ⟨fun _ k0 w0 gN dJ bT => ?_, fun hc => absurd hc (by decide)⟩
      refine (one d i w0 hd hn (h.only bT)).mono ?_
      rintro _ w1 ⟨v, rfl, hD⟩
      obtain ⟨vk, vn, vs, vo, vl, va, rfl⟩ := hD.nj
      have hb := h.lb
      exact ⟨_, _, _, _, _, _, rfl, hD.1.same (by simp; omega), fun w2 cp => hD.yU (bT.weaken fun _ h => (by cases h)) cp (by simp; omega)⟩
    · unfold eS at hn
      exact JA (by omega) h fun w i h => zD (k + 1) d i w (by omega) hd (by unfold eS; omega) h
end
end Go.Proofs.YtmhoiicofhlgbaaGreatDoor.Con
