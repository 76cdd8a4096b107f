import Derived.Test.YtpbgcbdclnfpnaaGreatDoorQr4
set_option linter.unusedSectionVars false
set_option linter.unusedSimpArgs false
set_option linter.unusedVariables false
set_option maxRecDepth 100000
set_option maxHeartbeats 40000000
open Go.Value renaming int->O,string->ah,pointer->ai,agg->aj,tuple->ak,bool->ao
open Go.IntKind renaming i64->ae,wrap->av
open Go.Ending renaming returned->aq
open _root_.ByteArray renaming mk->ar
open _root_.Go.Proofs.Tryz renaming prog->au
open Go.Instr renaming buildSlice->aw
open Go renaming World->ay,Value->az,Calls->aB
open Go.Kt renaming Only->aA,SliceF->aD,Cells->aE,OnlyP->aF,Blk->aH
namespace Go.Proofs.YtpbgcbdclnfpnaaGreatDoor.Vc
open Go Go.RowKit Go.Kt
attribute [local irreducible] wpList
def ZS(l cu:Sl)(R:aI)(w:ay):Prop:=
 ∀(b:Nat) (b1:Nat) (Oz:ay),w.heap.size<=b->b<Oz.heap.size->w.heap.size<=b1->b1<Oz.heap.size->aA [] w Oz->
 ∃ad:Addr,(((↑(Sl.n cu):Int)==0)=false->dI cu 0 1 ad)/\
 ∃x1:Int,(((↑(Sl.n cu):Int)==0)=false->aE Oz ad [O ae x1])/\
 (((((↑(Sl.n cu):Int)==0)||(x1 !=0))=true->
 R (ao false) Oz)/\
 ((((↑(Sl.n cu):Int)==0)||(x1 !=0))=false->
 (1<=(Sl.n cu)/\(Sl.n cu)<=(Sl.c cu)/\(Sl.c cu)<=Sl.c cu)/\
 ∀(b2:Nat) (b3:Nat) (Uq:ay),Oz.heap.size<=b2->b2<Uq.heap.size->Oz.heap.size<=b3->b3<Uq.heap.size->aA [] Oz Uq->aH Uq b 32 [Sl.v l]->aH Uq b1 33 [Sl.v cu]->aH Uq b2 3 [O ae (↑(Sl.n cu):Int)]->aH Uq b3 84 [.func (.func 27) #[] #[ai (some ⟨b2,0,none⟩),ai (some ⟨b,0,none⟩),ai (some ⟨b1,0,none⟩),ai (some ⟨b3,0,none⟩)]]->
 ∃(I_:Nat->Bool->Int->ay->Prop) (nv1:Nat),I_ nv1 true 0 Uq/\
 ∀(nv:Nat) (qE:Bool) (t25:Int) (Ia:ay),I_ nv qE t25 Ia->
 (((decide (t25<(↑(Sl.n (Sl.cut cu 1 (Sl.n cu) (Sl.c cu) 1)):Int)))=true->
 ∃YE:Addr,dI (Sl.cut cu 1 (Sl.n cu) (Sl.c cu) 1) t25 1 YE/\
 ∀(_:aH Ia b 32 [Sl.v l]),∀(_:aH Ia b1 33 [Sl.v cu]),∀(_:aH Ia b2 3 [O ae (↑(Sl.n cu):Int)]),∀(_:aH Ia b3 84 [.func (.func 27) #[] #[ai (some ⟨b2,0,none⟩),ai (some ⟨b,0,none⟩),ai (some ⟨b1,0,none⟩),ai (some ⟨b3,0,none⟩)]]),
 ∃x2:Int,aE Ia YE [O ae x2]/\
 ∃tV:Addr,(qE=true->dI cu t25 1 tV)/\
 ∃x3:Int,(qE=true->aE Ia tV [O ae x3])/\
 ∃nv2:Nat,nv2<nv/\I_ nv2 (qE&&(decide (x2>x3))) (IntKind.i64.wrap (t25+1)) Ia)/\
 ((decide (t25<(↑(Sl.n (Sl.cut cu 1 (Sl.n cu) (Sl.c cu) 1)):Int)))=false->
 ∀(_:aH Ia b 32 [Sl.v l]),∀(_:aH Ia b1 33 [Sl.v cu]),∀(_:aH Ia b2 3 [O ae (↑(Sl.n cu):Int)]),∀(_:aH Ia b3 84 [.func (.func 27) #[] #[ai (some ⟨b2,0,none⟩),ai (some ⟨b,0,none⟩),ai (some ⟨b1,0,none⟩),ai (some ⟨b3,0,none⟩)]]),
 ∃J_:Bool->ay->Prop,(∀(t4:Bool) (w_7:ay),J_ t4 w_7->
 ∀(_:aH w_7 b 32 [Sl.v l]),∀(_:aH w_7 b1 33 [Sl.v cu]),∀(_:aH w_7 b3 84 [.func (.func 27) #[] #[ai (some ⟨b2,0,none⟩),ai (some ⟨b,0,none⟩),ai (some ⟨b1,0,none⟩),ai (some ⟨b3,0,none⟩)]]),
 R (ao t4) w_7)/\
 (((qE=true->
 aB au 27 #[O ae 0,ai (some ⟨b2,0,none⟩),ai (some ⟨b,0,none⟩),ai (some ⟨b1,0,none⟩),ai (some ⟨b3,0,none⟩)] Ia (λe w_8=>∃x4:Bool,e=aq (ao x4)/\cj [b,b1,b3] Ia w_8/\∃vb2:Int,aH w_8 b2 3 [O ae vb2]/\
 J_ (x4&&(vb2==0)) w_8))/\
 (qE=false->
 J_ false Ia)))))))
theorem amk(l cu:Sl)(R:aI)(w:ay)(h:ZS l cu R w):
  aB au 9 #[Sl.v l,Sl.v cu] w λe w'=>∃v,e=aq v/\R v w':=by
 unfold ZS at h;refine Zl (l:=[(0,Sl.v l),(1,Sl.v cu)]) Tryz.func9 rfl Tryz.ntmps9 (cG rfl) rfl (wp_seq (wp_region_lit (rX (wn rfl) ?_)));refine Xk (zs:=[Sl.v l]) rfl (λb w_ hn hO hb=>?_);have anr:w.heap.size<=b:=hn;have hA:aA [] w w_:=hO;refine rX (wn rfl) ?_;refine Xk (zs:=[Sl.v cu]) rfl (λb1 Oz hn1 cJ qC=>?_);have fX:b1≠b:=by have:=hb.lt;omega
 have ag8:w.heap.size<=b1:=bf hA.size hn1;have hA1:=hA.cy cJ;have ux:=cJ.blk hb aaa;refine sv (FP rfl) (wpList_nil (eC (wp_seq (wp_seq ?_))));replace h:=h b b1 Oz anr ux.lt ag8 qC.lt hA1;obtain⟨ad,hx,h⟩:=h;obtain⟨x1,hx1,h⟩:=h;refine wp_region_lit (sv (v:=Sl.v cu) (mo (Tryz.isAgg33 _) rfl (qC.cell 0)) (sv (P5 (s:=cu) (Tryz.runUnderlying33 _) rfl) (sv (Xl rfl rfl) (sv (yy rfl) ?_))));refine Zm 5 49 [(2,ai (some ⟨b,0,none⟩)),(3,ai (some ⟨b1,0,none⟩)),(18,ao (((↑(Sl.n cu):Int)==0)||(x1 !=0)))] ?_ ?_
 ·simp only[eB,da];rcases nl ((↑(Sl.n cu):Int)==0)with hg | hg
  ·refine H0 (uF rfl rfl rfl (bg hg) rfl) (H0 (uF rfl rfl rfl (bg hg) rfl) (H0 (uF rfl rfl rfl (bg hg) rfl) (H0 (uF rfl rfl rfl (bg hg) rfl) (sv (yW (bg hg) rfl) (wpList_nil ?_)))));exact wO ⟨rfl,rfl,(by rw[hg];rfl),trivial⟩
  refine Nj (v:=Sl.v cu) (uF rfl rfl rfl (bg hg) rfl) (mo (Tryz.isAgg33 _) rfl (qC.cell 0)) (Nj (v:=ai (some ad)) (uF rfl rfl rfl (bg hg) rfl) (zP (s:=cu) (Tryz.runUnderlying33 _) (Tryz.sizeOf3 _) rfl rfl (hx hg)) (Nj (v:=O ae x1) (uF rfl rfl rfl (bg hg) rfl) (mo (Tryz.isAgg3 _) rfl (Cells.one (hx1 hg))) (Nj (uF rfl rfl rfl (bg hg) rfl) (aed rfl rfl) (sv (vp (bg hg) rfl) (wpList_nil ?_)))));exact wO ⟨rfl,rfl,(by rw[hg];rfl),trivial⟩
 intro us;simp only[gp,fi];refine wpList_nil (eC ?_);refine Ko (t:=(((↑(Sl.n cu):Int)==0)||(x1 !=0))) rfl (λhc=>?_) (λhc=>?_)
 ·replace h:=h.1 hc;refine wp_seq (wp_region_lit (sv (FP rfl) (wpList_nil (eC (wp_ret (PU ?_))))));exact aeg Tryz.results9 ⟨rfl,trivial⟩ h
 replace h:=h.2 hc;refine wp_skip (eC (wp_seq (wp_region_lit (sv (v:=Sl.v cu) (mo (Tryz.isAgg33 _) rfl (qC.cell 0)) (sv (P5 (s:=cu) (Tryz.runUnderlying33 _) rfl) (rX (wn rfl) ?_))))));refine Kn (zs:=[O ae 0]) (Tryz.zeroValue3 _) rfl (λb2 w_2 hn2 dw hb3=>?_);have ans:b2≠b:=by have:=ux.lt;omega
 have JI:b2≠b1:=by have:=qC.lt;omega
 have YG:Oz.heap.size<=b2:=hn2;have hA2:aA [] Oz w_2:=dw;have Tt:=dw.blk ux aaa;have H8:=dw.blk qC aaa;refine rX (wn rfl) ?_;refine Km (vs:=[O ae (↑(Sl.n cu):Int)]) (cs':=[O ae (↑(Sl.n cu):Int)]) (Tryz.sizeOf3 _) rfl rfl rfl rfl hb3 (cG rfl) rfl (λw_3 dE hb6=>?_);have hA3:=hA2.new dE YG;have Tu:=dE.blk Tt (by simpa using(u9 ans));have hb8:=dE.blk H8 (by simpa using(u9 JI));refine wpList_nil (eC (wp_seq (wp_region_lit (rX (wn rfl) ?_))));refine Kn (zs:=[.nilFunc]) (Tryz.zeroValue84 _) rfl (λb3 w_4 hn3 dL hb9=>?_);have ant:b3≠b:=by have:=Tu.lt;omega
 have anu:b3≠b1:=by have:=hb8.lt;omega
 have anv:b3≠b2:=by have:=hb6.lt;omega
 have YH:Oz.heap.size<=b3:=bf hA3.size hn3;have hA4:=hA3.cy dL;have abw:=dL.blk Tu aaa;have anw:=dL.blk hb8 aaa;have anx:=dL.blk hb6 aaa;refine wpList_nil (eC (wp_seq (wp_region_lit (sv (v:=.func (.func 27) #[] #[ai (some ⟨b2,0,none⟩),ai (some ⟨b,0,none⟩),ai (some ⟨b1,0,none⟩),ai (some ⟨b3,0,none⟩)]) (Iw (fv:=[]) (cv:=[ai (some ⟨b2,0,none⟩),ai (some ⟨b,0,none⟩),ai (some ⟨b1,0,none⟩),ai (some ⟨b3,0,none⟩)]) rfl rfl) (rX (wn rfl) ?_)))));refine Km (vs:=[.func (.func 27) #[] #[ai (some ⟨b2,0,none⟩),ai (some ⟨b,0,none⟩),ai (some ⟨b1,0,none⟩),ai (some ⟨b3,0,none⟩)]]) (cs':=[.func (.func 27) #[] #[ai (some ⟨b2,0,none⟩),ai (some ⟨b,0,none⟩),ai (some ⟨b1,0,none⟩),ai (some ⟨b3,0,none⟩)]]) (Tryz.sizeOf84 _) rfl rfl rfl rfl hb9 (cG rfl) rfl (λUq eK WK=>?_);have hA5:=hA4.new eK YH;have ag9:=eK.blk abw (by simpa using(u9 ant));have abx:=eK.blk anw (by simpa using(u9 anu));have aby:=eK.blk anx (by simpa using(u9 anv));refine wpList_nil (eC (wp_seq (wp_region_lit (sv (FP rfl) (wpList_nil (eC (wp_seq (wp_seq (wp_region_lit (sv (v:=Sl.v cu) (mo (Tryz.isAgg33 _) rfl (abx.cell 0)) ?_))))))))));obtain⟨hx2,h⟩:=h;refine sv (v:=Sl.v (Sl.cut cu 1 (Sl.n cu) (Sl.c cu) 1)) (Ix (s:=cu) (Tryz.runUnderlying33 _) (Tryz.sizeOf3 _) rfl rfl (by first | exact hx2.1 | omega) (by first | exact hx2.2.1 | omega) (by first | exact hx2.2.2 | omega)) (sv (P5 (s:=Sl.cut cu 1 (Sl.n cu) (Sl.c cu) 1) (Tryz.runUnderlying33 _) rfl) (sv (yy rfl) (wpList_nil (eC (wp_block ?_)))));replace h:=h b2 b3 Uq YG aby.lt YH WK.lt hA5 ag9 abx aby WK;obtain⟨I_,nv1,h0,hI⟩:=h;refine wp_loop_ghost (λnv' a' w'=>∃qE:Bool,∃t25:Int,(∃us,a'=fr 49 us [(3,ai (some ⟨b1,0,none⟩)),(5,ai (some ⟨b2,0,none⟩)),(6,ai (some ⟨b3,0,none⟩)),(7,ao qE),(23,Sl.v (Sl.cut cu 1 (Sl.n cu) (Sl.c cu) 1)),(24,O ae (↑(Sl.n (Sl.cut cu 1 (Sl.n cu) (Sl.c cu) 1)):Int)),(25,O ae t25)])/\aH w' b 32 [Sl.v l]/\aH w' b1 33 [Sl.v cu]/\aH w' b2 3 [O ae (↑(Sl.n cu):Int)]/\aH w' b3 84 [.func (.func 27) #[] #[ai (some ⟨b2,0,none⟩),ai (some ⟨b,0,none⟩),ai (some ⟨b1,0,none⟩),ai (some ⟨b3,0,none⟩)]]/\I_ nv' qE t25 w') nv1 ?_ ?_
 ·exact⟨_,_,zO ⟨rfl,rfl,rfl,rfl,rfl,rfl,rfl,trivial⟩,ag9,abx,aby,WK,h0⟩
 clear h0;rintro nv _ Ia ⟨qE,t25,⟨us,rfl⟩,Tv,OA,abz,OB,h⟩;replace h:=hI _ _ _ _ h;refine wp_seq (wp_region_lit (sv (aee rfl rfl) (wpList_nil (eC (wp_seq ?_)))));refine Ko (t:=(decide (t25<(↑(Sl.n (Sl.cut cu 1 (Sl.n cu) (Sl.c cu) 1)):Int)))) rfl (λtu=>?_) (λtu=>?_)
 ·replace h:=h.1 tu;refine wp_skip (eC (wp_seq (wp_block (wp_seq (wp_region_lit (sv (yy rfl) ?_))))));obtain⟨YE,hx3,h⟩:=h;refine sv (v:=ai (some YE)) (zP (s:=Sl.cut cu 1 (Sl.n cu) (Sl.c cu) 1) (Tryz.runUnderlying33 _) (Tryz.sizeOf3 _) rfl rfl hx3) ?_;replace h:=h Tv OA abz OB;obtain⟨x2,hx4,h⟩:=h;refine sv (v:=O ae x2) (mo (Tryz.isAgg3 _) rfl (Cells.one hx4)) (sv (FP rfl) (sv (FP rfl) (wpList_nil (eC ?_))));obtain⟨tV,hx5,h⟩:=h;obtain⟨x3,hx6,h⟩:=h;refine wp_region_lit (sv (yy rfl) (sv (yy rfl) ?_));refine Zm 7 49 [(3,ai (some ⟨b1,0,none⟩)),(5,ai (some ⟨b2,0,none⟩)),(6,ai (some ⟨b3,0,none⟩)),(23,Sl.v (Sl.cut cu 1 (Sl.n cu) (Sl.c cu) 1)),(24,O ae (↑(Sl.n (Sl.cut cu 1 (Sl.n cu) (Sl.c cu) 1)):Int)),(25,O ae t25),(38,ao (qE&&(decide (x2>x3))))] ?_ ?_
  ·simp only[eB,da];rcases nl qE with Bs | Bs
   ·refine Nj (uF rfl rfl rfl (bg Bs) rfl) (yy rfl) (Nj (v:=Sl.v cu) (uF rfl rfl rfl (bg Bs) rfl) (mo (Tryz.isAgg33 _) rfl (OA.cell 0)) (Nj (uF rfl rfl rfl (bg Bs) rfl) (yy rfl) (Nj (v:=ai (some tV)) (uF rfl rfl rfl (bg Bs) rfl) (zP (s:=cu) (Tryz.runUnderlying33 _) (Tryz.sizeOf3 _) rfl rfl (hx5 Bs)) (Nj (v:=O ae x3) (uF rfl rfl rfl (bg Bs) rfl) (mo (Tryz.isAgg3 _) rfl (Cells.one (hx6 Bs))) (Nj (uF rfl rfl rfl (bg Bs) rfl) (aef rfl rfl) (sv (yW (bg Bs) rfl) (wpList_nil ?_)))))));exact wO ⟨rfl,rfl,rfl,rfl,rfl,rfl,(by rw[Bs];rfl),trivial⟩
   refine H0 (uF rfl rfl rfl (bg Bs) rfl) (H0 (uF rfl rfl rfl (bg Bs) rfl) (H0 (uF rfl rfl rfl (bg Bs) rfl) (H0 (uF rfl rfl rfl (bg Bs) rfl) (H0 (uF rfl rfl rfl (bg Bs) rfl) (H0 (uF rfl rfl rfl (bg Bs) rfl) (sv (vp (bg Bs) rfl) (wpList_nil ?_)))))));exact wO ⟨rfl,rfl,rfl,rfl,rfl,rfl,(by rw[Bs];rfl),trivial⟩
  intro us;simp only[gp,fi];refine sv (FP rfl) (wpList_nil (Ds (eC (wp_region_lit (sv (aec rfl rfl) (sv (yy rfl) (wpList_nil (eC ?_))))))));obtain⟨nv2,hl,h⟩:=h;exact⟨nv2,hl,_,_,zO ⟨rfl,rfl,rfl,rfl,rfl,rfl,rfl,trivial⟩,Tv,OA,abz,OB,h⟩
 replace h:=h.2 tu;refine wp_exit (B8 (B8 (B9 (eC (wp_seq ?_)))));replace h:=h Tv OA abz OB;obtain⟨J_,hJ,h⟩:=h;refine Zg (λa' w'=>∃t4:Bool,(∃us,a'=fr 49 us [(4,ao t4)])/\aH w' b 32 [Sl.v l]/\aH w' b1 33 [Sl.v cu]/\aH w' b3 84 [.func (.func 27) #[] #[ai (some ⟨b2,0,none⟩),ai (some ⟨b,0,none⟩),ai (some ⟨b1,0,none⟩),ai (some ⟨b3,0,none⟩)]]/\J_ t4 w') ?_ ?_
 ·clear h;rintro _ w_7 ⟨t4,⟨us1,rfl⟩,anA,anB,anC,h⟩;replace h:=hJ _ _ h
  first | refine wp_ret ?_ | refine eC (wp_ret ?_)
  replace h:=h anA anB anC;exact aeg Tryz.results9 ⟨rfl,trivial⟩ h
 refine wp_region_lit (sv (yy rfl) (sv (yy rfl) ?_));rcases nl qE with OC | OC
 ·replace h:=h.1 OC;refine Nj (v:=.func (.func 27) #[] #[ai (some ⟨b2,0,none⟩),ai (some ⟨b,0,none⟩),ai (some ⟨b1,0,none⟩),ai (some ⟨b3,0,none⟩)]) (uF rfl rfl rfl (bg OC) rfl) (mo (Tryz.isAgg84 _) rfl (OB.cell 0)) (rX (uF rfl rfl rfl (bg OC) rfl) ?_);refine UH (args:=#[O ae 0,ai (some ⟨b2,0,none⟩),ai (some ⟨b,0,none⟩),ai (some ⟨b1,0,none⟩),ai (some ⟨b3,0,none⟩)]) (P6 (first:=[]) (captured:=[ai (some ⟨b2,0,none⟩),ai (some ⟨b,0,none⟩),ai (some ⟨b1,0,none⟩),ai (some ⟨b3,0,none⟩)]) rfl Tryz.call27 rfl) (h.mono ?_);clear h;rintro _ w_8 ⟨x4,rfl,hs,vb2,anE,h⟩;refine⟨_,rfl,?_⟩;have anF:=hs.blk Tv aaa;have anG:=hs.blk OA aaa;have anH:=hs.blk OB aaa;refine sv (yW (bg OC) rfl) (sv (yy rfl) ?_);refine Zm 3 49 [(48,ao (x4&&(vb2==0)))] ?_ ?_
  ·simp only[eB,da];rcases nl x4 with WL | WL
   ·refine Nj (v:=O ae vb2) (uF rfl rfl rfl (bg WL) rfl) (mo (Tryz.isAgg3 _) rfl (anE.cell 0)) (Nj (uF rfl rfl rfl (bg WL) rfl) (Xl rfl rfl) (sv (yW (bg WL) rfl) (wpList_nil ?_)));exact wO ⟨(by rw[WL];rfl),trivial⟩
   refine H0 (uF rfl rfl rfl (bg WL) rfl) (H0 (uF rfl rfl rfl (bg WL) rfl) (sv (vp (bg WL) rfl) (wpList_nil ?_)));exact wO ⟨(by rw[WL];rfl),trivial⟩
  intro us;simp only[gp,fi];refine sv (FP rfl) (wpList_nil ?_);exact eC ⟨_,zO ⟨rfl,trivial⟩,anF,anG,anH,h⟩
 replace h:=h.2 OC;refine H0 (uF rfl rfl rfl (bg OC) rfl) (H0 (uF rfl rfl rfl (bg OC) rfl) (sv (vp (bg OC) rfl) (sv (yy rfl) (H0 (uF rfl rfl rfl rfl rfl) (H0 (uF rfl rfl rfl rfl rfl) (sv (vp rfl rfl) (sv (FP rfl) (wpList_nil ?_))))))));exact eC ⟨_,zO ⟨rfl,trivial⟩,Tv,OA,OB,h⟩
end Go.Proofs.YtpbgcbdclnfpnaaGreatDoor.Vc
namespace Go.Proofs
open Go.Shelf
def Tryz.ym:Go.Shelf.Ren:=⟨λ| 156=>202 | 165=>201 | 166=>175 | 169=>147 | 240=>199 | 241=>218 | 276=>215 | 277=>233 | n=>n,λ| 31=>132 | 9=>9 | 3=>3 | 4=>4 | 0=>0 | 20=>20 | 72=>216 | 76=>247 | 70=>213 | 37=>214 | 75=>246 | 127=>256 | 164=>281 | 5=>5 | 80=>225 | n=>n,λ| n=>n⟩
theorem Tryz.MG:Go.Proofs.Lays.n156 Tryz.prog Tryz.ym:={
 mixed:=by kernel_rfl
 f156:=Tryz.func202.trans (bh some (by kernel_rfl))
 f165:=Tryz.func201.trans (bh some (by kernel_rfl))
 f166:=Tryz.func175.trans (bh some (by kernel_rfl))
 f169:=Tryz.func147.trans (bh some (by kernel_rfl))
 f240:=Tryz.func199.trans (bh some (by kernel_rfl))
 f241:=Tryz.func218.trans (bh some (by kernel_rfl))
 f276:=Tryz.func215.trans (bh some (by kernel_rfl))
 f277:=Tryz.func233.trans (bh some (by kernel_rfl))
 t0:=Tryz.underlying0
 a0:=Tryz.isAgg0
 z0:=Tryz.sizeOf0
 v0:=Tryz.zeroValue0
 t3:=Tryz.underlying3
 a3:=Tryz.isAgg3
 z3:=Tryz.sizeOf3
 v3:=Tryz.zeroValue3
 t4:=Tryz.underlying4
 a4:=Tryz.isAgg4
 z4:=Tryz.sizeOf4
 v4:=Tryz.zeroValue4
 t9:=Tryz.underlying9
 a9:=Tryz.isAgg9
 z9:=Tryz.sizeOf9
 v9:=Tryz.zeroValue9
 t20:=Tryz.underlying20
 a20:=Tryz.isAgg20
 z20:=Tryz.sizeOf20
 v20:=Tryz.zeroValue20
 t31:=Tryz.underlying132
 a31:=Tryz.isAgg132
 z31:=Tryz.sizeOf132
 v31:=Tryz.zeroValue132
 t37:=Tryz.underlying214
 a37:=Tryz.isAgg214
 z37:=Tryz.sizeOf214
 v37:=Tryz.zeroValue214
 t70:=Tryz.underlying213
 a70:=Tryz.isAgg213
 z70:=Tryz.sizeOf213
 v70:=Tryz.zeroValue213
 t72:=Tryz.underlying216
 a72:=Tryz.isAgg216
 z72:=Tryz.sizeOf216
 v72:=Tryz.zeroValue216
 t75:=Tryz.underlying246
 a75:=Tryz.isAgg246
 z75:=Tryz.sizeOf246
 v75:=Tryz.zeroValue246
 t76:=Tryz.underlying247
 a76:=Tryz.isAgg247
 z76:=Tryz.sizeOf247
 v76:=Tryz.zeroValue247
 t127:=Tryz.underlying256
 a127:=Tryz.isAgg256
 z127:=Tryz.sizeOf256
 v127:=Tryz.zeroValue256
 t164:=Tryz.underlying281
 a164:=Tryz.isAgg281
 z164:=Tryz.sizeOf281
 v164:=Tryz.zeroValue281}
theorem Tryz.po:Builder.Extra Tryz.prog Tryz.ym:={
 sizeBuilder:=by kernel_rfl
 liesBuilder:=by kernel_rfl
 t5:=Tryz.underlying5
 a5:=Tryz.isAgg5
 z5:=Tryz.sizeOf5
 v5:=Tryz.zeroValue5
 infoByte:=by kernel_rfl
 cellsByte:=by kernel_rfl
 sizeByte:=by kernel_rfl
 neB5:=aN}
open Go.RowKit in
theorem Tryz.strings_Join_none (a:Option Addr) (c:Nat) (sep:ByteArray) (w:World):
 Calls Tryz.prog 202 #[.slice a 0 c,.string sep] w λe w'=>e=.returned (.string ⟨#[]⟩)/\w'=w:=Any.strings_Join_none Tryz.MG Tryz.po a c sep w
open Go.RowKit in
theorem Tryz.strings_Join (bk o c:Nat) (xs:List ByteArray) (sep:ByteArray) (w:World) (uX:∀(j:Nat) x,xs[j]? =some x->w.cell? ⟨bk,o+j,none⟩=some (.string x)) (Pk:bk<w.heap.size) (hN:xs.length<=140737488355328) (lC:xs.length<=c) (fl:(Lib.join (xs.map (·.data.toList)) sep.data.toList).length<=140737488355328):
 Calls Tryz.prog 202 #[.slice (some ⟨bk,o,none⟩) xs.length c,.string sep] w λe w'=>e=.returned (.string ⟨(Lib.join (xs.map (·.data.toList)) sep.data.toList).toArray⟩)/\Below w.heap.size w w':=Any.strings_Join Tryz.MG Tryz.po bk o c xs sep w uX Pk hN lC fl
def Tryz.EY:Go.Shelf.Ren:=⟨λ| 171=>179 | 243=>205 | 246=>220 | 283=>234 | 284=>235 | 285=>236 | 286=>237 | 129=>114 | 317=>250 | 318=>251 | 319=>252 | 320=>253 | 337=>269 | 338=>270 | n=>n,λ| 3=>3 | 9=>9 | 2=>2 | 4=>4 | 171=>300 | 0=>0 | 53=>186 | 37=>214 | 5=>5 | 173=>302 | 212=>320 | 51=>184 | 20=>20 | 213=>321 | 46=>136 | 232=>337 | 233=>338 | n=>n,λ| 17=>1 | 18=>4 | 19=>5 | n=>n⟩
theorem Tryz.SX:Go.Proofs.LaysM.n171 Tryz.prog Tryz.EY:={
 mixed:=by kernel_rfl
 f129:=Tryz.func114.trans (bh some (by kernel_rfl))
 f171:=Tryz.func179.trans (bh some (by kernel_rfl))
 f243:=Tryz.func205.trans (bh some (by kernel_rfl))
 f246:=Tryz.func220.trans (bh some (by kernel_rfl))
 f283:=Tryz.func234.trans (bh some (by kernel_rfl))
 f284:=Tryz.func235.trans (bh some (by kernel_rfl))
 f285:=Tryz.func236.trans (bh some (by kernel_rfl))
 f286:=Tryz.func237.trans (bh some (by kernel_rfl))
 f317:=Tryz.func250.trans (bh some (by kernel_rfl))
 f318:=Tryz.func251.trans (bh some (by kernel_rfl))
 f319:=Tryz.func252.trans (bh some (by kernel_rfl))
 f320:=Tryz.func253.trans (bh some (by kernel_rfl))
 f337:=Tryz.func269.trans (bh some (by kernel_rfl))
 f338:=Tryz.func270.trans (bh some (by kernel_rfl))
 t0:=Tryz.underlying0
 a0:=Tryz.isAgg0
 z0:=Tryz.sizeOf0
 v0:=Tryz.zeroValue0
 t2:=Tryz.underlying2
 a2:=Tryz.isAgg2
 z2:=Tryz.sizeOf2
 v2:=Tryz.zeroValue2
 t3:=Tryz.underlying3
 a3:=Tryz.isAgg3
 z3:=Tryz.sizeOf3
 v3:=Tryz.zeroValue3
 t4:=Tryz.underlying4
 a4:=Tryz.isAgg4
 z4:=Tryz.sizeOf4
 v4:=Tryz.zeroValue4
 t5:=Tryz.underlying5
 a5:=Tryz.isAgg5
 z5:=Tryz.sizeOf5
 v5:=Tryz.zeroValue5
 t9:=Tryz.underlying9
 a9:=Tryz.isAgg9
 z9:=Tryz.sizeOf9
 v9:=Tryz.zeroValue9
 t20:=Tryz.underlying20
 a20:=Tryz.isAgg20
 z20:=Tryz.sizeOf20
 v20:=Tryz.zeroValue20
 t37:=Tryz.underlying214
 a37:=Tryz.isAgg214
 z37:=Tryz.sizeOf214
 v37:=Tryz.zeroValue214
 t46:=Tryz.underlying136
 a46:=Tryz.isAgg136
 z46:=Tryz.sizeOf136
 v46:=Tryz.zeroValue136
 t51:=Tryz.underlying184
 a51:=Tryz.isAgg184
 z51:=Tryz.sizeOf184
 v51:=Tryz.zeroValue184
 t53:=Tryz.underlying186
 a53:=Tryz.isAgg186
 z53:=Tryz.sizeOf186
 v53:=Tryz.zeroValue186
 t171:=Tryz.underlying300
 a171:=Tryz.isAgg300
 z171:=Tryz.sizeOf300
 v171:=Tryz.zeroValue300
 t173:=Tryz.underlying302
 a173:=Tryz.isAgg302
 z173:=Tryz.sizeOf302
 v173:=Tryz.zeroValue302
 t212:=Tryz.underlying320
 a212:=Tryz.isAgg320
 z212:=Tryz.sizeOf320
 v212:=Tryz.zeroValue320
 t213:=Tryz.underlying321
 a213:=Tryz.isAgg321
 z213:=Tryz.sizeOf321
 t232:=Tryz.underlying337
 a232:=Tryz.isAgg337
 z232:=Tryz.sizeOf337
 v232:=Tryz.zeroValue337
 t233:=Tryz.underlying338
 a233:=Tryz.isAgg338
 z233:=Tryz.sizeOf338
 v233:=Tryz.zeroValue338
 g17:=by kernel_rfl
 g18:=by kernel_rfl
 g19:=by kernel_rfl
 i0:=by kernel_rfl
 i2:=by kernel_rfl
 i3:=by kernel_rfl
 i4:=by kernel_rfl
 i5:=by kernel_rfl
 i9:=by kernel_rfl
 i20:=by kernel_rfl
 i37:=by kernel_rfl
 i46:=by kernel_rfl
 i51:=by kernel_rfl
 i53:=by kernel_rfl
 i171:=by kernel_rfl
 i173:=by kernel_rfl
 i212:=by kernel_rfl
 i232:=by kernel_rfl
 i233:=by kernel_rfl
 m17:=by kernel_rfl
 m18:=by kernel_rfl
 m19:=by kernel_rfl}
open Go.RowKit Go.Sort Go.Lib in
theorem Tryz.strconv_Itoa (n:Int) (h0: -9223372036854775808<=n) (h1:n<=9223372036854775807) (w:World) (anI:Lib.TabIs Tryz.prog w "internal/strconv.uint64pow10" .u64 Lib.pow10Tab):
 Calls Tryz.prog 179 #[.int .i64 n] w λe w'=>e=.returned (.string ⟨(Lib.itoa n).toArray⟩)/\∃k os,w'=grow (w.drewN k) os:=Any.strconv_Itoa Tryz.SX n h0 h1 w anI
def Tryz.EZ:Go.Shelf.Ren:=⟨λ| 316=>211 | n=>n,λ| 9=>9 | 3=>3 | 4=>4 | 37=>214 | 0=>0 | 127=>256 | 5=>5 | n=>n,λ| n=>n⟩
theorem Tryz.SY:Go.Proofs.LaysM.n316 Tryz.prog Tryz.EZ:={
 mixed:=by kernel_rfl
 f316:=Tryz.func211.trans (bh some (by kernel_rfl))
 t0:=Tryz.underlying0
 a0:=Tryz.isAgg0
 z0:=Tryz.sizeOf0
 v0:=Tryz.zeroValue0
 t3:=Tryz.underlying3
 a3:=Tryz.isAgg3
 z3:=Tryz.sizeOf3
 v3:=Tryz.zeroValue3
 t4:=Tryz.underlying4
 a4:=Tryz.isAgg4
 z4:=Tryz.sizeOf4
 v4:=Tryz.zeroValue4
 t9:=Tryz.underlying9
 a9:=Tryz.isAgg9
 z9:=Tryz.sizeOf9
 v9:=Tryz.zeroValue9
 t37:=Tryz.underlying214
 a37:=Tryz.isAgg214
 z37:=Tryz.sizeOf214
 v37:=Tryz.zeroValue214
 t127:=Tryz.underlying256
 a127:=Tryz.isAgg256
 z127:=Tryz.sizeOf256
 v127:=Tryz.zeroValue256
 t5:=Tryz.underlying5
 a5:=Tryz.isAgg5
 z5:=Tryz.sizeOf5
 v5:=Tryz.zeroValue5
 i0:=by kernel_rfl
 i3:=by kernel_rfl
 i4:=by kernel_rfl
 i5:=by kernel_rfl
 i9:=by kernel_rfl
 i37:=by kernel_rfl
 i127:=by kernel_rfl}
open Go.RowKit in
theorem Tryz.stringslite_Clone (s:ByteArray) (w:World) (abA:s.size<=281474976710656):
 Calls Tryz.prog 211 #[.string s] w λe w'=>e=.returned (.string s)/\Below w.heap.size w w':=Any.stringslite_Clone Tryz.SY s w abA
def Tryz.E1:Go.Shelf.Ren:=⟨λ| 174=>213 | 247=>226 | 245=>227 | 287=>243 | 279=>244 | 280=>245 | 281=>246 | 282=>247 | 321=>259 | 322=>260 | 316=>211 | 171=>179 | 205=>261 | 243=>205 | 246=>220 | 283=>234 | 284=>235 | 285=>236 | 286=>237 | 129=>114 | 317=>250 | 318=>251 | 319=>252 | 320=>253 | 337=>269 | 338=>270 | n=>n,λ| 9=>9 | 3=>3 | 2=>2 | 75=>246 | 85=>277 | 4=>4 | 167=>312 | 5=>5 | 53=>186 | 175=>313 | 46=>136 | 168=>315 | 37=>214 | 0=>0 | 210=>327 | 21=>21 | 127=>256 | 145=>336 | 143=>334 | 171=>300 | 173=>302 | 212=>320 | 51=>184 | 20=>20 | 213=>321 | 232=>337 | 233=>338 | 80=>225 | n=>n,λ| 15=>2 | 16=>3 | 17=>1 | 18=>4 | 19=>5 | n=>n⟩
theorem Tryz.HI:Go.Proofs.LaysC.n174 Tryz.prog Tryz.E1:={
 mixed:=by kernel_rfl
 f129:=Tryz.func114.trans (bh some (by kernel_rfl))
 f171:=Tryz.func179.trans (bh some (by kernel_rfl))
 f174:=Tryz.func213.trans (bh some (by kernel_rfl))
 f205:=Tryz.func261.trans (bh some (by kernel_rfl))
 f243:=Tryz.func205.trans (bh some (by kernel_rfl))
 f245:=Tryz.func227.trans (bh some (by kernel_rfl))
 f246:=Tryz.func220.trans (bh some (by kernel_rfl))
 f247:=Tryz.func226.trans (bh some (by kernel_rfl))
 f279:=Tryz.func244.trans (bh some (by kernel_rfl))
 f280:=Tryz.func245.trans (bh some (by kernel_rfl))
 f281:=Tryz.func246.trans (bh some (by kernel_rfl))
 f282:=Tryz.func247.trans (bh some (by kernel_rfl))
 f283:=Tryz.func234.trans (bh some (by kernel_rfl))
 f284:=Tryz.func235.trans (bh some (by kernel_rfl))
 f285:=Tryz.func236.trans (bh some (by kernel_rfl))
 f286:=Tryz.func237.trans (bh some (by kernel_rfl))
 f287:=Tryz.func243.trans (bh some (by kernel_rfl))
 f316:=Tryz.func211.trans (bh some (by kernel_rfl))
 f317:=Tryz.func250.trans (bh some (by kernel_rfl))
 f318:=Tryz.func251.trans (bh some (by kernel_rfl))
 f319:=Tryz.func252.trans (bh some (by kernel_rfl))
 f320:=Tryz.func253.trans (bh some (by kernel_rfl))
 f321:=Tryz.func259.trans (bh some (by kernel_rfl))
 f322:=Tryz.func260.trans (bh some (by kernel_rfl))
 f337:=Tryz.func269.trans (bh some (by kernel_rfl))
 f338:=Tryz.func270.trans (bh some (by kernel_rfl))
 t0:=Tryz.underlying0
 a0:=Tryz.isAgg0
 z0:=Tryz.sizeOf0
 v0:=Tryz.zeroValue0
 t2:=Tryz.underlying2
 a2:=Tryz.isAgg2
 z2:=Tryz.sizeOf2
 v2:=Tryz.zeroValue2
 t3:=Tryz.underlying3
 a3:=Tryz.isAgg3
 z3:=Tryz.sizeOf3
 v3:=Tryz.zeroValue3
 t4:=Tryz.underlying4
 a4:=Tryz.isAgg4
 z4:=Tryz.sizeOf4
 v4:=Tryz.zeroValue4
 t5:=Tryz.underlying5
 a5:=Tryz.isAgg5
 z5:=Tryz.sizeOf5
 v5:=Tryz.zeroValue5
 t9:=Tryz.underlying9
 a9:=Tryz.isAgg9
 z9:=Tryz.sizeOf9
 v9:=Tryz.zeroValue9
 t20:=Tryz.underlying20
 a20:=Tryz.isAgg20
 z20:=Tryz.sizeOf20
 v20:=Tryz.zeroValue20
 t21:=Tryz.underlying21
 a21:=Tryz.isAgg21
 z21:=Tryz.sizeOf21
 v21:=Tryz.zeroValue21
 t37:=Tryz.underlying214
 a37:=Tryz.isAgg214
 z37:=Tryz.sizeOf214
 v37:=Tryz.zeroValue214
 t46:=Tryz.underlying136
 a46:=Tryz.isAgg136
 z46:=Tryz.sizeOf136
 v46:=Tryz.zeroValue136
 t51:=Tryz.underlying184
 a51:=Tryz.isAgg184
 z51:=Tryz.sizeOf184
 v51:=Tryz.zeroValue184
 t53:=Tryz.underlying186
 a53:=Tryz.isAgg186
 z53:=Tryz.sizeOf186
 v53:=Tryz.zeroValue186
 t75:=Tryz.underlying246
 a75:=Tryz.isAgg246
 z75:=Tryz.sizeOf246
 v75:=Tryz.zeroValue246
 t85:=Tryz.underlying277
 a85:=Tryz.isAgg277
 z85:=Tryz.sizeOf277
 v85:=Tryz.zeroValue277
 t127:=Tryz.underlying256
 a127:=Tryz.isAgg256
 z127:=Tryz.sizeOf256
 v127:=Tryz.zeroValue256
 t143:=Tryz.underlying334
 a143:=Tryz.isAgg334
 z143:=Tryz.sizeOf334
 v143:=Tryz.zeroValue334
 t145:=Tryz.underlying336
 a145:=Tryz.isAgg336
 z145:=Tryz.sizeOf336
 v145:=Tryz.zeroValue336
 t167:=Tryz.underlying312
 a167:=Tryz.isAgg312
 z167:=Tryz.sizeOf312
 v167:=Tryz.zeroValue312
 t168:=Tryz.underlying315
 a168:=Tryz.isAgg315
 z168:=Tryz.sizeOf315
 v168:=Tryz.zeroValue315
 t171:=Tryz.underlying300
 a171:=Tryz.isAgg300
 z171:=Tryz.sizeOf300
 v171:=Tryz.zeroValue300
 t173:=Tryz.underlying302
 a173:=Tryz.isAgg302
 z173:=Tryz.sizeOf302
 v173:=Tryz.zeroValue302
 t175:=Tryz.underlying313
 a175:=Tryz.isAgg313
 z175:=Tryz.sizeOf313
 v175:=Tryz.zeroValue313
 t210:=Tryz.underlying327
 a210:=Tryz.isAgg327
 z210:=Tryz.sizeOf327
 v210:=Tryz.zeroValue327
 t212:=Tryz.underlying320
 a212:=Tryz.isAgg320
 z212:=Tryz.sizeOf320
 v212:=Tryz.zeroValue320
 t213:=Tryz.underlying321
 a213:=Tryz.isAgg321
 z213:=Tryz.sizeOf321
 t232:=Tryz.underlying337
 a232:=Tryz.isAgg337
 z232:=Tryz.sizeOf337
 v232:=Tryz.zeroValue337
 t233:=Tryz.underlying338
 a233:=Tryz.isAgg338
 z233:=Tryz.sizeOf338
 v233:=Tryz.zeroValue338
 g15:=by kernel_rfl
 g16:=by kernel_rfl
 g17:=by kernel_rfl
 g18:=by kernel_rfl
 g19:=by kernel_rfl
 t80:=Tryz.underlying225
 a80:=Tryz.isAgg225
 z80:=Tryz.sizeOf225
 v80:=Tryz.zeroValue225
 i0:=by kernel_rfl
 i2:=by kernel_rfl
 i3:=by kernel_rfl
 i4:=by kernel_rfl
 i5:=by kernel_rfl
 i9:=by kernel_rfl
 i20:=by kernel_rfl
 i21:=by kernel_rfl
 i37:=by kernel_rfl
 i46:=by kernel_rfl
 i51:=by kernel_rfl
 i53:=by kernel_rfl
 i75:=by kernel_rfl
 i80:=by kernel_rfl
 i85:=by kernel_rfl
 i127:=by kernel_rfl
 i143:=by kernel_rfl
 i145:=by kernel_rfl
 i167:=by kernel_rfl
 i168:=by kernel_rfl
 i171:=by kernel_rfl
 i173:=by kernel_rfl
 i175:=by kernel_rfl
 i210:=by kernel_rfl
 i212:=by kernel_rfl
 i232:=by kernel_rfl
 i233:=by kernel_rfl
 m15:=by kernel_rfl
 m16:=by kernel_rfl
 m17:=by kernel_rfl
 m18:=by kernel_rfl
 m19:=by kernel_rfl
 c0:=by kernel_rfl
 c2:=by kernel_rfl
 c3:=by kernel_rfl
 c4:=by kernel_rfl
 c5:=by kernel_rfl
 c9:=by kernel_rfl
 c20:=by kernel_rfl
 c21:=by kernel_rfl
 c37:=by kernel_rfl
 c46:=by kernel_rfl
 c51:=by kernel_rfl
 c53:=by kernel_rfl
 c75:=by kernel_rfl
 c80:=by kernel_rfl
 c85:=by kernel_rfl
 c127:=by kernel_rfl
 c143:=by kernel_rfl
 c145:=by kernel_rfl
 c167:=by kernel_rfl
 c168:=by kernel_rfl
 c171:=by kernel_rfl
 c173:=by kernel_rfl
 c175:=by kernel_rfl
 c210:=by kernel_rfl
 c212:=by kernel_rfl
 c213:=by kernel_rfl
 c232:=by kernel_rfl
 c233:=by kernel_rfl}
open Go.RowKit in
theorem Tryz.strconv_ParseInt_10_at64_ok (s:ByteArray) (HP:s.size<=9223372036854775806) (v:Int) (h:Lib.parseIntB 64 s.data.toList=.ok v) (w:World):
 Calls Tryz.prog 213 #[.string s,.int .i64 10,.int .i64 64] w λe w'=>e=.returned (.tuple #[.int .i64 v,.nilIface])/\(w'=w∨∃t,w'=Lib.bytesWorld w 5 t):=Any.strconv_ParseInt_10_at64_ok Tryz.HI s HP v h w
open Go.RowKit in
theorem Tryz.strconv_ParseInt_10_at64_range_var (s:ByteArray) (abA:s.size<=281474976710656) (h:Lib.parseIntB 64 s.data.toList=.range) (tp:TypeId) (p:Value) (w:World) (abB:w.var? Tryz.prog "strconv.ErrRange" =some #[.iface tp p]):
 Calls Tryz.prog 213 #[.string s,.int .i64 10,.int .i64 64] w λe w'=>∃N,e=.returned (.tuple #[.int .i64 (Lib.intSat 64 s.data.toList),.iface 315 (.pointer (some ⟨N,0,none⟩))])/\w.heap.size<=N/\w'.heap[N]? =some (.cells #[.string ⟨#[80,97,114,115,101,73,110,116]⟩,.string s,.iface tp p] 327 (0,0))/\Below w.heap.size w w':=Any.strconv_ParseInt_10_at64_range_var Tryz.HI s abA h tp p w abB
def Tryz.HJ:Go.Shelf.Ren:=⟨λ| 219=>210 | 217=>222 | 225=>223 | 224=>224 | 267=>225 | 266=>241 | 314=>242 | n=>n,λ| 9=>9 | 3=>3 | 4=>4 | 5=>5 | 46=>136 | 146=>283 | 51=>184 | n=>n,λ| 1=>0 | n=>n⟩
theorem Tryz.Wg:Go.Proofs.Lays.n219 Tryz.prog Tryz.HJ:={
 mixed:=by kernel_rfl
 f217:=Tryz.func222.trans (bh some (by kernel_rfl))
 f219:=Tryz.func210.trans (bh some (by kernel_rfl))
 f224:=Tryz.func224.trans (bh some (by kernel_rfl))
 f225:=Tryz.func223.trans (bh some (by kernel_rfl))
 f266:=Tryz.func241.trans (bh some (by kernel_rfl))
 f267:=Tryz.func225.trans (bh some (by kernel_rfl))
 f314:=Tryz.func242.trans (bh some (by kernel_rfl))
 t3:=Tryz.underlying3
 a3:=Tryz.isAgg3
 z3:=Tryz.sizeOf3
 v3:=Tryz.zeroValue3
 t4:=Tryz.underlying4
 a4:=Tryz.isAgg4
 z4:=Tryz.sizeOf4
 v4:=Tryz.zeroValue4
 t5:=Tryz.underlying5
 a5:=Tryz.isAgg5
 z5:=Tryz.sizeOf5
 v5:=Tryz.zeroValue5
 t9:=Tryz.underlying9
 a9:=Tryz.isAgg9
 z9:=Tryz.sizeOf9
 v9:=Tryz.zeroValue9
 t46:=Tryz.underlying136
 a46:=Tryz.isAgg136
 z46:=Tryz.sizeOf136
 v46:=Tryz.zeroValue136
 t51:=Tryz.underlying184
 a51:=Tryz.isAgg184
 z51:=Tryz.sizeOf184
 v51:=Tryz.zeroValue184
 t146:=Tryz.underlying283
 a146:=Tryz.isAgg283
 z146:=Tryz.sizeOf283
 v146:=Tryz.zeroValue283
 g1:=by kernel_rfl}
open Go.RowKit Go.Lib in
theorem Tryz.stringslite_Index_one (s:ByteArray) (c:UInt8) (w:World):
 Calls Tryz.prog 210 #[.string s,.string ⟨#[c]⟩] w λe w'=>e=.returned (.int .i64 (Lib.indexByte s.data.toList c))/\w'=w:=Any.stringslite_Index_one Tryz.Wg s c w
def Tryz.HK:Go.Shelf.Ren:=⟨λ| 189=>54 | 125=>80 | 257=>86 | 128=>113 | 129=>114 | 294=>115 | 295=>116 | 296=>117 | 297=>118 | 298=>119 | 299=>120 | 216=>70 | 300=>121 | 301=>122 | 328=>158 | 329=>154 | 330=>155 | 331=>159 | 332=>160 | 215=>81 | 343=>187 | n=>n,λ| 28=>33 | 3=>3 | 46=>136 | 0=>0 | 51=>184 | 53=>186 | 4=>4 | 183=>178 | 182=>177 | 131=>86 | 5=>5 | 9=>9 | 218=>228 | 222=>202 | 228=>258 | 229=>219 | n=>n,λ| n=>n⟩
theorem Tryz.MH:Go.Proofs.Lays.n189 Tryz.prog Tryz.HK:={
 mixed:=by kernel_rfl
 f125:=Tryz.func80.trans (bh some (by kernel_rfl))
 f128:=Tryz.func113.trans (bh some (by kernel_rfl))
 f129:=Tryz.func114.trans (bh some (by kernel_rfl))
 f189:=Tryz.func54.trans (bh some (by kernel_rfl))
 f215:=Tryz.func81.trans (bh some (by kernel_rfl))
 f216:=Tryz.func70.trans (bh some (by kernel_rfl))
 f257:=Tryz.func86.trans (bh some (by kernel_rfl))
 f294:=Tryz.func115.trans (bh some (by kernel_rfl))
 f295:=Tryz.func116.trans (bh some (by kernel_rfl))
 f296:=Tryz.func117.trans (bh some (by kernel_rfl))
 f297:=Tryz.func118.trans (bh some (by kernel_rfl))
 f298:=Tryz.func119.trans (bh some (by kernel_rfl))
 f299:=Tryz.func120.trans (bh some (by kernel_rfl))
 f300:=Tryz.func121.trans (bh some (by kernel_rfl))
 f301:=Tryz.func122.trans (bh some (by kernel_rfl))
 f328:=Tryz.func158.trans (bh some (by kernel_rfl))
 f329:=Tryz.func154.trans (bh some (by kernel_rfl))
 f330:=Tryz.func155.trans (bh some (by kernel_rfl))
 f331:=Tryz.func159.trans (bh some (by kernel_rfl))
 f332:=Tryz.func160.trans (bh some (by kernel_rfl))
 f343:=Tryz.func187.trans (bh some (by kernel_rfl))
 t0:=Tryz.underlying0
 a0:=Tryz.isAgg0
 z0:=Tryz.sizeOf0
 v0:=Tryz.zeroValue0
 t3:=Tryz.underlying3
 a3:=Tryz.isAgg3
 z3:=Tryz.sizeOf3
 v3:=Tryz.zeroValue3
 t4:=Tryz.underlying4
 a4:=Tryz.isAgg4
 z4:=Tryz.sizeOf4
 v4:=Tryz.zeroValue4
 t5:=Tryz.underlying5
 a5:=Tryz.isAgg5
 z5:=Tryz.sizeOf5
 v5:=Tryz.zeroValue5
 t9:=Tryz.underlying9
 a9:=Tryz.isAgg9
 z9:=Tryz.sizeOf9
 v9:=Tryz.zeroValue9
 t28:=Tryz.underlying33
 a28:=Tryz.isAgg33
 z28:=Tryz.sizeOf33
 v28:=Tryz.zeroValue33
 t46:=Tryz.underlying136
 a46:=Tryz.isAgg136
 z46:=Tryz.sizeOf136
 v46:=Tryz.zeroValue136
 t51:=Tryz.underlying184
 a51:=Tryz.isAgg184
 z51:=Tryz.sizeOf184
 v51:=Tryz.zeroValue184
 t53:=Tryz.underlying186
 a53:=Tryz.isAgg186
 z53:=Tryz.sizeOf186
 v53:=Tryz.zeroValue186
 t131:=Tryz.underlying86
 a131:=Tryz.isAgg86
 z131:=Tryz.sizeOf86
 v131:=Tryz.zeroValue86
 t182:=Tryz.underlying177
 a182:=Tryz.isAgg177
 z182:=Tryz.sizeOf177
 v182:=Tryz.zeroValue177
 t183:=Tryz.underlying178
 a183:=Tryz.isAgg178
 z183:=Tryz.sizeOf178
 v183:=Tryz.zeroValue178
 t218:=Tryz.underlying228
 a218:=Tryz.isAgg228
 z218:=Tryz.sizeOf228
 v218:=Tryz.zeroValue228
 t222:=Tryz.underlying202
 a222:=Tryz.isAgg202
 z222:=Tryz.sizeOf202
 v222:=Tryz.zeroValue202
 t228:=Tryz.underlying258
 a228:=Tryz.isAgg258
 z228:=Tryz.sizeOf258
 v228:=Tryz.zeroValue258
 t229:=Tryz.underlying219
 a229:=Tryz.isAgg219
 z229:=Tryz.sizeOf219
 v229:=Tryz.zeroValue219}
open Go.Sort Go.RowKit in
theorem Tryz.slices_Sort_int (blk off cap:Nat) (zs:List Int) (w:World) (hH:Holds (Value.int .i64) w blk off zs.toArray) (hblk:blk<w.heap.size) (hsz:zs.length<4611686018427387904):
 Calls Tryz.prog 54 #[.slice (some ⟨blk,off,none⟩) zs.length cap] w λe w'=>
  e=.returned (.tuple #[])/\∃n os,w'=grow (putRow (Value.int .i64) (Sort.ahead w n) blk off (zs.mergeSort λx y=>decide (x<=y)).toArray) os:=Any.slices_Sort_int Tryz.MH blk off cap zs w hH hblk hsz
def Tryz.yp:Go.Shelf.Ren:=⟨λ| 105=>176 | 212=>200 | 99=>162 | 165=>201 | 166=>175 | 170=>184 | 169=>147 | 263=>216 | 264=>217 | 206=>189 | 240=>199 | 241=>218 | 276=>215 | 277=>233 | n=>n,λ| 9=>9 | 3=>3 | 4=>4 | 20=>20 | 0=>0 | 46=>136 | 109=>268 | 5=>5 | 72=>216 | 76=>247 | 51=>184 | 146=>283 | 53=>186 | 148=>285 | 70=>213 | 37=>214 | 75=>246 | 127=>256 | 164=>281 | 80=>225 | n=>n,λ| n=>n⟩
theorem Tryz.Wh:Go.Proofs.Lays.n105 Tryz.prog Tryz.yp:={
 mixed:=by kernel_rfl
 f99:=Tryz.func162.trans (bh some (by kernel_rfl))
 f105:=Tryz.func176.trans (bh some (by kernel_rfl))
 f165:=Tryz.func201.trans (bh some (by kernel_rfl))
 f166:=Tryz.func175.trans (bh some (by kernel_rfl))
 f169:=Tryz.func147.trans (bh some (by kernel_rfl))
 f170:=Tryz.func184.trans (bh some (by kernel_rfl))
 f206:=Tryz.func189.trans (bh some (by kernel_rfl))
 f212:=Tryz.func200.trans (bh some (by kernel_rfl))
 f240:=Tryz.func199.trans (bh some (by kernel_rfl))
 f241:=Tryz.func218.trans (bh some (by kernel_rfl))
 f263:=Tryz.func216.trans (bh some (by kernel_rfl))
 f264:=Tryz.func217.trans (bh some (by kernel_rfl))
 f276:=Tryz.func215.trans (bh some (by kernel_rfl))
 f277:=Tryz.func233.trans (bh some (by kernel_rfl))
 t0:=Tryz.underlying0
 a0:=Tryz.isAgg0
 z0:=Tryz.sizeOf0
 v0:=Tryz.zeroValue0
 t3:=Tryz.underlying3
 a3:=Tryz.isAgg3
 z3:=Tryz.sizeOf3
 v3:=Tryz.zeroValue3
 t4:=Tryz.underlying4
 a4:=Tryz.isAgg4
 z4:=Tryz.sizeOf4
 v4:=Tryz.zeroValue4
 t5:=Tryz.underlying5
 a5:=Tryz.isAgg5
 z5:=Tryz.sizeOf5
 v5:=Tryz.zeroValue5
 t9:=Tryz.underlying9
 a9:=Tryz.isAgg9
 z9:=Tryz.sizeOf9
 v9:=Tryz.zeroValue9
 t20:=Tryz.underlying20
 a20:=Tryz.isAgg20
 z20:=Tryz.sizeOf20
 v20:=Tryz.zeroValue20
 t37:=Tryz.underlying214
 a37:=Tryz.isAgg214
 z37:=Tryz.sizeOf214
 v37:=Tryz.zeroValue214
 t46:=Tryz.underlying136
 a46:=Tryz.isAgg136
 z46:=Tryz.sizeOf136
 v46:=Tryz.zeroValue136
 t51:=Tryz.underlying184
 a51:=Tryz.isAgg184
 z51:=Tryz.sizeOf184
 v51:=Tryz.zeroValue184
 t53:=Tryz.underlying186
 a53:=Tryz.isAgg186
 z53:=Tryz.sizeOf186
 v53:=Tryz.zeroValue186
 t70:=Tryz.underlying213
 a70:=Tryz.isAgg213
 z70:=Tryz.sizeOf213
 v70:=Tryz.zeroValue213
 t72:=Tryz.underlying216
 a72:=Tryz.isAgg216
 z72:=Tryz.sizeOf216
 v72:=Tryz.zeroValue216
 t75:=Tryz.underlying246
 a75:=Tryz.isAgg246
 z75:=Tryz.sizeOf246
 v75:=Tryz.zeroValue246
 t76:=Tryz.underlying247
 a76:=Tryz.isAgg247
 z76:=Tryz.sizeOf247
 v76:=Tryz.zeroValue247
 t109:=Tryz.underlying268
 a109:=Tryz.isAgg268
 z109:=Tryz.sizeOf268
 v109:=Tryz.zeroValue268
 t127:=Tryz.underlying256
 a127:=Tryz.isAgg256
 z127:=Tryz.sizeOf256
 v127:=Tryz.zeroValue256
 t146:=Tryz.underlying283
 a146:=Tryz.isAgg283
 z146:=Tryz.sizeOf283
 v146:=Tryz.zeroValue283
 t148:=Tryz.underlying285
 a148:=Tryz.isAgg285
 z148:=Tryz.sizeOf285
 v148:=Tryz.zeroValue285
 t164:=Tryz.underlying281
 a164:=Tryz.isAgg281
 z164:=Tryz.sizeOf281
 v164:=Tryz.zeroValue281}
theorem Tryz.wo:Builder.Extra Tryz.prog Tryz.yp:={
 sizeBuilder:=by kernel_rfl
 liesBuilder:=by kernel_rfl
 t5:=Tryz.underlying5
 a5:=Tryz.isAgg5
 z5:=Tryz.sizeOf5
 v5:=Tryz.zeroValue5
 infoByte:=by kernel_rfl
 cellsByte:=by kernel_rfl
 sizeByte:=by kernel_rfl
 neB5:=aN}
open Go.RowKit Go.Lib in
theorem Tryz.strings_Repeat (s:ByteArray) (c:Nat) (w:World) (hc:c<=9223372036854775807) (fl:s.size*c<=140737488355328):
 Calls Tryz.prog 176 #[.string s,.int .i64 c] w λe w'=>e=.returned (.string ⟨(Lib.repeatL s.data.toList c).toArray⟩)/\Below w.heap.size w w':=Any.strings_Repeat Tryz.Wh Tryz.wo s c w hc fl
def Tryz.BR:Go.Shelf.Ren:=⟨λ| 15=>33 | n=>n,λ| 22=>33 | 3=>3 | 4=>4 | n=>n,λ| n=>n⟩
theorem Tryz.xD:Go.Proofs.Lays2.n15 Tryz.prog Tryz.BR:={
 mixed:=by kernel_rfl
 f15:=Tryz.func33.trans (bh some (by kernel_rfl))
 t3:=Tryz.underlying3
 a3:=Tryz.isAgg3
 z3:=Tryz.sizeOf3
 v3:=Tryz.zeroValue3
 t4:=Tryz.underlying4
 a4:=Tryz.isAgg4
 z4:=Tryz.sizeOf4
 v4:=Tryz.zeroValue4
 t22:=Tryz.underlying33
 a22:=Tryz.isAgg33
 z22:=Tryz.sizeOf33
 v22:=Tryz.zeroValue33
 i3:=by kernel_rfl}
open Go.RowKit Go.Lib in
theorem Tryz.slices_Clone_int (b off n c:Nat) (zs:List Int) (w:World) (hz:n<=zs.length) (qF:n*8<=140737488355328) (hc:∀j,j<zs.length->w.cell? ⟨b,off+j,none⟩=some (.int .i64 (zs.getD j 0))):
 Calls Tryz.prog 33 #[.slice (some ⟨b,off,none⟩) n c] w λe w'=>∃v',e=.returned v'/\w'.ownsRow w.heap.size 3 1 v' n ((zs.take n).map (Value.int .i64))/\v'≠.slice none 0 0/\Below w.heap.size w w':=Any.slices_Clone_int Tryz.xD b off n c zs w hz qF hc
open Go.RowKit Go.Lib in
theorem Tryz.slices_Clone_int_nil (n c:Nat) (w:World):
 Calls Tryz.prog 33 #[.slice none n c] w λe w'=>e=.returned (.slice none 0 0)/\w'=w:=Any.slices_Clone_int_nil Tryz.xD n c w
open Go.RowKit Go.Lib in
theorem Tryz.slices_Clone_int_zero (a:Addr) (c:Nat) (w:World):
 Calls Tryz.prog 33 #[.slice (some a) 0 c] w λe w'=>∃v',e=.returned v'/\w'.ownsRow w.heap.size 3 1 v' 0 []/\v'≠.slice none 0 0/\Below w.heap.size w w':=Any.slices_Clone_int_zero Tryz.xD a c w
def Tryz.BS:Go.Shelf.Ren:=⟨λ| 20=>55 | n=>n,λ| 22=>33 | 3=>3 | 4=>4 | 0=>0 | n=>n,λ| n=>n⟩
theorem Tryz.C2:Go.Proofs.Lays2.n20 Tryz.prog Tryz.BS:={
 mixed:=by kernel_rfl
 f20:=Tryz.func55.trans (bh some (by kernel_rfl))
 t0:=Tryz.underlying0
 a0:=Tryz.isAgg0
 z0:=Tryz.sizeOf0
 v0:=Tryz.zeroValue0
 t3:=Tryz.underlying3
 a3:=Tryz.isAgg3
 z3:=Tryz.sizeOf3
 v3:=Tryz.zeroValue3
 t4:=Tryz.underlying4
 a4:=Tryz.isAgg4
 z4:=Tryz.sizeOf4
 v4:=Tryz.zeroValue4
 t22:=Tryz.underlying33
 a22:=Tryz.isAgg33
 z22:=Tryz.sizeOf33
 v22:=Tryz.zeroValue33
 i3:=by kernel_rfl}
open Go.RowKit Go.Lib Go.Sort in
theorem Tryz.slices_Compact_int (blk off cap:Nat) (zs:List Int) (w:World) (hH:Holds (Value.int .i64) w blk off zs.toArray) (hsz:zs.length<=9223372036854775807) (lC:zs.length<=cap):
 Calls Tryz.prog 55 #[.slice (some ⟨blk,off,none⟩) zs.length cap] w λe w'=>e=.returned (.slice (some ⟨blk,off,none⟩) (Lib.compact zs).length cap)/\∃q,w'=putRow (Value.int .i64) (Sort.ahead w q) blk off (Lib.compact zs++List.replicate (zs.length-(Lib.compact zs).length) 0).toArray:=Any.slices_Compact_int Tryz.C2 blk off cap zs w hH hsz lC
open Go.RowKit Go.Lib Go.Sort in
theorem Tryz.slices_Compact_int_empty (a:Option Addr) (cap:Nat) (w:World):
 Calls Tryz.prog 55 #[.slice a 0 cap] w λe w'=>e=.returned (.slice a 0 cap)/\w'=w:=Any.slices_Compact_int_empty Tryz.C2 a cap w
def Tryz.BT:Go.Shelf.Ren:=⟨λ| 25=>29 | 31=>70 | 32=>71 | 37=>81 | n=>n,λ| 22=>33 | 3=>3 | 4=>4 | 40=>136 | 0=>0 | n=>n,λ| n=>n⟩
theorem Tryz.Oj:Go.Proofs.Lays2.n25 Tryz.prog Tryz.BT:={
 mixed:=by kernel_rfl
 f25:=Tryz.func29.trans (bh some (by kernel_rfl))
 f31:=Tryz.func70.trans (bh some (by kernel_rfl))
 f32:=Tryz.func71.trans (bh some (by kernel_rfl))
 f37:=Tryz.func81.trans (bh some (by kernel_rfl))
 t0:=Tryz.underlying0
 a0:=Tryz.isAgg0
 z0:=Tryz.sizeOf0
 v0:=Tryz.zeroValue0
 t3:=Tryz.underlying3
 a3:=Tryz.isAgg3
 z3:=Tryz.sizeOf3
 v3:=Tryz.zeroValue3
 t4:=Tryz.underlying4
 a4:=Tryz.isAgg4
 z4:=Tryz.sizeOf4
 v4:=Tryz.zeroValue4
 t22:=Tryz.underlying33
 a22:=Tryz.isAgg33
 z22:=Tryz.sizeOf33
 v22:=Tryz.zeroValue33
 t40:=Tryz.underlying136
 a40:=Tryz.isAgg136
 z40:=Tryz.sizeOf136
 v40:=Tryz.zeroValue136}
open Go.RowKit Go.Lib in
theorem Tryz.slices_BinarySearch_int (b off n c:Nat) (zs:List Int) (x:Int) (w:World) (hz:n<=zs.length) (qF:n<4611686018427387904) (hc:∀j,j<zs.length->w.cell? ⟨b,off+j,none⟩=some (.int .i64 (zs.getD j 0))) (hs:(zs.take n).Pairwise (· <=·)):
 Calls Tryz.prog 29 #[.slice (some ⟨b,off,none⟩) n c,.int .i64 x] w λe w'=>e=.returned (.tuple #[.int .i64 ((zs.take n).countP (· <x):Nat),.bool ((zs.take n).contains x)])/\∃q,w'=w.drewN q:=Any.slices_BinarySearch_int Tryz.Oj b off n c zs x w hz qF hc hs
open Go.RowKit Go.Sort in
theorem Tryz.slices_Sort_int_none (p:Option Addr) (cap:Nat) (w:World):
 Calls Tryz.prog 54 #[.slice p 0 cap] w λe w'=>e=.returned (.tuple #[])/\w'=w:=Any.slices_Sort_int_none Tryz.MH p cap w
end Go.Proofs
namespace Go.Proofs.YtpbgcbdclnfpnaaGreatDoor.Con
open Go Go.RowKit Go.Kt Go.Kt.V Go.Proofs.YtpbgcbdclnfpnaaGreatDoor.Vc
theorem ret{P:Program}{f:FuncId}{a:Array az}{w:ay}{r:az}{Q:ay->Prop}(h:aB P f a w λe w'=>∃v,e=aq v/\v=r/\Q w'):aB P f a w λe w'=>e=aq r/\Q w':=
 h.mono (by rintro e w' ⟨v,rfl,rfl,hq⟩;exact⟨rfl,hq⟩)
theorem Blk.eE{w:ay}{b:Nat}{t:TypeId}{cs:aK}(h:aH w b t cs)(j:Nat){v:az}(hv:cs[j]? =some v):aE w ((⟨b,0,none⟩:Addr).add j) [v]:=by
 rw[fI,bM];exact h.cells j [v] λk u hk=>by
  cases k with
  | zero=>simp only[cO,bc]at hk;subst hk;exact hv
  | succ k=>simp at hk
def ra(c:UInt8):Bool:=(65<=c.toNat&&c.toNat<=90)||(97<=c.toNat&&c.toNat<=122)||c.toNat==95
def fm(c:UInt8):Bool:=48<=c.toNat&&c.toNat<=57
def iH(c:UInt8):Bool:=ra c||fm c
def DV(c:UInt8):Bool:=[9,10,13,32].contains c
theorem IU:∀n:Fin 256,(((decide (97<=(bits .or .u8 (n.val:Int) 32)))&&(decide ((bits .or .u8 (n.val:Int) 32)<=122)))||((n.val:Int)==95))=((65<=n.val&&n.val<=90)||(97<=n.val&&n.val<=122)||n.val==95):=by decide+kernel
theorem Au(w:ay)(c:UInt8):aB au 165 #[.int .u8 (c.toNat:Int)] w λe w'=>e=aq (ao (ra c))/\aA [] w w':=by
 refine ret (aeR _ _ _ ?_);exact⟨by rw[IU ⟨c.toNat,c.toNat_lt⟩];rfl,Only.refl _ _⟩
theorem KP(w:ay)(c:UInt8):aB au 167 #[.int .u8 (c.toNat:Int)] w λe w'=>e=aq (ao (fm c))/\aA [] w w':=by
 refine ret (aeU _ _ _ ?_);refine⟨?_,Only.refl _ _⟩;congr 1;rw[bT];simp only[fm,aU,bJ];omega
theorem QQ(w:ay)(c:UInt8):aB au 212 #[.int .u8 (c.toNat:Int)] w λe w'=>e=aq (ao (fm c))/\aA [] w w':=by
 refine ret (v2w _ _ _ ?_);refine⟨?_,Only.refl _ _⟩;have h:∀n:Fin 256,decide ((av .u8 ((n.val:Int)-48))<10)=(decide (48<=n.val)&&decide (n.val<=57)):=by decide+kernel
 rw[h ⟨c.toNat,c.toNat_lt⟩];rfl
theorem QS{w:ay}{F:aL}{s:Sl}{l:aJ}(h:aD jq 1 w F s l)(c:UInt8):
  aB au 209 #[Sl.v s,.int .u8 (c.toNat:Int)] w λe w'=>∃i:Int,e=aq (O ae i)/\decide (i>=0)=l.contains c/\aA [] w w':=by
 refine(aeM s _ (λv w'=>∃i:Int,v=O ae i/\decide (i>=0)=l.contains c/\aA [] w w') w ?_).mono (by
  rintro e w' ⟨v,rfl,i,rfl,h⟩;exact⟨i,rfl,h⟩)
 have fl:=h.len;have qF:=h.big;have lC:=h.cap;refine⟨λnv i w'=>∃n:Nat,n<=l.length/\i=(n:Int)/\nv=l.length-n/\(∀x,x∈l.take n->x≠c)/\w'=w,l.length,⟨0,bB _,rfl,rfl,aaa,rfl⟩,?_⟩;rintro nv _ _ ⟨n,hn,rfl,rfl,hp,rfl⟩;refine⟨λhc=>?_,λhc=>?_⟩
 ·have cd:(n:Int)<s.n:=aP hc;obtain⟨ad,x,cs,g1,g2,g3,g4,g5,g6⟩:=h.get (bE n) cd;rw[aV]at g2;unfold jq gn at g6;subst g6;refine⟨ad,g1,_,g5,λhe=>⟨_,rfl,?_,Only.refl _ _⟩,λhe=>⟨l.length-(n+1),aG,n+1,aG,aaq,rfl,?_,rfl⟩⟩
  ·have he:c=x:=T3.1 (by have:=aP he;omega);rw[bL aG];symm;rw[pO,he];exact bD g2
  intro y hy;rw[bF,g2]at hy;simp only[nU,ci,aO]at hy;rcases hy with hy | rfl
  ·exact hp y hy
  rintro rfl;simp at he
 have mQ:¬((n:Int)<s.n):=aY hc;rw[bq aG]at hp;refine⟨_,rfl,?_,Only.refl _ _⟩;rw[bH aG];symm;rw[ft];intro hh;exact hp c (pO.1 hh) rfl
theorem Gl{w:ay}{F:aL}{s:Sl}{l:aJ}(h:aD jq 1 w F s l)(c:UInt8):
  aB au 188 #[Sl.v s,.int .u8 (c.toNat:Int)] w λe w'=>e=aq (ao (l.contains c))/\aA [] w w':=by
 refine ret (aeL _ _ _ _ ?_);refine(QS h c).mono ?_;rintro _ w1 ⟨i,rfl,hi,hO⟩;exact⟨i,rfl,by rw[hi],hO⟩
theorem Gm{w:ay}{F:aL}{s:Sl}{l:aJ}(h:aD jq 1 w F s l)(c:UInt8):
  aB au 161 #[.int .u8 (c.toNat:Int),Sl.v s] w λe w'=>e=aq (ao (l.contains c))/\aA [] w w':=by
 refine ret (aeK _ _ _ _ ?_);refine(Gl h c).mono ?_;rintro _ w1 ⟨rfl,hO⟩;exact⟨_,rfl,rfl,hO⟩
def lz:Rp (aJ):=λ_ _ l cs=>cs=[ah (T l)]
theorem dH:lz.Ok where
 keep h _:=h
 inHeap h:=h
 mono h _:=h
 one:=by
  rintro w F x cs h v hv;unfold lz at h;subst h;simp only[aO]at hv;subst hv;rfl
theorem QT{w:ay}{F:aL}{s:Sl}{l:List (aJ)}(h:aD lz 1 w F s l)(c:aJ):
  aB au 170 #[Sl.v s,ah (T c)] w λe w'=>∃i:Int,e=aq (O ae i)/\decide (i>=0)=l.contains c/\aA [] w w':=by
 refine(XD s _ (λv w'=>∃i:Int,v=O ae i/\decide (i>=0)=l.contains c/\aA [] w w') w ?_).mono (by
  rintro e w' ⟨v,rfl,i,rfl,h⟩;exact⟨i,rfl,h⟩)
 have fl:=h.len;have qF:=h.big;have lC:=h.cap;refine⟨λnv i w'=>∃n:Nat,n<=l.length/\i=(n:Int)/\nv=l.length-n/\(∀x,x∈l.take n->x≠c)/\w'=w,l.length,⟨0,bB _,rfl,rfl,aaa,rfl⟩,?_⟩;rintro nv _ _ ⟨n,hn,rfl,rfl,hp,rfl⟩;refine⟨λhc=>?_,λhc=>?_⟩
 ·have cd:(n:Int)<s.n:=aP hc;obtain⟨ad,x,cs,g1,g2,g3,g4,g5,g6⟩:=h.get (bE n) cd;rw[aV]at g2;unfold lz at g6;subst g6;refine⟨ad,g1,_,g5,?_⟩;dsimp only;rw[mE];refine⟨λhe=>⟨_,rfl,?_,Only.refl _ _⟩,λhe=>⟨l.length-(n+1),aG,n+1,aG,aaq,rfl,?_,rfl⟩⟩
  ·have he:c=x:=aP he;rw[bL aG];symm;rw[pO,he];exact bD g2
  intro y hy;rw[bF,g2]at hy;simp only[nU,ci,aO]at hy;rcases hy with hy | rfl
  ·exact hp y hy
  rintro rfl;simp at he
 have mQ:¬((n:Int)<s.n):=aY hc;rw[bq aG]at hp;refine⟨_,rfl,?_,Only.refl _ _⟩;rw[bH aG];symm;rw[ft];intro hh;exact hp c (pO.1 hh) rfl
theorem sI{w:ay}{F:aL}{s:Sl}{l:List (aJ)}(h:aD lz 1 w F s l)(c:aJ):
  aB au 192 #[Sl.v s,ah (T c)] w λe w'=>e=aq (ao (l.contains c))/\aA [] w w':=by
 refine ret (aeV _ _ _ _ ?_);refine(QT h c).mono ?_;rintro _ w1 ⟨i,rfl,hi,hO⟩;exact⟨i,rfl,by rw[hi],hO⟩
abbrev Vb(w:ay)(b:Nat)(t:TypeId)(l:aJ)(i:Nat)(r:aK):Prop:=aH w b t (ah (T l)::O ae (i:Int)::r)
theorem XJ{w:ay}{b:Nat}{t:TypeId}{l:aJ}{i:Nat}{r:aK}(h:Vb w b t l i r):
  aB au 125 #[ai (some ⟨b,0,none⟩)] w λe w'=>e=aq (ao (decide (l.length<=i)))/\aA [] w w':=by
 refine ret (aeJ _ _ _ ?_);refine⟨i,Blk.eE h 1 rfl,T l,Blk.eE h 0 rfl,λw0 hO=>⟨?_,hO⟩⟩;rw[dP];congr 1;rw[fS];omega
theorem Av{w:ay}{b:Nat}{t:TypeId}{l:aJ}{i:Nat}{r:aK}(h:Vb w b t l i r)(hi:i<=l.length):
  aB au 163 #[ai (some ⟨b,0,none⟩)] w λe w'=>e=aq (ah (T (l.drop i)))/\aA [] w w':=by
 refine ret (aeN _ _ _ ?_);refine⟨T l,Blk.eE h 0 rfl,i,Blk.eE h 1 rfl,i,⟨rfl,by rw[dP];exact hi⟩,λw0 hO=>⟨?_,hO⟩⟩;rw[zM,dP,bq (by rw[cM];exact ba _)]
theorem uJ{p:UInt8->Bool}:∀{l:aJ} {n:Nat},n<=l.length->(∀x,x∈l.take n->p x=true)->(∀x,l[n]? =some x->p x=false)->l.takeWhile p=l.take n
 | [],n,_,_,_=>aaa
 | c::r,0,_,_,h=>by
  have:=h c rfl;simp[this]
 | c::r,n+1,hn,h1,h2=>by
  have hc:=h1 c aaa;rw[eN,aZ hc,eB,uJ (n:=n) acq (λx hx=>h1 x ady) (λx hx=>h2 x abq)]
theorem QU{w:ay}{b:Nat}{t:TypeId}{l:aJ}{i:Nat}{r:aK}(h:Vb w b t l i r)(hi:i<=l.length)(hl:l.length<9223372036854775807):
  aB au 191 #[ai (some ⟨b,0,none⟩)] w λe w'=>e=aq (ah (T ((l.drop i).takeWhile iH)))/\aA [] w w':=by
 refine ret (aeT _ _ _ ?_);refine(Av h hi).mono ?_;rintro _ w0 ⟨rfl,cQ⟩;have hlr:(l.drop i).length<=l.length:=by rw[cM];omega
 generalize l.drop i=m at*
 refine⟨T m,rfl,λnv j w'=>∃n:Nat,n<=m.length/\j=(n:Int)/\nv=m.length-n/\(∀x,x∈m.take n->iH x=true)/\aA [] w w',m.length,⟨0,bB _,rfl,rfl,aaa,cQ⟩,?_⟩;rintro nv _ w1 ⟨n,hn,rfl,rfl,hp,cJ⟩;rw[dP];refine⟨λb w'=>(b=true->∃x,m[n]? =some x/\iH x=true)/\(b=false->∀x,m[n]? =some x->iH x=false)/\aA [] w w',?_,λhc=>?_,λhc=>⟨λe=>adJ,λ_ x hx=>?_,cJ⟩⟩
 ·rintro b w2 ⟨h1,h2,dw⟩;refine⟨λhb=>?_,λhb=>⟨n,⟨rfl,hn⟩,?_,dw⟩⟩
  ·obtain⟨x,hx,hw⟩:=h1 hb;have cd:=(be.1 hx).1;refine⟨m.length-(n+1),aG,n+1,aG,aaq,rfl,λy hy=>?_,dw⟩;rw[bF,hx]at hy;simp only[nU,ci,aO]at hy;rcases hy with hy | rfl
   ·exact hp y hy
   exact hw
  rw[zM,fi,kr,uJ hn hp (h2 hb)]
 ·have cd:(n:Int)<m.length:=aP hc;have hx:m[n]? =some (m[n]' aG):=aQ aG;generalize m[n]' aG=x at hx;have hg:(T m)[Int.toNat (n:Int)]? =some x:=by rw[xW,aV,hx]
  refine⟨x,⟨bE n,hg⟩,(Au w1 x).mono ?_⟩;rintro _ w3 ⟨rfl,dE⟩;refine⟨_,rfl,λhb=>⟨λ_=>⟨x,hx,by unfold iH;rw[hb];rfl⟩,λe=>adJ,cJ.cy dE⟩,λhb=>⟨x,⟨bE n,hg⟩,(KP w3 x).mono ?_⟩⟩;rintro _ w4 ⟨rfl,dL⟩;refine⟨_,rfl,λhd=>⟨x,hx,by unfold iH;rw[hd,Kb]⟩,λhd y hy=>?_,cJ.cy (dE.cy dL)⟩;rw[hx]at hy;injection hy with hy;subst hy;unfold iH;rw[hb,hd];rfl
 have mQ:¬(n:Int)<m.length:=aY hc;have:=(be.1 hx).1;omega
theorem Gn(w:ay)(l p:aJ)(hl:l.length<9223372036854775807)(hp:p.length<9223372036854775807):aB au 162 #[ah (T l),ah (T p)] w λe w'=>e=aq (ao (decide (l.take p.length=p)))/\aA [] w w':=by
 refine ret (aeO _ _ _ _ ?_);refine(ret (akU (T l) (T p) (λv w'=>v=ao (decide (l.take p.length=p))/\aA [] w w') w ?_)).mono ?_
 ·rw[dP,dP];refine⟨p.length,λh=>⟨rfl,by have:=aP h;omega⟩,?_,Only.refl _ _⟩;rw[zM,mE,fi,kr];congr 1;rw[bT];simp only[aU,bJ];constructor
  ·exact λh=>h.2
  intro h;refine⟨?_,h⟩;have:=bh List.length h;rw[cK]at this;omega
 rintro _ w1 ⟨rfl,hO⟩;exact⟨_,rfl,rfl,hO⟩
theorem ry:∀(l:aJ) (c:UInt8),Lib.indexByte l c=if c∈l then((l.takeWhile (· !=c)).length:Int)else -1
 | [],c=>by simp[Lib.indexByte]
 | b::l,c=>by
  rw[Lib.indexByte,ry l c];by_cases hbc:b=c
  ·subst hbc;simp
  ·by_cases hm:c∈l
   ·have h1:(b==c)=false:=by simpa using hbc
    have h2:(b !=c)=true:=by simpa using hbc
    have h3:c∈b::l:=by simp[hm]
    rw[h1,aZ hm,aZ h3,eN,aZ h2];simp
   ·have h1:(b==c)=false:=by simpa using hbc
    have h3:¬c∈b::l:=by simp[hm];exact λe=>hbc e.symm
    rw[h1,aX hm,aX h3];simp
theorem Aw{c:UInt8}:∀{l:aJ},¬c∈l->l.takeWhile (· !=c)=l
 | [],_=>rfl
 | b::l,h=>by
  simp only[aR,not_or]at h;rw[eN,aZ (by simpa using λe=>h.1 e.symm),Aw h.2]
theorem rb{p:UInt8->Bool}:∀{l:aJ},l.takeWhile p=l.take (l.takeWhile p).length
 | []=>rfl
 | b::l=>by
  rw[eN];split
  ·rw[bp,eB,<-rb]
  rfl
theorem afI(w:ay)(l:aJ)(c:UInt8)(hl:l.length<9223372036854775807):aB au 164 #[ah (T l),ah (T [c])] w λe w'=>∃(s:aM) (b:Bool),e=aq (ak #[ah (T (l.takeWhile (· !=c))),ah s,ao b])/\aA [] w w':=by
 refine(aeP _ _ (λv w'=>∃(s:aM) (b:Bool),v=(ak #[ah (T (l.takeWhile (· !=c))),ah s,ao b])/\aA [] w w') w ?_).mono (by
  rintro e w' ⟨v,rfl,s,b,rfl,h⟩;exact⟨s,b,rfl,h⟩)
 refine(akV (T l) (T [c]) (λv w'=>∃(s:aM) (b:Bool),v=(ak #[ah (T (l.takeWhile (· !=c))),ah s,ao b])/\aA [] w w') w ?_).mono ?_
 ·refine(Tryz.stringslite_Index_one (T l) c w).mono ?_;rintro _ _ ⟨rfl,rfl⟩;have e:(T l).data.toList=l:=rfl;rw[e,ry];refine⟨_,rfl,λh=>?_,λh=>?_⟩
  ·by_cases hm:c∈l
   ·rw[aZ hm];have cd:(l.takeWhile (· !=c)).length<l.length:=by
     have h1:=List.takeWhile_append_dropWhile (p:=(· !=c)) (l:=l);have h2:=bh List.length h1;rw[aW]at h2;have h3:l.dropWhile (· !=c)≠[]:=by
      intro h3;rw[h3,bS]at h1;rw[<-h1]at hm;have:=List.all_takeWhile (p:=(· !=c)) (l:=l);rw[dY]at this;have:=this c (by rw[h1]at hm⊢;exact hm);simp at this
     have h4:=gq.2 h3;omega
    have hk:(T l).extract 0 (l.takeWhile (· !=c)).length=T (l.takeWhile (· !=c)):=by
     rw[zM,fi,kr,<-rb]
    refine⟨(l.takeWhile (· !=c)).length,⟨rfl,abC⟩,(l.takeWhile (· !=c)).length+1,⟨by rw[dP,gF aab aab];rfl,abC⟩,λw1 hO=>⟨(T l).extract ((l.takeWhile (· !=c)).length+1) (T l).size,true,?_,hO⟩⟩;rw[hk]
   ·rw[aX hm]at h;exact absurd (aP h) aG
  ·by_cases hm:c∈l
   ·rw[aZ hm]at h;exact absurd (aY h) aG
   ·rw[Aw hm];exact⟨_,_,rfl,Only.refl _ _⟩
 ·rintro _ w1 ⟨v,rfl,s,b,rfl,hO⟩;exact⟨_,s,b,rfl,s,b,rfl,hO⟩
theorem wX(w:ay)(l:aJ){n:Nat}{parts:Array (Nat×az)}(hp:parts=(((l.map gn).zipIdx 0).map λx=>(x.2,x.1)).toArray)(hn:l.length=n)(h0:0<n)(BU:n*1<=16777216):
  ∃s w',(aw 214 n parts).run au w=.ok (Sl.v s) w'/\Own jq 1 5 w.heap.size w' (λ_=>True) s l/\aA [] w w'/\s.a=some ⟨w.heap.size,0,none⟩:=by
 obtain⟨s,w',h1,h2,h3,h4,_⟩:=kP (P:=au) (t:=214) (e:=5) (i:=Tryz.t5) (w:=w) (F:=λ_=>True) (r:=jq) (size:=1) (vs:=l.map gn) (xs:=l) (len:=n) (by kernel_rfl) (by kernel_rfl) rfl rfl aN hp (by rw[bA];exact hn) h0 BU vh (by
  clear hp hn
  induction l with
  | nil=>exact trivial
  | cons a l ih=>exact⟨⟨rfl,rfl⟩,ih⟩)
 exact⟨s,w',h1,h2,h3,h4⟩
theorem Vd(l:List (aJ))(w:ay):lO lz 1 w (λ_=>True) l ((l.map λx=>Value.string (T x)).map λv=>v.cells.toList):=by
 induction l with
 | nil=>exact trivial
 | cons a l ih=>exact⟨⟨rfl,rfl⟩,ih⟩
theorem og(w:ay)(l:List (aJ)){n:Nat}{parts:Array (Nat×az)}(hp:parts=(((l.map λx=>Value.string (T x)).zipIdx 0).map λx=>(x.2,x.1)).toArray)(hn:l.length=n)(h0:0<n)(BU:n*1<=16777216):
  ∃s w',(aw 132 n parts).run au w=.ok (Sl.v s) w'/\Own lz 1 9 w.heap.size w' (λ_=>True) s l/\aA [] w w':=by
 obtain⟨s,w',h1,h2,h3,_⟩:=kP (P:=au) (t:=132) (e:=9) (i:=Tryz.t9) (w:=w) (F:=λ_=>True) (r:=lz) (size:=1) (vs:=l.map λx=>Value.string (T x)) (xs:=l) (len:=n) (by kernel_rfl) (by kernel_rfl) rfl rfl aN hp (by rw[bA];exact hn) h0 BU dH (Vd l w);exact⟨s,w',h1,h2,h3⟩
theorem QV{α:Type}{r:Rp α}{size:Nat}{e:TypeId}{B:Nat}{w:ay}{F:aL}{s:Sl}{xs:List α}(hr:r.Ok)(hf:∀w F G x cs,r w F x cs->r w G x cs)(h:Own r size e B w F s xs):aD r size w (λk=>B<=k/\s.a=some ⟨k,0,none⟩) s xs:=by
 rcases h with⟨rfl,rfl⟩ | ⟨g,css,tail,a1,a2,a4,a5,a6,a7,a9,a8⟩
 ·exact SliceF.nil _ _ _ _
 have h':Own r size e B w (λ_=>False) s xs:=.inr ⟨g,css,tail,a1,a2,a4,a5,a6,a7,a9,gu.imp (λ_ _ h=>⟨h.1,hf _ _ _ _ _ h.2⟩) a8⟩;exact(h'.slice hr).mono hr λk hk=>hk.elim False.elim id
theorem Cm{e:TypeId}{B:Nat}{w:ay}{F:aL}{s:Sl}{xs:aJ}(h:Own jq 1 e B w F s xs):aD jq 1 w (λk=>B<=k/\s.a=some ⟨k,0,none⟩) s xs:=QV vh (λ_ _ _ _ _ h=>h) h
theorem vF{e:TypeId}{B:Nat}{w:ay}{F:aL}{s:Sl}{xs:List (aJ)}(h:Own lz 1 e B w F s xs):aD lz 1 w (λk=>B<=k/\s.a=some ⟨k,0,none⟩) s xs:=QV dH (λ_ _ _ _ _ h=>h) h
def nA:Bool->aJ->Nat
 | _,[]=>0
 | true,c::r=>1+nA (c !=10) r
 | false,c::r=>if DV c then 1+nA false r else if c==47&&r.head? ==some 47 then 1+nA true r else 0
theorem DW:∀{b:Bool} {l:aJ},nA b l<=l.length
 | b,[]=>by simp[nA]
 | true,c::r=>by
  rw[nA,bp];have:=DW (b:=c !=10) (l:=r);omega
 | false,c::r=>by
  rw[nA,bp];have h1:=DW (b:=false) (l:=r);have h2:=DW (b:=true) (l:=r);split
  ·omega
  split<;>omega
theorem Gp:∀(l:aJ),nA true l=(l.takeWhile (· !=10)).length+nA false (l.drop (l.takeWhile (· !=10)).length)
 | []=>rfl
 | c::r=>by
  by_cases hc:c=10
  ·subst hc;rw[nA];simp[nA,DV]
  ·have h:(c !=10)=true:=aaw
   rw[nA,h,Gp r,eN,aZ h,bp,gp];omega
theorem Nz{l:aJ}(h:l.take 2=[47,47]):nA false l=(l.takeWhile (· !=10)).length+nA false (l.drop (l.takeWhile (· !=10)).length):=by
 match l,h with
 | a::b::r,h=>
  simp only[eB,da,rT,and_true]at h;obtain⟨rfl,rfl⟩:=h;have e:nA false (47::47::r)=1+nA true (47::r):=by
   conv=>lhs;rw[nA]
   rw[aX aN,aZ aaa]
  have e2:=Gp (47::r);have e3:(47::47::r:aJ).takeWhile (· !=10)=47::(47::r:aJ).takeWhile (· !=10):=by
   rw[eN,aZ aN]
  rw[e,e2,e3,bp,gp];omega
theorem Co{l:aJ}{j:Nat}{x:UInt8}(h:l[j]? =some x):l.drop j=x::l.drop (j+1):=by
 obtain⟨h1,h2⟩:=be.1 h;rw[gC h1,h2]
theorem QW{w:ay}{b:Nat}{t:TypeId}{l:aJ}{i:Nat}{r:aK}(h:Vb w b t l i r)(hi:i<=l.length)(hl:l.length<9223372036854775807):
  aB au 124 #[ai (some ⟨b,0,none⟩)] w λe w'=>e=aq (ak #[])/\aA [b] w w'/\Vb w' b t l (i+nA false (l.drop i)) r:=by
 refine ret (aeI _ _ _ ?_);refine⟨λnv w'=>∃j:Nat,j<=l.length/\nv=l.length-j/\i+nA false (l.drop i)=j+nA false (l.drop j)/\aA [b] w w'/\Vb w' b t l j r,l.length-i,⟨i,hi,rfl,rfl,Only.refl _ _,h⟩,?_⟩;rintro nv w0 ⟨j,hj,rfl,hjs,cQ,h0⟩;have kp:∀{u u':ay} {n:Nat},aA [] u u'->Vb u b t l n r->Vb u' b t l n r:=λhO hC=>(hO.block b hC.lt aaa).trans hC;refine(XJ h0).mono ?_;rintro _ w1 ⟨rfl,cJ⟩;have h1:=kp cJ h0;refine⟨_,rfl,λhc=>?_,λhc=>⟨rfl,cQ.trans cJ aaa,?_⟩⟩
 ·have cd:j<l.length:=aaw
  have hx:l[j]? =some l[j]:=aQ cd;generalize l[j]=x at hx;have hd:=Co hx;refine⟨T l,Blk.eE h1 0 rfl,j,Blk.eE h1 1 rfl,x,⟨bE j,by rw[xW,aV,hx]⟩,λw2 dw=>?_⟩;obtain⟨s,w3,k1,k2,k3,_⟩:=wX w2 [9,10,13,32] (n:=4) (parts:=#[(0,.int .u8 9),(1,.int .u8 10),(2,.int .u8 13),(3,.int .u8 32)]) rfl rfl aN aN;refine⟨s,w3,k1,(Gm (Cm k2) x).mono ?_⟩;rintro _ w4 ⟨rfl,dL⟩;have eH:=dw.cy (k3.cy dL);have h4:=kp eH h1;have E8:aA [b] w w4:=cQ.trans (cJ.cy eH) aaa;refine⟨_,rfl,λhb=>⟨j,Blk.eE h4 1 rfl,b,1,_,t,by rw[fI],h4,aaa,λw5 eK xL=>⟨l.length-(j+1),aG,j+1,aG,rfl,?_,E8.trans eK aaa,?_⟩⟩,λhb=>(Av h4 hj).mono ?_⟩
  ·have e:DV x=true:=hb;rw[hjs,hd,nA,aZ e];omega
  ·rw[gF aG aG]at xL;exact xL
  rintro _ w6 ⟨rfl,eI⟩;have h6:=kp eI h4;have hlr:(l.drop j).length<=l.length:=by rw[cM];omega
  refine⟨_,rfl,(Gn w6 (l.drop j) [47,47] aG aN).mono ?_⟩;rintro _ w7 ⟨rfl,fL⟩;have h7:=kp fL h6;refine⟨_,rfl,λhs=>(Av h7 hj).mono ?_,λhs=>⟨rfl,E8.trans (eI.cy fL) aaa,?_⟩⟩
  ·rintro _ w8 ⟨rfl,fV⟩;have h8:=kp fV h7;refine⟨_,rfl,(afI w8 (l.drop j) 10 aG).mono ?_⟩;rintro _ w9 ⟨s9,b9,rfl,gy⟩;have h9:=kp gy h8;have wx:(l.drop j).take 2=[47,47]:=aP hs;have hk:=Nz wx;have fl:((l.drop j).takeWhile (· !=10)).length<=(l.drop j).length:=by
    rw[rb,cK];exact Nat.min_le_right _ _
   have ue:0<((l.drop j).takeWhile (· !=10)).length:=by
    match hq:l.drop j,wx with
    | a::r',wx=>
     have:a=47:=by
      match r',wx with
      | b'::r'',wx=>simp at wx;exact wx.1
     subst this;simp
   have hld:(l.drop j).length=l.length-j:=cM;generalize hn:((l.drop j).takeWhile (· !=10)).length=n at*
   refine⟨_,s9,b9,rfl,j,Blk.eE h9 1 rfl,b,1,_,t,by rw[fI],h9,aaa,λdR eO uf=>⟨l.length-(j+n),aG,j+n,aG,rfl,?_,(E8.trans (eI.cy (fL.cy (fV.cy gy))) aaa).trans eO aaa,?_⟩⟩
   ·rw[hjs,hk,oM];omega
   ·rw[dP,hn,gF aG aG]at uf;exact uf
  ·have hs:¬(l.drop j).take 2=[47,47]:=aY hs;have hb:DV x=false:=hb;have hz:nA false (l.drop j)=0:=by
    rw[hd,nA,aX (by simp[hb]),aX];intro hh;apply hs;rw[hd];simp only[aU,de]at hh;obtain⟨rfl,hh⟩:=hh;cases hr:l.drop (j+1)with
    | nil=>rw[hr]at hh;simp at hh
    | cons y z=>
     rw[hr]at hh;simp only[List.head?_cons,bc]at hh;rw[hh];rfl
   rw[hjs,hz];exact h7
 ·have mQ:l.length<=j:=aaw
  have hz:l.drop j=[]:=oO mQ;rw[hjs,hz];exact h1
def Er(w:ay):Prop:=∃tp p,w.var? au "strconv.ErrRange" =some #[.iface tp p]
theorem er_num:Tryz.prog.globalNamed "strconv.ErrRange" =some 3:=by kernel_rfl
theorem Er.keep{w w':ay}(h:Er w)(hk:3<w.heap.size->w'.heap[3]? =w.heap[3]?):Er w':=by
 obtain⟨tp,p,h⟩:=h;refine⟨tp,p,?_⟩;unfold World.var? at h⊢;rw[er_num]at h⊢;simp only[xQ]at h⊢;rw[hk]
 ·exact h
 refine cr λhn=>?_;rw[ff aG]at h;cases h
theorem Er.lt{w:ay}(h:Er w):3<w.heap.size:=by
 obtain⟨tp,p,h⟩:=h;unfold World.var? at h;rw[er_num]at h;simp only[xQ]at h;refine cr λhn=>?_;rw[ff aG]at h;cases h
theorem Er.only{w w':ay}(h:Er w)(hO:aA [] w w'):Er w':=h.keep λcd=>hO.block _ cd aaa
def wY(a:Nat)(ds:aJ):Nat:=ds.foldl (λa c=>a*10+(c.toNat-48)) a
theorem KQ:∀(ds:aJ) (a:Nat),a<=wY a ds
 | [],a=>ba _
 | c::r,a=>by
  have:=KQ r (a*10+(c.toNat-48));show a<=wY (a*10+(c.toNat-48)) r;omega
theorem pum:∀(ds:aJ) (a:Nat),(∀c,c∈ds->fm c=true)->a<=18446744073709551615->
  Lib.parseUintM 18446744073709551615 a ds=if wY a ds<=18446744073709551615 then .ok (wY a ds)else .range
 | [],a,_,h=>by rw[Lib.parseUintM];exact(aZ h).symm
 | c::r,a,hd,h=>by
  have hc:=hd c aaa;simp only[fm,aU,bJ]at hc;have e:wY a (c::r)=wY (a*10+(c.toNat-48)) r:=rfl;have mQ:=KQ r (a*10+(c.toNat-48));rw[Lib.parseUintM,aZ hc,e];split
  ·rw[aX aG]
  split
  ·rw[aX aG]
  rw[pum r _ (λx hx=>hd x ady) aG]
theorem pib{ds:aJ}(hd:∀c,c∈ds->fm c=true)(fX:ds≠[]):Lib.parseIntB 64 ds=if wY 0 ds<9223372036854775808 then .ok (wY 0 ds:Int)else .range:=by
 match ds,fX with
 | c::r,_=>
  have hc:=hd c aaa;simp only[fm,aU,bJ]at hc;have h1:¬(c.toNat=43∨c.toNat=45):=aG
  have h2:¬c.toNat=45:=aG
  have h3:Lib.parseUintB 64 (c::r)=Lib.parseUintM 18446744073709551615 0 (c::r):=by
   rw[Lib.parseUintB,aX aaa]
  unfold Lib.parseIntB;dsimp only;rw[aX h1,h3,pum _ _ hd aN];by_cases hv:wY 0 (c::r)<=18446744073709551615
  ·rw[aZ hv];by_cases hw:wY 0 (c::r)<9223372036854775808
   ·rw[aZ hw];simp[h2];omega
   rw[aX hw];simp[h2];omega
  rw[aX hv,aX aG]
def gW(l:aJ):Nat×Nat×Int:=
 if l=[]then(0,0,3)else if l.takeWhile fm=[]∨(1<(l.takeWhile fm).length/\l.head? =some 48)then(0,0,4)
 else if wY 0 (l.takeWhile fm)<9223372036854775808 then(wY 0 (l.takeWhile fm),(l.takeWhile fm).length,0)else(0,0,20)
theorem NA{p:UInt8->Bool}{l:aJ}:∀c,c∈l.takeWhile p->p c=true:=by
 have:=List.all_takeWhile (p:=p) (l:=l);rwa[dY]at this
theorem QX{w:ay}{l:aJ}(hE:Er w)(hl:l.length<281474976710656):
  aB au 194 #[ah (T l)] w λe w'=>e=aq (ak #[O ae (gW l).1,O ae (gW l).2.1,O ae (gW l).2.2])/\aA [] w w':=by
 refine ret (v0w _ _ _ ?_);refine⟨λnv j w'=>∃n:Nat,n<=l.length/\j=(n:Int)/\nv=l.length-n/\(∀x,x∈l.take n->fm x=true)/\aA [] w w',l.length,⟨0,bB _,rfl,rfl,aaa,Only.refl _ _⟩,?_⟩;rintro nv _ w0 ⟨n,hn,rfl,rfl,hp,cQ⟩;rw[dP];refine⟨λb w'=>(b=true->∃x,l[n]? =some x/\fm x=true)/\(b=false->∀x,l[n]? =some x->fm x=false)/\aA [] w w',?_,λhc=>?_,λhc=>⟨λe=>adJ,λ_ x hx=>?_,cQ⟩⟩
 ·rintro b w1 ⟨h1,h2,cJ⟩;refine⟨λhb=>?_,λhb=>?_⟩
  ·obtain⟨x,hx,hw⟩:=h1 hb;have cd:=(be.1 hx).1;refine⟨l.length-(n+1),aG,n+1,aG,aaq,rfl,λy hy=>?_,cJ⟩;rw[bF,hx]at hy;simp only[nU,ci,aO]at hy;rcases hy with hy | rfl
   ·exact hp y hy
   exact hw
  have hds:=uJ hn hp (h2 hb);have yL:(l.takeWhile fm).length=n:=by rw[hds,cK];omega
  have e0:(ar #[])=T []:=rfl;rw[e0,mE];refine⟨λh0=>⟨?_,cJ⟩,λh0=>?_⟩
  ·have h0:l=[]:=aP h0;rw[gW,aZ h0];rfl
  have h0:¬l=[]:=aY h0;refine⟨λb w'=>b=decide (l.takeWhile fm=[]∨(1<(l.takeWhile fm).length/\l.head? =some 48))/\aA [] w w',?_,λhz=>?_,λhz=>?_⟩
  ·rintro b w2 ⟨rfl,dw⟩;refine⟨λhb=>⟨?_,dw⟩,λhb=>⟨n,⟨rfl,hn⟩,?_⟩⟩
   ·rw[gW,aX h0,aZ (aP hb)];rfl
   have hb:=aY hb;have hx:(T l).extract 0 n=T (l.takeWhile fm):=by rw[zM,fi,kr,hds]
   rw[hx];have fX:l.takeWhile fm≠[]:=λe=>hb (.inl e);have hpi:=pib (NA (p:=fm) (l:=l)) fX;have hsz:(T (l.takeWhile fm)).size<=281474976710656:=abC
   by_cases hv:wY 0 (l.takeWhile fm)<9223372036854775808
   ·rw[aZ hv]at hpi;refine(Tryz.strconv_ParseInt_10_at64_ok (T (l.takeWhile fm)) (bf hsz aN) _ hpi w2).mono ?_;rintro _ w3 ⟨rfl,hw⟩;have dE:aA [] w2 w3:=by
     rcases hw with rfl | ⟨s,rfl⟩
     ·exact Only.refl _ _
     exact Only.ov (Lib.bytesWorld_below _ _ _)
    refine⟨_,⟨.nilIface,rfl⟩,rfl,.inl rfl,λe=>adJ,λ_=>⟨?_,dw.cy dE⟩⟩;rw[gW,aX h0,aX hb,aZ hv,yL]
   rw[aX hv]at hpi;obtain⟨tp,p,abB⟩:=hE.only dw;refine(Tryz.strconv_ParseInt_10_at64_range_var (T (l.takeWhile fm)) hsz hpi tp p w2 abB).mono ?_;rintro _ w3 ⟨N,rfl,_,_,hw⟩;refine⟨_,⟨.iface _ _,rfl⟩,rfl,.inr ⟨_,_,rfl⟩,λ_=>⟨?_,dw.cy (Only.ov hw)⟩,λe=>adJ⟩;rw[gW,aX h0,aX hb,aX hv];rfl
  ·have hz:n=0:=by simpa using hz
   subst hz;refine⟨?_,cJ⟩;symm;rw[bL (.inl (bQ yL))];rfl
  have hz:n≠0:=by simpa using hz
  obtain⟨x,r,rfl⟩:∃x r,l=x::r:=by
   cases l with
   | nil=>exact absurd rfl h0
   | cons x r=>exact⟨x,r,rfl⟩
  refine⟨x,λ_=>⟨oa _,by rw[xW];rfl⟩,?_,cJ⟩;have fX:(x::r).takeWhile fm≠[]:=λe=>by rw[e]at yL;exact hz yL.symm
  rw[yL,bT];simp only[aU,bJ,de,List.head?_cons,bc];constructor
  ·rintro⟨h1,h2⟩;exact .inr ⟨aG,T3.1 (by show x.toNat=48;omega)⟩
  rintro(h | ⟨h1,rfl⟩)
  ·exact absurd h fX
  exact⟨aG,rfl⟩
 ·have cd:(n:Int)<l.length:=aP hc;have hx:l[n]? =some (l[n]' aG):=aQ aG;generalize l[n]' aG=x at hx;refine⟨x,⟨bE n,by rw[xW,aV,hx]⟩,(QQ w0 x).mono ?_⟩;rintro _ w3 ⟨rfl,dE⟩;refine⟨_,rfl,λhb=>⟨x,hx,hb⟩,λhd y hy=>?_,cQ.cy dE⟩;rw[hx]at hy;injection hy with hy;subst hy;exact hd
 have mQ:¬(n:Int)<l.length:=aY hc;have:=(be.1 hx).1;omega
structure Tk where
 k:Int
 t:aJ
 n:Int
 a:Int
deriving DecidableEq
def Tk.v(x:Tk):az:=aj #[O ae x.k,ah (T x.t),O ae x.n,O ae x.a]
def NB:Rp Tk:=λ_ _ x cs=>cs=[O ae x.k,ah (T x.t),O ae x.n,O ae x.a]
theorem jH:NB.Ok where
 keep h _:=h
 inHeap h:=h
 mono h _:=h
 one:=by
  rintro w F x cs h v hv;unfold NB at h;subst h;simp only[aR,bn,cm]at hv;rcases hv with rfl | rfl | rfl | rfl<;>rfl
abbrev mS(B:Nat)(w:ay)(s:Sl)(xs:List Tk):Prop:=Own NB 4 161 B w (λ_=>True) s xs
theorem mS.of{B:Nat}{w:ay}{F:aL}{s:Sl}{xs:List Tk}(h:Own NB 4 161 B w F s xs):mS B w s xs:=h.mono jH λ_ _=>trivial
theorem mS.sl{B:Nat}{w:ay}{s:Sl}{xs:List Tk}(h:mS B w s xs):aD NB 4 w (λk=>B<=k/\s.a=some ⟨k,0,none⟩) s xs:=QV jH (λ_ _ _ _ _ h=>h) h
theorem mS.flat{B:Nat}{w:ay}{s:Sl}{xs:List Tk}(h:mS B w s xs):Own NB 4 161 B w (λ_=>False) s xs:=by
 rcases h with h | ⟨g,css,tail,a1,a2,a4,a5,a6,a7,a9,a8⟩
 ·exact .inl h
 exact .inr ⟨g,css,tail,a1,a2,a4,a5,a6,a7,a9,gu.imp (λ_ _ h=>h) a8⟩
theorem mS.keep{B:Nat}{w w':ay}{s:Sl}{xs:List Tk}(h:mS B w s xs)(hk:∀k,B<=k/\s.a=some ⟨k,0,none⟩->k<w.heap.size->w'.heap[k]? =w.heap[k]?):mS B w' s xs:=
 mS.of (h.flat.keep jH λk hF cd=>hk k (hF.elim False.elim id) cd)
theorem mS.only{B:Nat}{w w':ay}{s:Sl}{xs:List Tk}(h:mS B w s xs)(hO:aA [] w w'):mS B w' s xs:=h.keep λk _ cd=>hO.block k cd aaa
theorem mS.p{B:Nat}{w w':ay}{s:Sl}{xs:List Tk}{D:aL}(h:mS B w s xs)(hO:aF D w w')(hD:∀k,B<=k->s.a=some ⟨k,0,none⟩->¬D k):mS B w' s xs:=h.keep λk hk cd=>hO.block k cd (hD k hk.1 hk.2)
theorem ZT{w:ay}{B:Nat}{s:Sl}{xs:List Tk}(t:Tk)(hs:mS B w s xs)(hB:B<=w.heap.size)(hm:(xs.length+1)*40<=140737488355328):
  ∃y w1,(aw 144 1 #[(0,t.v)]).run au w=.ok (Sl.v y) w1/\aA [] w w1/\∃s' w2,(Builtin.append_ #[144,144] 144 #[Sl.v s,Sl.v y]).run au w1=.ok (Sl.v s') w2/\mS B w2 s' (xs++[t])/\aF (λk=>B<=k/\s.a=some ⟨k,0,none⟩) w1 w2:=by
 obtain⟨y,w1,k1,k2,s',w2,k3,k4,⟨gs,k5,k6⟩,_⟩:=jr (P:=au) (t:=144) (ty:=144) (e:=161) (i:=Tryz.t161) (bytes:=40) (size:=4) (v:=t.v) (x:=t) (G:=λ_=>False) (by kernel_rfl) (by kernel_rfl) rfl rfl rfl rfl aN aN aN jH hs hB rfl rfl (λk hk _=>hk.elim) hm;exact⟨y,w1,k1,k2,s',w2,k3,mS.of k4,k5.p λg hg=>.inl ⟨(k6 g hg).2.1,(k6 g hg).1⟩⟩
def sJ:List (aJ):=[[97,102,116,101,114],[97,108,119,97,121,115],[99,104,97,114,116],[100,101,101,112],[101,109,105,116],[101,110,116,101,114],[104,105,115,116,111,114,121],[105,110],[105,110,105,116,105,97,108],[108,101,97,118,101],[111,110],[112,97,114,97,108,108,101,108],[114,97,105,115,101],[115,101,116],[115,116,97,116,101],[118,97,114]]
theorem KR(w:ay):aB au 123 #[] w λe w'=>∃s:Sl,e=aq s.v/\Own lz 1 9 w.heap.size w' (λ_=>True) s sJ/\aA [] w w':=by
 refine(aeH (λv w'=>∃s:Sl,v=s.v/\Own lz 1 9 w.heap.size w' (λ_=>True) s sJ/\aA [] w w') w ?_).mono (by
  rintro e w' ⟨v,rfl,s,rfl,h⟩;exact⟨s,rfl,h⟩)
 obtain⟨s,w',h1,h2,h3⟩:=og w sJ (n:=16) rfl rfl aN aN;exact⟨s,w',h1,s,rfl,h2,h3⟩
structure Cut (w:ay) (b:Nat) (l:aJ) (i:Nat) (rs:Sl) (acc:List Tk):Prop where
 blk:∃ws:Sl,aH w b 197 [ah (T l),O ae (i:Int),ws.v,rs.v]/\aD lz 1 w (λk=>k<b) ws sJ
 own:mS (b+1) w rs acc
 er:Er w
 gb:3<b
 il:i<=l.length
 ll:l.length<=16384
theorem Cut.lt{w:ay}{b:Nat}{l:aJ}{i:Nat}{rs:Sl}{acc:List Tk}(h:Cut w b l i rs acc):b<w.heap.size:=by
 obtain⟨ws,h1,_⟩:=h.blk;exact h1.lt
theorem Cut.only{w w':ay}{b:Nat}{l:aJ}{i:Nat}{rs:Sl}{acc:List Tk}(h:Cut w b l i rs acc)(hO:aA [] w w'):Cut w' b l i rs acc:=by
 obtain⟨ws,h1,h2⟩:=h.blk;exact⟨⟨ws,(hO.block b h1.lt aaa).trans h1,SliceF.only dH aN h2 hO aaa⟩,h.own.only hO,h.er.only hO,h.gb,h.il,h.ll⟩
theorem Cut.move{w w':ay}{b:Nat}{l:aJ}{i j:Nat}{rs:Sl}{acc:List Tk}(h:Cut w b l i rs acc)(hO:aA [b] w w')(hj:j<=l.length)(hB:∀ws:Sl,aH w b 197 [ah (T l),O ae (i:Int),ws.v,rs.v]->aH w' b 197 [ah (T l),O ae (j:Int),ws.v,rs.v]):Cut w' b l j rs acc:=by
 obtain⟨ws,h1,h2⟩:=h.blk;exact⟨⟨ws,hB ws h1,SliceF.only dH aN h2 hO (by intro k hk _;simp only[aO];omega)⟩,h.own.keep λk hk cd=>hO.block k cd abd,h.er.keep λcd=>hO.block _ cd (by simp only[aO];have:=h.gb;omega),h.gb,hj,h.ll⟩
theorem KS{w:ay}{b:Nat}{l:aJ}{i:Nat}{rs:Sl}{acc:List Tk}(h:Cut w b l i rs acc)(k:Int)(t:aJ)(nn a0:Int)(n:Nat)(hn:i+n<=l.length)(ha:acc.length<=16384):
  aB au 127 #[ai (some ⟨b,0,none⟩),aj #[O ae k,ah (T t),O ae nn,O ae a0],O ae (n:Int)] w λe w'=>e=aq (ak #[])/\aF (λk=>b<=k) w w'/\∃WM,Cut w' b l (i+n) WM (acc++[⟨k,t,nn,i⟩]):=by
 refine ret (aeW _ _ _ _ _ _ _ _ ?_);intro k0 w0 hY fA cQ;have C8:=h.lt;have Ur:=h.ll;have h0:=h.only cQ;obtain⟨ws,yK,hw0⟩:=h0.blk;refine⟨i,Blk.eE yK 1 rfl,λw1 cJ=>?_⟩;have zb0:=yK.lt;have qC:aH w1 b 197 _:=(cJ.block b zb0 abd).trans yK;have ho1:mS (b+1) w1 rs acc:=h0.own.keep λq hq cd=>by
  refine cJ.block q cd ?_;simp only[aO];rintro rfl;have:=(h.own.blk hq.2).2;dsimp only at this;omega
 have z1:=cJ.size;obtain⟨y,w2,c1,c2,s',w3,c3,c4,c5⟩:=ZT ⟨k,t,nn,i⟩ ho1 aG (bf (jo 40 (show acc.length+1<=16385 by omega)) aN);have z2:=c2.size;have z3:=c5.size;have anK:∀q,rs.a=some ⟨q,0,none⟩->q≠k0:=λq hq=>by
  have:=(h.own.blk hq).2;dsimp only at this;omega
 refine⟨λq=>q=b,rfl,rs,Blk.eE qC 3 rfl,y,w2,c1,c2.same aab,bP.only c2,s',w3,c3,?_,?_,?_⟩
 ·exact c5.same (by intro x hx;simp only[aO]at hx;subst hx;exact⟨aG,λe=>anK _ e.2 rfl⟩)
 ·intro q hq cd;exact c5.block q cd aG
 have hb3:aH w3 b 197 [ah (T l),O ae (i:Int),ws.v,rs.v]:=(c5.block b aG aG).trans ((c2.block b aG aaa).trans qC);refine⟨b,3,_,197,by rw[fI],hb3,aaa,aG,λw4 dL Tt=>?_⟩;have Tt:aH w4 b 197 [ah (T l),O ae (i:Int),ws.v,s'.v]:=Tt;refine⟨i,Blk.eE Tt 1 rfl,b,1,_,197,by rw[Cf,fI],Tt,aaa,aG,λw5 eK H8=>⟨rfl,?_,s',?_⟩⟩
 ·have e1:aF (λk=>b<=k) w w1:=cQ.p0.trans (cJ.p (F:=λq=>q=k0) λb hb=>.inl abj) λq hq=>aG
  have e2:aF (λk=>b<=k) w w3:=(e1.cy c2).trans c5 λq hq=>.inl aG;have e3:aF (λk=>b<=k) w w4:=e2.trans (dL.p (F:=λq=>q=b) λb hb=>.inl abj) λq hq=>.inl aG;exact e3.trans (eK.p (F:=λq=>q=b) λb hb=>.inl abj) λq hq=>.inl aG
 have z4:=dL.size;have H8:aH w5 b 197 [ah (T l),O ae (IntKind.i64.wrap ((i:Int)+n)),ws.v,s'.v]:=H8;rw[gF aG aG]at H8;have up:aF (λk=>b<=k) w w5:=by
  have e1:aF (λk=>b<=k) w w1:=cQ.p0.trans (cJ.p (F:=λq=>q=k0) λb hb=>.inl abj) λq hq=>aG
  have e2:aF (λk=>b<=k) w w3:=(e1.cy c2).trans c5 λq hq=>.inl aG;have e3:aF (λk=>b<=k) w w4:=e2.trans (dL.p (F:=λq=>q=b) λb hb=>.inl abj) λq hq=>.inl aG;exact e3.trans (eK.p (F:=λq=>q=b) λb hb=>.inl abj) λq hq=>.inl aG
 have hgb:=h.gb;obtain⟨OD,jC,hw'⟩:=h.blk;have hwe:OD=ws:=by
  have:aH w0 b 197 [ah (T l),O ae (i:Int),OD.v,rs.v]:=(cQ.block b C8 aaa).trans jC;unfold aH at this yK;rw[this]at yK;simp[Sl.v]at yK;cases ws;cases OD;simp_all
 subst hwe;refine⟨⟨OD,H8,SliceF.nH dH aN hw' up λq hq _ hd=>aG⟩,?_,h.er.keep λcd=>up.block _ cd aG,hgb,hn,Ur⟩;have e4:mS (b+1) w4 s' _:=c4.keep λq hq cd=>dL.block q cd abd;exact e4.keep λq hq cd=>eK.block q cd abd
abbrev Tq:=Int×aJ×Int×Nat
def uk(m:aJ):Except Int Tq:=
 if 24<(m.takeWhile iH).length then .error 2 else .ok (if sJ.contains (m.takeWhile iH)then 2 else 1,m.takeWhile iH,0,(m.takeWhile iH).length)
def Ax(m:aJ):Except Int Tq:=
 if(gW m).2.2≠0 then .error (gW m).2.2 else if(gW m).2.1<(m.takeWhile iH).length then .error 4 else .ok (3,[],(gW m).1,(gW m).2.1)
def DX:aJ:=[123,125,40,41,91,93,59,44,61,43,45,42,47,37,60,62,33]
def KT(m:aJ):Bool:=match m with
 | c::d::_=>(d==61&&[60,62,61,33].contains c)||(d==c&&[38,124].contains c)||(c==45&&d==62)
 | _=>false
def nB(m:aJ):Nat:=if KT m then 2 else match m with
 | c::_=>if DX.contains c then 1 else 0
 | []=>0
def ul(m:aJ):Except Int Tq:=if nB m=0 then .error 4 else .ok (4,m.take (nB m),0,nB m)
def vG(m:aJ):Except Int Tq:=match m with
 | []=>.error 4
 | c::_=>if ra c then uk m else if fm c then Ax m else ul m
def O4(w':ay)(b:Nat)(l:aJ)(i:Nat)(acc:List Tk)(r:Except Int Tq)(v:az):Prop:=match r with
 | .error e=>v=O ae e/\∃rs,Cut w' b l i rs acc
 | .ok q=>v=O ae 0/\∃rs,Cut w' b l (i+q.2.2.2) rs (acc++[⟨q.1,q.2.1,q.2.2.1,i⟩])
theorem tF{p:UInt8->Bool}{l:aJ}:(l.takeWhile p).length<=l.length:=by
 rw[rb,cK];exact Nat.min_le_right _ _
theorem ZU{w:ay}{b:Nat}{l:aJ}{i:Nat}{rs:Sl}{acc:List Tk}(h:Cut w b l i rs acc)(ha:acc.length<=16384):
  aB au 166 #[ai (some ⟨b,0,none⟩)] w λe w'=>∃v,e=aq v/\aF (λk=>b<=k) w w'/\O4 w' b l i acc (uk (l.drop i)) v:=by
 refine aeS ⟨b,0,none⟩ (λv w'=>aF (λk=>b<=k) w w'/\O4 w' b l i acc (uk (l.drop i)) v) w ?_;obtain⟨ws,hb,hw⟩:=h.blk;have Ur:=h.ll;refine(QU hb h.il aG).mono ?_;rintro _ w0 ⟨rfl,cQ⟩;have hwl:((l.drop i).takeWhile iH).length<=l.length-i:=by
  have:=tF (p:=iH) (l:=l.drop i);rwa[cM]at this
 have Ib:=h.il;refine⟨_,rfl,λhc=>⟨cQ.p0,?_⟩,λhc=>?_⟩
 ·rw[dP]at hc;rw[uk,aZ abt];exact⟨rfl,rs,h.only cQ⟩
 rw[dP]at hc;have hc:¬24<((l.drop i).takeWhile iH).length:=abN
 rw[uk,aX hc];generalize hm:(l.drop i).takeWhile iH=m at*
 have h0:=h.only cQ;obtain⟨OD,jC,hw'⟩:=h0.blk;refine⟨λk w'=>k=(if sJ.contains m then 2 else 1)/\aA [] w w',?_,OD,Blk.eE jC 2 rfl,(sI hw' m).mono ?_⟩
 ·rintro _ w1 ⟨rfl,cJ⟩;refine(ret (XE (T m) (λv w'=>v=ah (T m)/\aA [] w1 w') w1 ?_)).mono ?_
  ·refine(Tryz.stringslite_Clone (T m) w1 abC).mono ?_;rintro _ w2 ⟨rfl,hw⟩;exact⟨_,rfl,rfl,Only.ov hw⟩
  rintro _ w2 ⟨rfl,dw⟩;rw[dP];refine⟨_,rfl,(KS (h.only (cJ.cy dw)) _ m 0 0 m.length aG ha).mono ?_⟩;rintro _ w3 ⟨rfl,dE,WM,hC⟩;exact⟨rfl,(cJ.cy dw).oH dE,rfl,WM,hC⟩
 rintro _ w4 ⟨rfl,dL⟩;refine⟨_,rfl,λhb=>⟨by rw[aZ hb],cQ.cy dL⟩,λhb=>⟨by rw[hb];rfl,cQ.cy dL⟩⟩
theorem QY{w:ay}{b:Nat}{l:aJ}{i:Nat}{rs:Sl}{acc:List Tk}(h:Cut w b l i rs acc)(ha:acc.length<=16384):
  aB au 168 #[ai (some ⟨b,0,none⟩)] w λe w'=>∃v,e=aq v/\aF (λk=>b<=k) w w'/\O4 w' b l i acc (Ax (l.drop i)) v:=by
 refine aeX ⟨b,0,none⟩ (λv w'=>aF (λk=>b<=k) w w'/\O4 w' b l i acc (Ax (l.drop i)) v) w ?_;obtain⟨ws,hb,hw⟩:=h.blk;have Ur:=h.ll;have Ib:=h.il;refine(Av hb h.il).mono ?_;rintro _ w0 ⟨rfl,cQ⟩;have yL:(l.drop i).length=l.length-i:=cM;refine⟨_,rfl,(QX (h.er.only cQ) aG).mono ?_⟩;rintro _ w1 ⟨rfl,cJ⟩;have jV:=cQ.cy cJ;refine⟨_,_,_,rfl,λhe=>⟨jV.p0,?_⟩,λhe=>?_⟩
 ·rw[Ax,aZ acN];exact⟨rfl,rs,h.only jV⟩
 have he:¬(gW (l.drop i)).2.2≠0:=acN
 have hk:(gW (l.drop i)).2.1<=(l.drop i).length:=by
  have:=tF (p:=fm) (l:=l.drop i);unfold gW;split
  ·exact bB _
  split
  ·exact bB _
  split
  ·exact this
  exact bB _
 obtain⟨OD,jC,hw'⟩:=(h.only jV).blk;refine(QU jC h.il aG).mono ?_;rintro _ w2 ⟨rfl,dw⟩;have pG:=jV.cy dw;refine⟨_,rfl,?_⟩;dsimp only;rw[dP];refine⟨λhc=>⟨pG.p0,?_⟩,λhc=>?_⟩
 ·rw[Ax,aX he,aZ abt];exact⟨rfl,rs,h.only pG⟩
 rw[Ax,aX he,aX abN];refine(KS (h.only pG) 3 [] _ 0 (gW (l.drop i)).2.1 aG ha).mono ?_;rintro _ w3 ⟨rfl,dE,WM,hC⟩;exact⟨rfl,pG.oH dE,rfl,WM,hC⟩
theorem sK(w:ay)(p:Addr)(n:Nat)(a:Addr):(w.freeze p n).cell? a=w.cell? a:=by
 unfold World.freeze;split
 ·rfl
 unfold World.cell?;simp only[gJ];by_cases Us:p.block=a.block
 ·rw[aZ Us];cases h:w.heap[a.block]? with
  | none=>rfl
  | some o=>
   cases o with
   | cells c e f=>obtain⟨lo,hi⟩:=f;rfl
   | _=>rfl
 rw[aX Us]
theorem sL(w:ay)(p:Addr)(n:Nat):aF (λk=>k=p.block) w (w.freeze p n):=by
 unfold World.freeze;split
 ·exact OnlyP.refl _ _
 exact⟨rfl,rfl,rfl,aaa,λk hk hn=>by
  simp only[gJ];rw[aX λe=>hn e.symm]⟩
theorem ZV{w:ay}{F:aL}{s:Sl}{g B:Nat}{l:aJ}(ha:s.a=some ⟨g,0,none⟩)(h:Own jq 1 5 B w F s l)(cd:g<w.heap.size):
  ∃w',(convert 214 214 (Sl.v s)).run au w=.ok (Sl.v s) w'/\aD jq 1 w' (λ_=>True) s l/\aF (λk=>k=g) w w':=by
 have hs:=Cm h;obtain⟨g',css,tail,a1,a2,a4,_⟩:=h.resolve_left (λe=>by rw[e.1]at ha;cases ha);rw[ha]at a1;injection a1 with a1;injection a1 with a1;subst a1;have Ic:w.shape? g=some (5,(css.flatten++tail).toArray.size):=by
  unfold World.shape?;unfold aH at a4;rw[a4]
 have hu:Tryz.prog.underlying 214=some (.slice 5):=by kernel_rfl
 have hu2:Tryz.prog.underlying 5=some (.int .u8):=by kernel_rfl
 refine⟨w.freeze ⟨g,(css.flatten++tail).toArray.size,none⟩ 1,?_,⟨hs.len,hs.cap,hs.nil0,hs.big,λj x hj=>?_⟩,sL w ⟨g,(css.flatten++tail).toArray.size,none⟩ 1⟩
 ·unfold Sl.v;rw[ha];simp[convert,run_underlying hu,run_underlying hu2,markStringish,Ic,Result.andThen]
 obtain⟨base,cs,g1,g2,g3,g4,g5⟩:=hs.at_ j x hj;exact⟨base,cs,g1,trivial,g3,λq v hq=>by rw[sK];exact g4 q v hq,g5⟩
theorem u8i{c d:UInt8}:((c.toNat:Int)==(d.toNat:Int))=(c==d):=by
 rw[bT];simp only[de];constructor
 ·intro h;exact T3.1 aG
 rintro rfl;rfl
theorem NC{m:aJ}(h:KT m=true):2<=m.length:=by
 match m,h with
 | _::_::_,_=>simp
theorem Ay{m:aJ}:nB m<=m.length:=by
 unfold nB;split
 ·exact NC (by assumption)
 split
 ·split
  ·simp
  exact bB _
 exact bB _
theorem ZW{w:ay}{b:Nat}{l:aJ}{i:Nat}{rs:Sl}{acc:List Tk}(h:Cut w b l i rs acc)(ha:acc.length<=16384)(fX:i<l.length):
  aB au 169 #[ai (some ⟨b,0,none⟩)] w λe w'=>∃v,e=aq v/\aF (λk=>b<=k) w w'/\O4 w' b l i acc (ul (l.drop i)) v:=by
 refine aeY ⟨b,0,none⟩ (λv w'=>aF (λk=>b<=k) w w'/\O4 w' b l i acc (ul (l.drop i)) v) w ?_;obtain⟨ws,hb,hw⟩:=h.blk;have Ur:=h.ll;have Ib:=h.il;refine(Av hb h.il).mono ?_;rintro _ w0 ⟨rfl,cQ⟩;have yL:(l.drop i).length=l.length-i:=cM;generalize hm:l.drop i=m at*
 obtain⟨c,r,rfl⟩:∃c r,m=c::r:=by
  cases m with
  | nil=>simp at yL;omega
  | cons c r=>exact⟨c,r,rfl⟩
 have g0:(0:Int)<=0/\(T (c::r))[0]? =some c:=⟨oa _,by rw[xW];rfl⟩
 refine⟨T (c::r),rfl,λi0 w'=>i0=(if DX.contains c then 1 else 0:Int)/\aA [] w w',?_,c,g0,?_⟩
 ·rintro _ w1 ⟨rfl,cJ⟩;refine⟨λi1 w'=>i1=(nB (c::r):Int)/\aA [] w w',?_,λb w'=>b=KT (c::r)/\aA [] w w',?_,?_,?_⟩
  ·rintro _ w2 ⟨rfl,dw⟩;refine⟨λhz=>⟨dw.p0,?_⟩,λhz=>⟨nB (c::r),⟨rfl,by rw[dP];exact Ay⟩,?_⟩⟩
   ·rw[ul,aZ (by have:(nB (c::r):Int)=0:=(by simpa using hz);omega)];exact⟨rfl,rs,h.only dw⟩
   have hz:¬nB (c::r)=0:=by
    intro e;rw[e]at hz;simp at hz
   rw[ul,aX hz,zM,fi,kr];have hn:=Ay (m:=c::r);refine(ret (XE (T _) (λv w'=>v=ah (T ((c::r).take (nB (c::r))))/\aA [] w2 w') w2 ?_)).mono ?_
   ·refine(Tryz.stringslite_Clone (T _) w2 (by rw[dP,cK];omega)).mono ?_;rintro _ w3 ⟨rfl,hw⟩;exact⟨_,rfl,rfl,Only.ov hw⟩
   rintro _ w3 ⟨rfl,dE⟩;refine⟨_,rfl,(KS (h.only (dw.cy dE)) 4 _ 0 0 (nB (c::r)) aG ha).mono ?_⟩;rintro _ w4 ⟨rfl,dL,WM,hC⟩;exact⟨rfl,(dw.cy dE).oH dL,rfl,WM,hC⟩
  ·rintro _ w5 ⟨rfl,eK⟩;refine⟨λhs=>⟨by rw[nB,aZ hs];rfl,eK⟩,λhs=>⟨?_,eK⟩⟩;have e:nB (c::r)=if DX.contains c then 1 else 0:=by rw[nB,aX (by rw[hs];decide)]
   rw[e];split<;>rfl
  ·intro hc;rw[dP]at hc;obtain⟨d,r,rfl⟩:∃d r',r=d::r':=by
    cases r with
    | nil=>simp at hc
    | cons d r=>exact⟨d,r,rfl⟩
   have g1:(0:Int)<=1/\(T (c::d::r))[1]? =some d:=⟨aN,by rw[xW];rfl⟩
   have ex:(T (c::d::r)).extract 0 2=T [c,d]:=by rw[zM];rfl
   have sz:2<=(T (c::d::r)).size:=by rw[dP];simp
   have lit:(ar #[45,62])=T [45,62]:=rfl;have eqx:((T [c,d]).toList==(T [45,62]).toList)=(c==45&&d==62):=by
    rw[mE,bT];simp
   have e61:((d.toNat:Int)==61)=(d==61):=u8i (d:=61);have hs2:KT (c::d::r)=((d==61&&[60,62,61,33].contains c)||(d==c&&[38,124].contains c)||(c==45&&d==62)):=rfl;rw[hs2];generalize JF:([60,62,61,33]:aJ).contains c=p1;generalize hp2:([38,124]:aJ).contains c=p2;have H7:((((T (c::d::r)).extract 0 2).toList)==((ar #[45,62]).toList))=(c==45&&d==62):=by rw[ex,lit,eqx]
   refine⟨d,g1,λTw=>⟨c,g0,λw6 eI=>?_⟩,λTw=>⟨d,g1,c,g0,λOE=>⟨c,g0,λdS ey=>?_⟩,λOE=>⟨sz,λfP eH=>⟨?_,cJ.cy eH⟩⟩⟩⟩
   ·rw[e61]at Tw;obtain⟨s,w7,k1,k2,k3,_⟩:=wX w6 [60,62,61,33] (n:=4) (parts:=#[(0,.int .u8 60),(1,.int .u8 62),(2,.int .u8 61),(3,.int .u8 33)]) rfl rfl aN aN;refine⟨s,w7,k1,(Gm (Cm k2) c).mono ?_⟩;rintro _ w8 ⟨rfl,fV⟩;have kT:=cJ.cy (eI.cy (k3.cy fV));rw[JF];refine⟨_,rfl,λhb=>⟨by rw[Tw,hb];rfl,kT⟩,λhb=>⟨d,g1,c,g0,λOE=>⟨c,g0,?_⟩,λOE=>⟨sz,?_,kT⟩⟩⟩
    ·rw[u8i]at OE;obtain⟨s,w9,k1,k2,k3,_⟩:=wX w8 [38,124] (n:=2) (parts:=#[(0,.int .u8 38),(1,.int .u8 124)]) rfl rfl aN aN;refine⟨s,w9,k1,(Gm (Cm k2) c).mono ?_⟩;rintro _ dR ⟨rfl,eO⟩;have hO:=kT.cy (k3.cy eO);rw[hp2];exact⟨_,rfl,λux=>⟨by rw[Tw,hb,OE,ux];rfl,hO⟩,λux=>⟨sz,by rw[H7,Tw,hb,OE,ux];rfl,hO⟩⟩
    rw[u8i]at OE;rw[H7,Tw,hb,OE];rfl
   ·rw[e61]at Tw;rw[u8i]at OE;obtain⟨s,fp,k1,k2,k3,_⟩:=wX dS [38,124] (n:=2) (parts:=#[(0,.int .u8 38),(1,.int .u8 124)]) rfl rfl aN aN;refine⟨s,fp,k1,(Gm (Cm k2) c).mono ?_⟩;rintro _ fD ⟨rfl,eL⟩;have hO:=cJ.cy (ey.cy (k3.cy eL));rw[hp2];exact⟨_,rfl,λux=>⟨by rw[Tw,OE,ux];rfl,hO⟩,λux=>⟨sz,by rw[H7,Tw,OE,ux];rfl,hO⟩⟩
   rw[e61]at Tw;rw[u8i]at OE;rw[H7,Tw,OE];rfl
  intro hc iP iX;rw[dP]at hc;have hr:r=[]:=by
   cases r with
   | nil=>rfl
   | cons d r=>exact absurd (aY hc) (by simp only[bp];omega)
  subst hr;exact⟨rfl,cJ.cy iX⟩
 obtain⟨s,jl,k1,k2,k3,k4⟩:=wX w0 DX (n:=17) (parts:=#[(0,.int .u8 123),(1,.int .u8 125),(2,.int .u8 40),(3,.int .u8 41),(4,.int .u8 91),(5,.int .u8 93),(6,.int .u8 59),(7,.int .u8 44),(8,.int .u8 61),(9,.int .u8 43),(10,.int .u8 45),(11,.int .u8 42),(12,.int .u8 47),(13,.int .u8 37),(14,.int .u8 60),(15,.int .u8 62),(16,.int .u8 33)]) rfl rfl aN aN;obtain⟨gN,c1,c2,c3⟩:=ZV k4 k2 (k2.blk k4).2;have lp:aA [] w0 gN:=((k3.p0 (F:=λk=>w0.heap.size<=k)).trans c3 λk hk=>.inl aG).only λk hk=>hk;refine⟨s,jl,k1,s,gN,c1,(Gm c2 c).mono ?_⟩;rintro _ jL ⟨rfl,kT⟩;have hO:=cQ.cy (lp.cy kT);exact⟨_,rfl,λhb=>⟨by rw[aZ hb],hO⟩,λhb=>⟨by rw[hb];rfl,hO⟩⟩
theorem O4.int{w':ay}{b:Nat}{l:aJ}{i:Nat}{acc:List Tk}{r:Except Int Tq}{v:az}(h:O4 w' b l i acc r v):∃k:Int,v=O ae k:=by
 unfold O4 at h;split at h
 ·exact⟨_,h.1⟩
 exact⟨_,h.1⟩
theorem Ve{w:ay}{b:Nat}{l:aJ}{i:Nat}{rs:Sl}{acc:List Tk}(h:Cut w b l i rs acc)(ha:acc.length<=16384)(fX:i<l.length):
  aB au 126 #[ai (some ⟨b,0,none⟩)] w λe w'=>∃v,e=aq v/\aF (λk=>b<=k) w w'/\O4 w' b l i acc (vG (l.drop i)) v:=by
 refine aeQ ⟨b,0,none⟩ (λv w'=>aF (λk=>b<=k) w w'/\O4 w' b l i acc (vG (l.drop i)) v) w ?_;obtain⟨ws,hb,hw⟩:=h.blk;have hx:l[i]? =some l[i]:=aQ fX;generalize l[i]=x at hx;have ht:vG (l.drop i)=if ra x then uk (l.drop i)else if fm x then Ax (l.drop i)else ul (l.drop i):=by
  rw[Co hx];rfl
 rw[ht];refine⟨T l,Blk.eE hb 0 rfl,i,Blk.eE hb 1 rfl,x,⟨bE i,by rw[xW,aV,hx]⟩,λw0 cQ=>(Au w0 x).mono ?_⟩;rintro _ w1 ⟨rfl,cJ⟩;have jV:=cQ.cy cJ;refine⟨_,rfl,λhl=>?_,λhl=>(KP w1 x).mono ?_⟩
 ·rw[aZ hl];refine(ZU (h.only jV) ha).mono ?_;rintro _ w2 ⟨v,rfl,dw,hd⟩;obtain⟨k,rfl⟩:=hd.int;exact⟨k,rfl,jV.oH dw,hd⟩
 rintro _ w3 ⟨rfl,dE⟩;have Bt:=jV.cy dE;rw[aX (by rw[hl];decide)];refine⟨_,rfl,λhd=>?_,λhd=>?_⟩
 ·rw[aZ hd];refine(QY (h.only Bt) ha).mono ?_;rintro _ w2 ⟨v,rfl,dw,hd⟩;obtain⟨k,rfl⟩:=hd.int;exact⟨k,rfl,Bt.oH dw,hd⟩
 rw[aX (by rw[hd];decide)];refine(ZW (h.only Bt) ha fX).mono ?_;rintro _ w2 ⟨v,rfl,dw,hd⟩;obtain⟨k,rfl⟩:=hd.int;exact⟨k,rfl,Bt.oH dw,hd⟩
theorem vH{m:aJ}{q:Tq}(h:vG m=.ok q):1<=q.2.2.2:=by
 cases m with
 | nil=>cases h
 | cons c r=>
  simp only[vG]at h;split at h
  ·rename_i hc;unfold uk at h;split at h
   ·cases h
   injection h with h;subst h;have:iH c=true:=by unfold iH;rw[hc];rfl
   dsimp only;rw[eN,aZ this,bp];omega
  split at h
  ·rename_i hc;unfold Ax at h;split at h
   ·cases h
   split at h
   ·cases h
   rename_i h1 h2;injection h with h;subst h;dsimp only;rw[eN,aZ (by unfold iH;rw[hc,Kb]),bp]at h2;omega
  unfold ul at h;split at h
  ·cases h
  injection h with h;subst h;dsimp only;omega
theorem KU{m:aJ}{e:Int}(h:vG m=.error e):e≠0:=by
 cases m with
 | nil=>injection h with h;omega
 | cons c r=>
  simp only[vG]at h;split at h
  ·unfold uk at h;split at h
   ·injection h with h;omega
   cases h
  split at h
  ·unfold Ax at h;split at h
   ·injection h with h;omega
   split at h
   ·injection h with h;omega
   cases h
  unfold ul at h;split at h
  ·injection h with h;omega
  cases h
def Az(l:aJ):Nat->Nat->Except (Int×Nat) (List Tk)
 | 0,_=>.ok []
 | f+1,i=>
  if l.length<=i+nA false (l.drop i)then .ok [⟨5,[],0,(i+nA false (l.drop i):Nat)⟩]
  else match vG (l.drop (i+nA false (l.drop i)))with
   | .error e=>.error (e,i+nA false (l.drop i))
   | .ok q=>match Az l f (i+nA false (l.drop i)+q.2.2.2)with
    | .error x=>.error x
    | .ok r=>.ok (⟨q.1,q.2.1,q.2.2.1,(i+nA false (l.drop i):Nat)⟩::r)
theorem QZ{l:aJ}:(gW l).2.1<=l.length:=by
 have:=tF (p:=fm) (l:=l);unfold gW;split
 ·exact bB _
 split
 ·exact bB _
 split
 ·exact this
 exact bB _
theorem DY{m:aJ}{q:Tq}(h:vG m=.ok q):q.2.2.2<=m.length:=by
 cases m with
 | nil=>cases h
 | cons c r=>
  simp only[vG]at h;split at h
  ·unfold uk at h;split at h
   ·cases h
   injection h with h;subst h;exact tF
  split at h
  ·unfold Ax at h;split at h
   ·cases h
   split at h
   ·cases h
   injection h with h;subst h;exact QZ
  unfold ul at h;split at h
  ·cases h
  injection h with h;subst h;exact Ay
theorem Q0{l:aJ}{i:Nat}(hi:i<=l.length):i+nA false (l.drop i)<=l.length:=by
 have:=DW (b:=false) (l:=l.drop i);rw[cM]at this;omega
theorem Gq(l:aJ):∀(f g i:Nat),i<=l.length->l.length<i+f->l.length<i+g->Az l f i=Az l g i
 | 0,_,i,hi,h,_=>aG
 | _,0,i,hi,_,h=>aG
 | f+1,g+1,i,hi,h1,h2=>by
  rw[Az,Az];split
  ·rfl
  split
  ·rfl
  rename_i q hq;have h3:=vH hq;have h4:=DY hq;rw[cM]at h4;rw[Gq l f g _ aG aG aG]
def vI(l:aJ)(i:Nat):Except (Int×Nat) (List Tk):=Az l (l.length+1) i
theorem qe{l:aJ}{i:Nat}(hi:i<=l.length):vI l i=if l.length<=i+nA false (l.drop i)then .ok [⟨5,[],0,(i+nA false (l.drop i):Nat)⟩]
  else match vG (l.drop (i+nA false (l.drop i)))with
   | .error e=>.error (e,i+nA false (l.drop i))
   | .ok q=>match vI l (i+nA false (l.drop i)+q.2.2.2)with
    | .error x=>.error x
    | .ok r=>.ok (⟨q.1,q.2.1,q.2.2.1,(i+nA false (l.drop i):Nat)⟩::r):=by
 unfold vI;rw[Az];split
 ·rfl
 split
 ·rfl
 rename_i q hq;have h3:=vH hq;have h4:=DY hq;rw[cM]at h4;rw[Gq l l.length (l.length+1) _ aG aG aG]
def dC(l:aJ):List Tk×Int×Int:=if 16384<l.length then([],2, -1)else match vI l 0 with
 | .error x=>([],x.1,(x.2:Nat))
 | .ok r=>(r,0,0)
def iZ(acc:List Tk):Except (Int×Nat) (List Tk)->Except (Int×Nat) (List Tk)
 | .error x=>.error x
 | .ok r=>.ok (acc++r)
theorem tG(b:Bool):∀(l:aJ),nA false (l.drop (nA b l))=0
 | []=>by simp[nA]
 | c::r=>by
  cases b with
  | true=>
   rw[nA,jp,gp];exact tG _ r
  | false=>
   rw[nA];split
   ·rw[jp,gp];exact tG _ r
   split
   ·rw[jp,gp];exact tG _ r
   rename_i h1 h2;rw[fi,nA,aX h1,aX h2]
theorem Cp{l:aJ}{i:Nat}(hi:i<=l.length):vI l i=vI l (i+nA false (l.drop i)):=by
 have h1:=Q0 hi;have h2:nA false (l.drop (i+nA false (l.drop i)))=0:=by
  rw[<-oM];exact tG false (l.drop i)
 rw[qe hi,qe h1,h2,fE]
theorem Vf{a b:List Tk}{x:Except (Int×Nat) (List Tk)}:iZ a (iZ b x)=iZ (a++b) x:=by
 cases x with
 | error _=>rfl
 | ok r=>simp[iZ]
theorem Gs{w:ay}(l:aJ)(hE:Er w):
  aB au 87 #[ah (T l)] w λe w'=>∃rs:Sl,e=aq (ak #[rs.v,aj #[O ae (dC l).2.1,O ae (dC l).2.2]])/\mS w.heap.size w' rs (dC l).1/\aA [] w w':=by
 refine(aeG (T l) (λv w'=>∃rs:Sl,v=(ak #[rs.v,aj #[O ae (dC l).2.1,O ae (dC l).2.2]])/\mS w.heap.size w' rs (dC l).1/\aA [] w w') w ?_).mono (by
  rintro e w' ⟨v,rfl,rs,rfl,h⟩;exact⟨rs,rfl,h⟩)
 rw[dP];refine⟨λhc k0 w0 _ _ hO=>⟨Sl.nil,?_,?_,hO⟩,λhc k1 w1 j9 jW cJ=>(KR w1).mono ?_⟩
 ·rw[dC,aZ abt]
 ·rw[dC,aZ abt];exact Own.nil _ _ _ _ _ _
 have Ur:l.length<=16384:=abN
 have YI:dC l=match vI l 0 with
  | .error x=>([],x.1,(x.2:Nat))
  | .ok r=>(r,0,0):=by rw[dC,aX aG]
 rintro _ w2 ⟨ws,rfl,hws,dw⟩;refine⟨ws,rfl,dw.same aab,λb w3 hb jC dE hblk=>?_⟩;have eL:=cJ.cy (dw.cy dE);have z1:=cJ.size;have z2:=dw.size;have z3:=dE.size;have hC0:Cut w3 b l 0 Sl.nil []:=⟨⟨ws,hblk,(SliceF.only dH aN ((vF hws).inHeap dH aN) dE aaa).mono dH λk hk=>aG⟩,Own.nil _ _ _ _ _ _,hE.only eL,by have:=hE.lt;omega,bB _,Ur⟩
 have sm:∀{u u':ay},w2.heap.size<=u.heap.size->aF (λk=>b<=k) u u'->cj [k1] u u':=λhu hO=>hO.same (by intro x hx;simp only[aO]at hx;subst hx;omega);refine(QW hblk (bB _) aG).mono ?_;rintro _ w4 ⟨rfl,dL,Tt⟩;have p4:aF (λk=>b<=k) w3 w4:=dL.p λx hx=>.inl aaD;have hC4:Cut w4 b l (0+nA false (l.drop 0)) Sl.nil []:=hC0.move dL (Q0 (bB _)) λOD h'=>by
  have:OD=ws:=by
   unfold aH at h' hblk;rw[h']at hblk;simp[Sl.v]at hblk;cases ws;cases OD;simp_all
  subst this;exact Tt
 refine⟨rfl,sm aG p4,T l,_,ws,Sl.nil,Tt,λnv e1 e2 s0 i0 l1 l2 w'=>e1=0/\e2=0/\s0=T l/\∃(i:Nat) (acc:List Tk),i0=(i:Int)/\Cut w' b l i l2 acc/\acc.length<=i/\nA false (l.drop i)=0/\vI l 0=iZ acc (vI l i)/\nv=l.length-i/\aF (λk=>b<=k) w3 w'/\aH w' b 197 [ah (T l),O ae (i:Int),l1.v,l2.v],l.length-(0+nA false (l.drop 0)),?_,?_⟩
 ·refine⟨rfl,rfl,rfl,_,[],rfl,hC4,bB _,?_,?_,rfl,p4,Tt⟩
  ·rw[<-oM];exact tG false (l.drop 0)
  rw[<-Cp (bB _)];cases vI l 0<;>rfl
 rintro nv _ _ _ _ l1 rs w5 ⟨rfl,rfl,rfl,i,acc,rfl,hC,fl,hsk,nI,rfl,eK,H8⟩;have z5:=eK.size;have Ib:=hC.il;refine(XJ H8).mono ?_;rintro _ w6 ⟨rfl,eI⟩;have hC6:=hC.only eI;have hb6:aH w6 b 197 [ah (T l),O ae (i:Int),l1.v,rs.v]:=(eI.block b H8.lt aaa).trans H8;have z6:=eI.size;have nS:=qe hC.il;rw[hsk,fE]at nS;refine⟨_,rfl,eI.same aab,T l,i,l1,rs,hb6,λhc=>?_,λhc=>?_⟩
 ·have cd:i<l.length:=aaw
  rw[aX aG]at nS;refine(Ve hC6 aG cd).mono ?_;rintro _ w7 ⟨v,rfl,fL,hd⟩;have p7:aF (λk=>b<=k) w3 w7:=(eK.cy eI).trans fL λk hk=>.inl hk;have z7:=fL.size;unfold O4 at hd;cases hq:vG (l.drop i)with
  | error e=>
   rw[hq]at hd nS;obtain⟨rfl,rs7,hC7⟩:=hd;obtain⟨ws7,Tu,_⟩:=hC7.blk;refine⟨e,rfl,sm aG fL,T l,i,ws7,rs7,Tu,λ_ w8 fV _=>⟨Sl.nil,?_,?_,?_⟩,λhe=>absurd (KU hq) acN⟩
   ·rw[YI,nI,nS];rfl
   ·rw[YI,nI,nS];exact Own.nil _ _ _ _ _ _
   exact(((eL.p0 (F:=λk=>w.heap.size<=k)).trans p7 λk hk=>.inl aG).trans (fV.p (F:=λk=>k=k1) λx hx=>.inl abq) λk hk=>.inl aG).only λk hk=>hk
  | ok q=>
   rw[hq]at hd nS;obtain⟨rfl,rs7,hC7⟩:=hd;obtain⟨ws7,Tu,_⟩:=hC7.blk;have hq1:=vH hq;have h7l:=hC7.il;refine⟨0,rfl,sm aG fL,T l,(i+q.2.2.2:Nat),ws7,rs7,Tu,λhe=>(by simp at he),λ_=>(QW Tu h7l aG).mono ?_⟩;rintro _ w9 ⟨rfl,gy,hb9⟩;have p9:aF (λk=>b<=k) w7 w9:=gy.p λx hx=>.inl aaD;have hC9:=hC7.move gy (Q0 h7l) λOD h'=>by
    have:OD=ws7:=by
     unfold aH at h' Tu;rw[h']at Tu;simp[Sl.v]at Tu;cases ws7;cases OD;simp_all
    subst this;exact hb9
   refine⟨rfl,sm aG p9,T l,_,ws7,rs7,hb9,l.length-(i+q.2.2.2+nA false (l.drop (i+q.2.2.2))),aG,rfl,rfl,rfl,_,_,rfl,hC9,?_,?_,?_,rfl,p7.trans p9 λk hk=>.inl hk,hb9⟩
   ·rw[aW,bO];omega
   ·rw[<-oM];exact tG false _
   rw[nI,nS,<-Cp h7l,<-Vf];dsimp only;cases vI l (i+q.2.2.2)<;>rfl
 have mQ:l.length<=i:=aaw
 rw[aZ mQ]at nS;refine(KS hC6 5 [] 0 0 0 aG aG).mono ?_;rintro _ dR ⟨rfl,eO,abE,ahd⟩;obtain⟨anP,abw,_⟩:=ahd.blk;have WN:aF (λk=>b<=k) w3 dR:=(eK.cy eI).trans eO λk hk=>.inl hk;have htt:dC l=(acc++[⟨5,[],0,(i:Nat)⟩],0,0):=by
  rw[YI,nI,nS];rfl
 refine⟨rfl,sm aG eO,T l,_,anP,abE,abw,λdS ey _=>⟨abE,?_,?_,?_⟩⟩
 ·rw[htt]
 ·rw[htt];have:mS (b+1) dS abE _:=ahd.own.keep λk hk cd=>ey.block k cd abd;exact Own.low this aG
 exact(((eL.p0 (F:=λk=>w.heap.size<=k)).trans WN λk hk=>.inl aG).trans (ey.p (F:=λk=>k=k1) λx hx=>.inl abq) λk hk=>.inl aG).only λk hk=>hk
inductive Ex where
 | mk (k n:Int) (s:aJ) (op:Int) (subs:List Ex) (a:Int)
def Ex.k:Ex->Int | .mk k _ _ _ _ _=>k
def Ex.n:Ex->Int | .mk _ n _ _ _ _=>n
def Ex.s:Ex->aJ | .mk _ _ s _ _ _=>s
def Ex.op:Ex->Int | .mk _ _ _ op _ _=>op
def Ex.fZ:Ex->List Ex | .mk _ _ _ _ l _=>l
def Ex.a:Ex->Int | .mk _ _ _ _ _ a=>a
def tk0:Tk:=⟨5,[],0, -1⟩
def tk(ts:List Tk)(i:Nat):Tk:=(ts[i]?).getD tk0
def sg(ts:List Tk)(i:Nat)(s:aJ):Bool:=(tk ts i).k==4&&decide ((tk ts i).t=s)
def ir(ts:List Tk)(i:Nat):Int×Int:=(if(tk ts i).k=5 then 3 else 4,(tk ts i).a)
theorem KV{ts:List Tk}{i:Nat}(h:i<ts.length):ts[i]? =some (tk ts i):=by
 unfold tk;rw[aQ h];rfl
def wZ(ts:List Tk):Prop:=∀i,i<ts.length->((tk ts i).k=5↔i+1=ts.length)
theorem wZ.next{ts:List Tk}(h:wZ ts){i:Nat}(hi:i<ts.length)(hk:(tk ts i).k≠5):i+1<ts.length:=by
 have h2:¬(i+1=ts.length):=λe=>hk ((h i hi).2 e);omega
theorem DZ{ts:List Tk}{i:Nat}{s:aJ}(h:sg ts i s=true):(tk ts i).k≠5:=by
 simp only[sg,aU,de]at h;rw[h.1];decide
def BN:List (aJ):=[[],[43],[45],[42],[47],[37],[60],[60,61],[62],[62,61],[61,61],[33,61],[38,38],[124,124],[45],[33]]
def lH(op:Int):Int:=if 3<=op/\op<=5 then 5 else if op=1∨op=2 then 4 else if 6<=op/\op<=9 then 3 else if op=10∨op=11 then 2 else if op=12 then 1 else if op=13 then 0 else 6
def lX(op:Nat):aJ:=(BN[op]?).getD []
def xa(ts:List Tk)(k:Int)(i:Nat):Nat->Nat->Int
 | 0,_=>0
 | f+1,op=>if lH (op:Int)=k/\sg ts i (lX op)=true then(op:Int)else xa ts k i f (op+1)
def AA(ts:List Tk)(k:Int)(i:Nat):Int:=xa ts k i 13 1
theorem xb{ts:List Tk}{k:Int}{i:Nat}:∀(f op:Nat),xa ts k i f op≠0->(tk ts i).k≠5
 | 0,_,h=>absurd rfl h
 | f+1,op,h=>by
  rw[xa]at h;split at h
  ·rename_i hc;exact DZ hc.2
  exact xb f _ h
abbrev Pr:=Except (Int×Int) (Ex×Nat)
def Vg(g:Ex->Ex):Pr->Pr
 | .error e=>.error e
 | .ok (x,j)=>.ok (g x,j)
def ND:Pr->(Ex->Nat->Pr)->Pr
 | .error e,_=>.error e
 | .ok (x,j),g=>g x j
def BO(ts:List Tk):Pr->Pr
 | .error e=>.error e
 | .ok (x,j)=>if sg ts j [41]then .ok (x,j+1)else .error (ir ts j)
def rz(d:Nat)(a:Int)(r:Pr):Pr:=if d=20 then .error (21,a)else r
def Vh(ts:List Tk)(i:Nat):Pr:=
 if sg ts (i+1) [40]then
  (if(tk ts (i+2)).k=1 then
   (if sg ts (i+3) [41]then .ok (.mk 3 0 (tk ts (i+2)).t 0 [] (tk ts i).a,i+4)else .error (ir ts (i+3)))
  else .error (ir ts (i+2)))
 else .error (ir ts (i+1))
def D1(ts:List Tk)(E0 N8:Nat->Pr)(d i:Nat):Pr:=
 if(sg ts i [45]||sg ts i [33])=true then Vg (λx=>.mk 4 0 [] (if(tk ts i).t=[33]then 15 else 14) [x] (tk ts i).a) (rz d (tk ts i).a (N8 (i+1)))
 else if sg ts i [40]=true then rz d (tk ts i).a (BO ts (E0 (i+1)))
 else if(tk ts i).k=3 then .ok (.mk 1 (tk ts i).n [] 0 [] (tk ts i).a,i+1)
 else if(tk ts i).k=1 then .ok (.mk 2 0 (tk ts i).t 0 [] (tk ts i).a,i+1)
 else if(tk ts i).k=2/\(tk ts i).t=[105,110]then Vh ts i
 else .error (ir ts i)
def nC(ts:List Tk)(E:Nat->Pr)(k:Int):Nat->Ex->Nat->Pr
 | 0,x,j=>.ok (x,j)
 | g+1,x,j=>if AA ts k j=0 then .ok (x,j)else ND (E (j+1)) λy j'=>nC ts E k g (.mk 5 0 [] (AA ts k j) [x,y] x.a) j'
def fU(ts:List Tk):Nat->Nat->Nat->Nat->Pr
 | 0,_,_,_=>.error (1,0)
 | f+1,k,d,i=>if k=6 then D1 ts (fU ts f 0 (d+1)) (fU ts f 6 (d+1)) d i else ND (fU ts f (k+1) d i) λx j=>nC ts (fU ts f (k+1) d) (k:Int) (ts.length-j) x j
theorem KW{g:Ex->Ex}{r:Pr}{x:Ex}{j:Nat}(h:Vg g r=.ok (x,j)):∃y,r=.ok (y,j)/\x=g y:=by
 cases r with
 | error e=>cases h
 | ok q=>
  obtain⟨y,j'⟩:=q;simp only[Vg,jg,jE]at h;obtain⟨rfl,rfl⟩:=h;exact⟨y,rfl,rfl⟩
theorem vJ{d:Nat}{a:Int}{r:Pr}{q:Ex×Nat}(h:rz d a r=.ok q):r=.ok q/\d≠20:=by
 unfold rz at h;split at h
 ·cases h
 exact⟨h,by assumption⟩
theorem KX{ts:List Tk}{r:Pr}{x:Ex}{j:Nat}(h:BO ts r=.ok (x,j)):∃j',r=.ok (x,j')/\sg ts j' [41]=true/\j=j'+1:=by
 cases r with
 | error e=>cases h
 | ok q=>
  obtain⟨y,j'⟩:=q;simp only[BO]at h;split at h
  ·simp only[jg,jE]at h;obtain⟨rfl,rfl⟩:=h;exact⟨j',rfl,by assumption,rfl⟩
  cases h
theorem y9{r:Pr}{g:Ex->Nat->Pr}{q:Ex×Nat}(h:ND r g=.ok q):∃x j,r=.ok (x,j)/\g x j=.ok q:=by
 cases r with
 | error e=>cases h
 | ok p=>exact⟨p.1,p.2,rfl,h⟩
theorem ZX{ts:List Tk}{i:Nat}{x:Ex}{j:Nat}(h:Vh ts i=.ok (x,j)):j=i+4/\x=.mk 3 0 (tk ts (i+2)).t 0 [] (tk ts i).a:=by
 unfold Vh at h;split at h
 ·split at h
  ·split at h
   ·simp only[jg,jE]at h;exact⟨h.2.symm,h.1.symm⟩
   cases h
  cases h
 cases h
theorem NE{ts:List Tk}{E0 N8:Nat->Pr}{d i:Nat}{x:Ex}{j:Nat}(hE:∀i x j,E0 i=.ok (x,j)->i<j)(hO:∀i x j,N8 i=.ok (x,j)->i<j)(h:D1 ts E0 N8 d i=.ok (x,j)):i<j:=by
 unfold D1 at h;split at h
 ·obtain⟨y,h1,_⟩:=KW h;have:=hO _ _ _ (vJ h1).1;omega
 split at h
 ·obtain⟨j',h1,_,rfl⟩:=KX (vJ h).1;have:=hE _ _ _ h1;omega
 split at h
 ·simp only[jg,jE]at h;omega
 split at h
 ·simp only[jg,jE]at h;omega
 split at h
 ·have:=(ZX h).1;omega
 cases h
theorem AB{ts:List Tk}{E:Nat->Pr}{k:Int}(hE:∀i x j,E i=.ok (x,j)->i<j):∀(g:Nat) (x:Ex) (j:Nat) {x':Ex} {j':Nat},nC ts E k g x j=.ok (x',j')->j<=j'
 | 0,x,j,x',j',h=>by
  simp only[nC,jg,jE]at h;omega
 | g+1,x,j,x',j',h=>by
  rw[nC]at h;split at h
  ·simp only[jg,jE]at h;omega
  obtain⟨y,m,h1,h2⟩:=y9 h;have:=hE _ _ _ h1;have:=AB hE g _ _ h2;omega
theorem lY{ts:List Tk}:∀(f k d i:Nat) {x:Ex} {j:Nat},fU ts f k d i=.ok (x,j)->i<j
 | 0,_,_,_,_,_,h=>aaH
 | f+1,k,d,i,x,j,h=>by
  rw[fU]at h;split at h
  ·exact NE (λi x j h=>lY f _ _ i h) (λi x j h=>lY f _ _ i h) h
  obtain⟨y,m,h1,h2⟩:=y9 h;have:=lY f _ _ _ h1;have:=AB (λi x j h=>lY f _ _ i h) _ _ _ h2;omega
def lA(k d:Nat):Nat:=(20-d)*8+(7-k)
def IV(ts:List Tk)(i:Nat):Pr:=fU ts (lA 0 0) 0 0 i
structure Rd (F G:aL) (ts:List Tk) (w:ay) (b:Nat) (l sn:Sl) (i:Nat) (fc fa d:Int):Prop where
 blk:aH w b 297 [l.v,O ae (i:Int),O ae fc,O ae fa,O ae d,sn.v]
 tok:aD NB 4 w F l ts
 sig:aD lz 1 w G sn BN
 hF:∀k,F k->k<b
 hG:∀k,G k->k<b
 en:wZ ts
 lt:i<ts.length
section
variable {F G:aL} {ts:List Tk} {w w':ay} {b:Nat} {l sn:Sl} {i:Nat} {fc fa d:Int}
theorem Rd.only(h:Rd F G ts w b l sn i fc fa d)(hO:aA [] w w'):Rd F G ts w' b l sn i fc fa d:=
 ⟨hO.blk h.blk aaa,SliceF.only jH aN h.tok hO aaa,SliceF.only dH aN h.sig hO aaa,h.hF,h.hG,h.en,h.lt⟩
theorem Rd.nR(h:Rd F G ts w b l sn i fc fa d)(hO:aA [b] w w'){i':Nat}{fc' fa' d':Int}(hB:aH w' b 297 [l.v,O ae (i':Int),O ae fc',O ae fa',O ae d',sn.v])(hi:i'<ts.length):Rd F G ts w' b l sn i' fc' fa' d':=
 ⟨hB,SliceF.only jH aN h.tok hO λk hk _ hm=>by have:=h.hF k hk;simp only[aO]at hm;omega,SliceF.only dH aN h.sig hO λk hk _ hm=>abn,h.hF,h.hG,h.en,hi⟩
theorem Rd.own(h:Rd F G ts w b l sn i fc fa d){bs:List Nat}(hO:aA bs w w')(hb:∀x,x∈bs->b<x):Rd F G ts w' b l sn i fc fa d:=
 ⟨hO.blk h.blk λhm=>by have:=hb b hm;omega,SliceF.only jH aN h.tok hO λk hk _ hm=>(by have:=h.hF k hk;have:=hb k hm;omega),SliceF.only dH aN h.sig hO λk hk _ hm=>(by have:=h.hG k hk;have:=hb k hm;omega),h.hF,h.hG,h.en,h.lt⟩
theorem Rd.lb(h:Rd F G ts w b l sn i fc fa d):b<w.heap.size:=h.blk.lt
theorem Rd.big(h:Rd F G ts w b l sn i fc fa d):ts.length<=9223372036854775807:=by
 have h1:=h.tok.len;have h2:=h.tok.cap;have h3:=h.tok.big;omega
theorem Rd.now(h:Rd F G ts w b l sn i fc fa d):∃ad,dI l (i:Int) 4 ad/\aE w ad [O ae (tk ts i).k,ah (T (tk ts i).t),O ae (tk ts i).n,O ae (tk ts i).a]:=by
 have hl:=h.tok.len;have cd:=h.lt;obtain⟨ad,x,cs,g1,g2,g3,g4,g5,g6⟩:=h.tok.get (bE i) aG;rw[aV,KV h.lt]at g2;injection g2 with g2;subst g2;unfold NB at g6;subst g6;exact⟨ad,g1,g5⟩
theorem Gu(h:Rd F G ts w b l sn i fc fa d):aB au 262 #[ai (some ⟨b,0,none⟩)] w λe w'=>e=aq (tk ts i).v/\aA [] w w':=by
 refine ret (akY _ _ _ ?_);intro k0 w0 hk iy hO;have h0:=h.only hO;obtain⟨ad,g1,g2⟩:=h0.now;exact⟨l,Blk.eE h0.blk 0 rfl,_,Blk.eE h0.blk 1 rfl,ad,g1,_,_,_,_,g2,λw1 cJ=>⟨rfl,hO.new cJ hk⟩⟩
theorem Cq(h:Rd F G ts w b l sn i fc fa d):aB au 232 #[ai (some ⟨b,0,none⟩)] w λe w'=>e=aq (ao (fc !=0))/\aA [] w w':=by
 refine ret (v7w _ _ _ ?_);exact⟨fc,Blk.eE h.blk 2 rfl,rfl,Only.refl _ _⟩
theorem D2(h:Rd F G ts w b l sn i fc fa d)(c:Int):aB au 272 #[ai (some ⟨b,0,none⟩),O ae c] w λe w'=>e=aq (ak #[])/\aA [b] w w'/\
  Rd F G ts w' b l sn i (if fc=0 then c else fc) (if fc=0 then(tk ts i).a else fa) d:=by
 refine ret (ak0 _ _ _ _ ?_);refine(Cq h).mono ?_;rintro _ w0 ⟨rfl,cQ⟩;have h0:=h.only cQ;refine⟨_,rfl,λhc=>(Gu h0).mono ?_,λhc=>?_⟩
 ·have hc:fc=0:=aaw
  subst hc;rintro _ w1 ⟨rfl,cJ⟩;have h1:=h0.only cJ;refine⟨_,_,_,_,rfl,b,2,_,_,rfl,h1.blk,aaa,λw2 dw qG=>⟨rfl,(cQ.cy cJ).weaken (λ_ h=>aaH) |>.trans dw (λx hx=>.inl hx),?_⟩⟩;rw[aZ rfl,aZ rfl];exact h1.nR dw qG h.lt
 have hc:fc≠0:=aaw
 rw[aX hc,aX hc];exact⟨rfl,cQ.weaken λ_ h=>aaH,h0⟩
theorem D3(h:Rd F G ts w b l sn i fc fa d):aB au 268 #[ai (some ⟨b,0,none⟩)] w λe w'=>e=aq (ak #[])/\aA [b] w w'/\
  Rd F G ts w' b l sn i (if fc=0 then(ir ts i).1 else fc) (if fc=0 then(ir ts i).2 else fa) d:=by
 refine ret (ak2 _ _ _ ?_);refine⟨λw'=>aA [b] w w'/\((tk ts i).k=5->Rd F G ts w' b l sn i (if fc=0 then 3 else fc) (if fc=0 then(tk ts i).a else fa) d)/\((tk ts i).k≠5->Rd F G ts w' b l sn i fc fa d),?_,(Gu h).mono ?_⟩
 ·rintro w0 ⟨cQ,h1,h2⟩;by_cases hk:(tk ts i).k=5
  ·refine(D2 (h1 hk) 4).mono ?_;rintro _ w1 ⟨rfl,cJ,hR⟩;refine⟨rfl,rfl,cQ.trans cJ (λx hx=>.inl hx),?_⟩;unfold ir;rw[aZ hk];by_cases hc:fc=0
   ·rw[aZ hc,aZ hc,aX aN,aX aN]at hR;rw[aZ hc,aZ hc];exact hR
   rw[aX hc,aX hc,aX hc,aX hc]at hR;rw[aX hc,aX hc];exact hR
  refine(D2 (h2 hk) 4).mono ?_;rintro _ w1 ⟨rfl,cJ,hR⟩;refine⟨rfl,rfl,cQ.trans cJ (λx hx=>.inl hx),?_⟩;unfold ir;rw[aX hk];exact hR
 rintro _ w2 ⟨rfl,dw⟩;have h2:=h.only dw;refine⟨_,_,_,_,rfl,λhc=>(D2 h2 3).mono ?_,λhc=>⟨dw.weaken λ_ h=>aaH,λe=>?_,λ_=>h2⟩⟩
 ·rintro _ w3 ⟨rfl,dE,hR⟩;exact⟨rfl,dw.weaken (λ_ h=>aaH) |>.trans dE (λx hx=>.inl hx),λ_=>hR,λe=>absurd aaw e⟩
 rw[e]at hc;simp at hc
theorem afK(h:Rd F G ts w b l sn i fc fa d){H:aL}{s:Sl}{ss:List (aJ)}(hs:aD lz 1 w H s ss):aB au 263 #[ai (some ⟨b,0,none⟩),s.v] w λe w'=>
  e=aq (ao (fc==0&&(tk ts i).k==4&&ss.contains (tk ts i).t))/\aA [] w w':=by
 refine ret (v8w _ _ _ _ ?_);refine(Gu h).mono ?_;rintro _ w0 ⟨rfl,cQ⟩;refine⟨_,_,_,_,rfl,λk0 w1 hk iy cJ=>⟨λc w'=>c=(fc==0&&(tk ts i).k==4&&ss.contains (tk ts i).t)/\aA [] w w',λc w2 h2=>⟨by rw[h2.1],h2.2⟩,?_⟩⟩;have jV:=cQ.cy cJ;refine(Cq (h.only jV)).mono ?_;rintro _ w3 ⟨rfl,dE⟩;have e:(!(fc !=0))=(fc==0):=by cases h:(fc==0)<;>simp[bne,h]
 refine⟨_,rfl,dE.same aab,λhc=>(sI (SliceF.only dH aN hs (jV.cy dE) aaa) _).mono ?_,λhc=>⟨?_,jV.cy dE⟩⟩
 ·rintro _ w4 ⟨rfl,dL⟩;rw[e]at hc;have hl:=h.lb;have z3:=dE.size;exact⟨_,rfl,dL.same aab,by rw[hc,db],jV.cy (dE.cy dL)⟩
 rw[e]at hc;rw[hc,fj]
theorem is1(h:Rd F G ts w b l sn i fc fa d)(s:aJ):∃(s0:Sl) (w0:ay),(aw 132 1 #[.mk 0 (ah (T s))]).run au w=.ok s0.v w0/\aA [] w w0/\
  aB au 263 #[ai (some ⟨b,0,none⟩),s0.v] w0 λe w'=>e=aq (ao (fc==0&&sg ts i s))/\aA [] w0 w':=by
 obtain⟨s0,w0,k1,k2,k3⟩:=og w [s] (n:=1) (parts:=#[(0,ah (T s))]) rfl rfl aN aN;refine⟨s0,w0,k1,k3,(afK (h.only k3) (vF k2)).mono ?_⟩;rintro _ w1 ⟨rfl,cJ⟩;have e:[s].contains (tk ts i).t=decide ((tk ts i).t=s):=by
  by_cases e:(tk ts i).t=s
  ·rw[bL e,e];simp
  rw[bH e];simp[e]
 refine⟨?_,cJ⟩;unfold sg;rw[B3,e]
theorem is2(h:Rd F G ts w b l sn i fc fa d):∃(s0:Sl) (w0:ay),(aw 132 2 #[.mk 0 (ah (ar #[45])),.mk 1 (ah (ar #[33]))]).run au w=.ok s0.v w0/\aA [] w w0/\
  aB au 263 #[ai (some ⟨b,0,none⟩),s0.v] w0 λe w'=>e=aq (ao (fc==0&&(sg ts i [45]||sg ts i [33])))/\aA [] w0 w':=by
 obtain⟨s0,w0,k1,k2,k3⟩:=og w [[45],[33]] (n:=2) (parts:=#[(0,ah (T [45])),(1,ah (T [33]))]) rfl rfl aN aN;refine⟨s0,w0,k1,k3,(afK (h.only k3) (vF k2)).mono ?_⟩;rintro _ w1 ⟨rfl,cJ⟩;have e:[[45],[33]].contains (tk ts i).t=(decide ((tk ts i).t=[45])||decide ((tk ts i).t=[33])):=by
  rw[bT];simp
 refine⟨?_,cJ⟩;unfold sg;rw[B3,<-Bool.and_or_distrib_left,e]
theorem AD(h:Rd F G ts w b l sn i fc fa d)(s:aJ):aB au 266 #[ai (some ⟨b,0,none⟩),ah (T s)] w λe w'=>e=aq (ak #[])/\aA [b] w w'/\
  (if fc==0&&sg ts i s then Rd F G ts w' b l sn (i+1) fc fa d else Rd F G ts w' b l sn i (if fc=0 then(ir ts i).1 else fc) (if fc=0 then(ir ts i).2 else fa) d):=by
 refine ret (v9w _ _ _ _ ?_);obtain⟨s0,w0,k1,k2,k3⟩:=is1 h s;refine⟨s0,w0,k1,k3.mono ?_⟩;rintro _ w1 ⟨rfl,cJ⟩;have h1:=h.only (k2.cy cJ);have jV:aA [b] w w1:=(k2.cy cJ).weaken λ_ h=>aaH
 refine⟨_,rfl,λhc=>(D3 h1).mono ?_,λhc=>?_⟩
 ·rintro _ w2 ⟨rfl,dw,hR⟩;have hc:(fc==0&&sg ts i s)=false:=by rwa[dj]at hc
  rw[hc];exact⟨rfl,rfl,jV.trans dw (λx hx=>.inl hx),hR⟩
 have hc:(fc==0&&sg ts i s)=true:=by rwa[HY]at hc
 rw[hc];simp only[aU]at hc;have hn:=h.en.next h.lt (DZ hc.2);have hb:=h.big;refine⟨(i:Int),Blk.eE h1.blk 1 rfl,b,1,_,_,rfl,h1.blk,aaa,λw3 dE wz=>⟨rfl,jV.trans dE (λx hx=>.inl hx),h1.nR dE ?_ hn⟩⟩;rw[gF aG aG]at wz;exact wz
theorem KY(h:Rd F G ts w b l sn i fc fa d):aB au 267 #[ai (some ⟨b,0,none⟩)] w λe w'=>aA [b] w w'/\
  (if fc=0/\(tk ts i).k=1 then e=aq (ah (T (tk ts i).t))/\Rd F G ts w' b l sn (i+1) fc fa d else e=aq (ah (T []))/\Rd F G ts w' b l sn i (if fc=0 then(ir ts i).1 else fc) (if fc=0 then(ir ts i).2 else fa) d):=by
 refine(ak3 ⟨b,0,none⟩ (λv w'=>aA [b] w w'/\(if fc=0/\(tk ts i).k=1 then v=(ah (T (tk ts i).t))/\Rd F G ts w' b l sn (i+1) fc fa d else v=(ah (T []))/\Rd F G ts w' b l sn i (if fc=0 then(ir ts i).1 else fc) (if fc=0 then(ir ts i).2 else fa) d)) w ?_).mono (by
  rintro e w' ⟨v,rfl,hO,hv⟩;refine⟨hO,?_⟩;split at hv
  ·rename_i hc;rw[aZ hc];exact⟨by rw[hv.1],hv.2⟩
  rename_i hc;rw[aX hc];exact⟨by rw[hv.1],hv.2⟩)
 refine(Gu h).mono ?_;rintro _ w0 ⟨rfl,cQ⟩;refine⟨_,_,_,_,rfl,λk0 w1 hk iy cJ=>?_⟩;have jV:=cQ.cy cJ;have z0:=cQ.size;have hl:=h.lb;refine(Cq (h.only jV)).mono ?_;rintro _ w2 ⟨rfl,dw⟩;have z2:=dw.size;have h2:=h.only (jV.cy dw);have pG:aA [b] w w2:=(jV.cy dw).weaken λ_ h=>aaH
 refine⟨_,rfl,dw.same aab,λhc=>(D3 h2).mono ?_,λhc=>?_⟩
 ·rintro _ w3 ⟨rfl,dE,hR⟩;refine⟨rfl,dE.same aab,pG.trans dE (λx hx=>.inl hx),?_⟩;rw[aX (λhh=>by rw[hh.1,hh.2]at hc;simp at hc)];exact⟨rfl,hR⟩
 have hc:fc=0/\(tk ts i).k=1:=aaw
 have hn:=h.en.next h.lt (by rw[hc.2];decide);have hb:=h.big;refine⟨(i:Int),Blk.eE h2.blk 1 rfl,b,1,_,_,rfl,h2.blk,aaa,aG,λw3 dE wz=>⟨pG.trans dE (λx hx=>.inl hx),?_⟩⟩;rw[aZ hc];refine⟨rfl,h2.nR dE ?_ hn⟩;rw[gF aG aG]at wz;exact wz
end
theorem IW(w:ay)(op:Int):aB au 254 #[O ae op] w λe w'=>e=aq (O ae (lH op))/\w'=w:=by
 refine ret (ak5 _ _ _ ?_);have fin:∀{k:Int} {w1:ay},lH op=k->(Value.int ae k=O ae (lH op)/\w1=w1):=λe=>⟨by rw[e],rfl⟩
 refine⟨λh=>fin ?_,λh=>⟨λb w'=>b=decide (op=1∨op=2)/\w'=w,?_,λh1=>⟨?_,rfl⟩,λh1=>⟨?_,rfl⟩⟩⟩
 ·simp only[aU,bJ]at h;unfold lH;rw[aZ aG]
 ·rintro _ w1 ⟨rfl,rfl⟩;have h:¬(3<=op/\op<=5):=λhh=>by rw[bL hh.1,bL hh.2]at h;cases h
  refine⟨λh1=>fin ?_,λh1=>⟨λh2=>fin ?_,λh2=>⟨λb w2=>b=decide (op=10∨op=11)/\w2=w1,?_,λh3=>⟨?_,rfl⟩,λh3=>⟨?_,rfl⟩⟩⟩⟩
  ·have h1:=aP h1;unfold lH;rw[aX h,aZ h1]
  ·have h1:=aY h1;simp only[aU,bJ]at h2;unfold lH;rw[aX h,aX h1,aZ aG]
  ·rintro _ _ ⟨rfl,rfl⟩;have h1:=aY h1;have h2:¬(6<=op/\op<=9):=λhh=>by rw[bL hh.1,bL hh.2]at h2;cases h2
   refine⟨λh3=>fin ?_,λh3=>⟨λh4=>fin ?_,λh4=>⟨λh5=>fin ?_,λh5=>fin ?_⟩⟩⟩
   ·have h3:=aP h3;unfold lH;rw[aX h,aX h1,aX h2,aZ h3]
   ·have h3:=aY h3;have h4:op=12:=adr
    unfold lH;rw[aX h,aX h1,aX h2,aX h3,aZ h4]
   ·have h3:=aY h3;have h4:¬op=12:=adr
    have h5:op=13:=by simpa using h5
    unfold lH;rw[aX h,aX h1,aX h2,aX h3,aX h4,aZ h5]
   have h3:=aY h3;have h4:¬op=12:=adr
   have h5:¬op=13:=by simpa using h5
   unfold lH;rw[aX h,aX h1,aX h2,aX h3,aX h4,aX h5]
  ·have h3:op=10:=by simpa using h3
   rw[h3];rfl
  have h3:¬op=10:=by simpa using h3
  rw[bT];simp[h3]
 ·have h1:op=1:=abv
  rw[h1];rfl
 have h1:¬op=1:=abv
 rw[bT];simp[h1]
section
variable {F G:aL} {ts:List Tk} {w w':ay} {b:Nat} {l sn:Sl} {i:Nat} {fc fa d:Int}
theorem AE(h:Rd F G ts w b l sn i fc fa d)(k:Int):aB au 249 #[ai (some ⟨b,0,none⟩),O ae k] w λe w'=>e=aq (O ae (if fc=0 then AA ts k i else 0))/\aA [] w w':=by
 refine ret (ak4 _ _ _ _ ?_);refine⟨λnv i0 w'=>∃op:Nat,1<=op/\op<=14/\i0=(op:Int)/\nv=14-op/\(if fc=0 then AA ts k i else 0)=(if fc=0 then xa ts k i (14-op) op else 0)/\aA [] w w',13,⟨1,aN,aN,rfl,rfl,rfl,Only.refl _ _⟩,?_⟩;rintro nv _ w0 ⟨op,h1,h2,rfl,rfl,hV,cQ⟩;refine⟨λhc=>?_,λhc=>?_⟩
 ·have hc:(op:Int)<=13:=aP hc;obtain⟨m,hm⟩:∃m,14-op=m+1:=⟨13-op,aG⟩
  rw[hm,xa]at hV;refine⟨λc w'=>c=(decide (lH (op:Int)=k)&&(fc==0&&sg ts i (lX op)))/\aA [] w w',?_,λw2 dw=>(IW w2 _).mono ?_⟩
  ·rintro _ w1 ⟨rfl,cJ⟩;refine⟨λhb=>⟨?_,cJ⟩,λhb=>⟨m,aG,op+1,aG,aG,aaq,aG,?_,cJ⟩⟩
   ·simp only[aU,bJ,de]at hb;rw[hV,aZ hb.2.1,aZ ⟨hb.1,hb.2.2⟩]
   rw[hV,show 14-(op+1)=m by omega];by_cases h0:fc=0
   ·rw[aZ h0,aZ h0,aX];rintro⟨e1,e2⟩;rw[bL e1,e2,h0]at hb;simp at hb
   rw[aX h0,aX h0]
  rintro _ w3 ⟨rfl,rfl⟩;have h3:=h.only (cQ.cy dw);refine⟨_,rfl,λhk=>?_,λhk=>?_⟩
  ·have hk:lH (op:Int)=k:=aa2
   have hn:=h3.sig.len;have hol:BN.length=16:=rfl;obtain⟨ad,x,cs,g1,g2,g3,g4,g5,g6⟩:=h3.sig.get (i:=(op:Int)) aG aG;unfold lz at g6;subst g6;rw[aV]at g2;have hx:lX op=x:=by unfold lX;rw[g2];rfl
   subst hx;obtain⟨s0,w4,k1,k2,k3⟩:=is1 h3 (lX op);refine⟨sn,Blk.eE h3.blk 5 rfl,ad,g1,_,g5,s0,w4,k1,k3.mono ?_⟩;rintro _ w5 ⟨rfl,eK⟩;exact⟨_,rfl,by rw[bL hk,db],cQ.cy (dw.cy (k2.cy eK))⟩
  have hk:¬lH (op:Int)=k:=aa2
  exact⟨by rw[bH hk,fj],cQ.cy dw⟩
 have hc:¬(op:Int)<=13:=aY hc;have:op=14:=aG
 subst this;rw[hV];refine⟨?_,cQ⟩;split<;>rfl
end
abbrev sM(k n:Int)(s:aJ)(op:Int)(sl:Sl)(a:Int):aK:=[O ae k,O ae n,ah (T s),O ae op,sl.v,O ae a]
inductive RXN (w:ay) (N:aL):Nat->Nat->Ex->aK->Prop
 | leaf (lo hi:Nat) (k n:Int) (s:aJ) (op a:Int):RXN w N lo hi (.mk k n s op [] a) (sM k n s op Sl.nil a)
 | one (lo m g hi:Nat) (k n:Int) (s:aJ) (op a:Int) (x:Ex) (cs:aK):RXN w N lo m x cs->lo<=g->m<=g->g<hi->¬N g->aH w g 131 cs->RXN w N lo hi (.mk k n s op [x] a) (sM k n s op ⟨some ⟨g,0,none⟩,1,1⟩ a)
 | two (lo m m' m2 g hi:Nat) (k n:Int) (s:aJ) (op a:Int) (x y:Ex) (cs ds:aK):RXN w N lo m x cs->m<=m'->RXN w N m' m2 y ds->lo<=m'->m<=g->m'<=g->m2<=g->g<hi->¬N g->aH w g 131 (cs++ds)->RXN w N lo hi (.mk k n s op [x,y] a) (sM k n s op ⟨some ⟨g,0,none⟩,2,2⟩ a)
abbrev RX(w:ay):Nat->Nat->Ex->aK->Prop:=RXN w λ_=>False
section
variable {w w':ay} {N N':aL} {lo hi:Nat} {x:Ex} {cs:aK}
theorem RXN.keep(h:RXN w N lo hi x cs):(∀k,lo<=k->k<hi->¬N k->k<w.heap.size->w'.heap[k]? =w.heap[k]?)->RXN w' N lo hi x cs:=by
 induction h with
 | leaf lo hi k n s op a=>exact λ_=>.leaf ..
 | one lo m g hi k n s op a x cs h1 h2 h3 h4 hn h5 ih=>
  intro hk;exact .one lo m g hi k n s op a x cs (ih λj h6 h7 h8=>hk j h6 aG h8) h2 h3 h4 hn ((hk g h2 h4 hn h5.lt).trans h5)
 | two lo m m' m2 g hi k n s op a x y cs ds h1 h2 h3 h4 h5 h6 h7 h8 hn h9 Pw Ut=>
  intro hk;exact .two lo m m' m2 g hi k n s op a x y cs ds (Pw λj a1 a2 a3=>hk j a1 aG a3) h2 (Ut λj a1 a2 a3=>hk j aG aG a3) h4 h5 h6 h7 h8 hn ((hk g aG h8 hn h9.lt).trans h9)
theorem RXN.wide(h:RXN w N lo hi x cs):∀{lo' Bp:Nat},lo'<=lo->hi<=Bp->RXN w N lo' Bp x cs:=by
 induction h with
 | leaf lo hi k n s op a=>exact λ_ _=>.leaf ..
 | one lo m g hi k n s op a x cs h1 h2 h3 h4 hn h5 ih=>
  intro lo' Bp a1 a2;exact .one lo' m g Bp k n s op a x cs (ih a1 (ba _)) aG h3 aG hn h5
 | two lo m m' m2 g hi k n s op a x y cs ds h1 h2 h3 h4 h5 h6 h7 h8 hn h9 Pw Ut=>
  intro lo' Bp a1 a2;exact .two lo' m m' m2 g Bp k n s op a x y cs ds (Pw a1 (ba _)) h2 h3 aG h5 h6 h7 aG hn h9
theorem RXN.SZ(h:RXN w N lo hi x cs):(∀k,lo<=k->k<hi->¬N k->¬N' k)->RXN w N' lo hi x cs:=by
 induction h with
 | leaf lo hi k n s op a=>exact λ_=>.leaf ..
 | one lo m g hi k n s op a x cs h1 h2 h3 h4 hn h5 ih=>
  intro hk;exact .one lo m g hi k n s op a x cs (ih λj h6 h7=>hk j h6 aG) h2 h3 h4 (hk g h2 h4 hn) h5
 | two lo m m' m2 g hi k n s op a x y cs ds h1 h2 h3 h4 h5 h6 h7 h8 hn h9 Pw Ut=>
  intro hk;exact .two lo m m' m2 g hi k n s op a x y cs ds (Pw λj a1 a2=>hk j a1 aG) h2 (Ut λj a1 a2=>hk j aG aG) h4 h5 h6 h7 h8 (hk g aG h8 hn) h9
theorem RXN.cells(h:RXN w N lo hi x cs):∃sl:Sl,cs=sM x.k x.n x.s x.op sl x.a/\(sl.n=x.fZ.length):=by
 cases h with
 | leaf=>exact⟨_,rfl,rfl⟩
 | one=>exact⟨_,rfl,rfl⟩
 | two=>exact⟨_,rfl,rfl⟩
theorem RXN.only(h:RXN w N lo hi x cs){bs:List Nat}(hO:aA bs w w')(hb:∀k,k∈bs->k<lo∨hi<=k∨N k):RXN w' N lo hi x cs:=
 h.keep λk h1 h2 hn h3=>hO.block k h3 λhm=>by
  rcases hb k hm with e | e | e
  ·omega
  ·omega
  exact hn e
end
theorem Q1(w:ay)(vs:List (aK))(hv:∀v,v∈vs->v.length=6)(h0:0<vs.length)(hm:vs.length<=100){parts:Array (Nat×az)}(hp:parts=(((vs.map λv=>Value.agg v.toArray).zipIdx 0).map λx=>(x.2,x.1)).toArray):
  ∃w',(aw 129 vs.length parts).run au w=.ok (Sl.v ⟨some ⟨w.heap.size,0,none⟩,vs.length,vs.length⟩) w'/\aH w' w.heap.size 131 vs.flatten/\aA [] w w':=by
 have hc:((vs.map λv=>Value.agg v.toArray).flatMap λv=>v.cells.toList)=vs.flatten:=by
  clear hv h0 hm hp
  induction vs with
  | nil=>rfl
  | cons v vs ih=>rw[bG,Ke,ih,dy];rfl
 have hs:Tryz.t131.size=6:=rfl;have uV:=run_buildSlice (P:=au) w 129 131 vs.length parts ((vs.map λv=>Value.agg v.toArray).flatMap λv=>v.cells.toList).toArray Tryz.t131 _ (by kernel_rfl) (by kernel_rfl) rfl (by rw[hs];omega) (by rw[hs];omega)
  (by
   subst hp;rw[iw,hs];refine Go.Great.fill_whole (s:=6) aN (vs.map λv=>Value.agg v.toArray) _ (λv hm=>?_) ?_
   ·obtain⟨x,hx,rfl⟩:=cP.1 hm;have:=hv x hx;simpa[Value.cells]using this
   simp)
 rw[hc]at uV;exact⟨_,uV,Blk.alloc w _ _,Only.alloc _ _⟩
def exT(v:az):Prop:=∃(k n:Int) (s:aJ) (op:Int) (sl:Sl) (a:Int),v=aj (sM k n s op sl a).toArray
def pv(F G:aL)(ts:List Tk)(w w':ay)(b:Nat)(l sn:Sl)(d:Nat)(r:Pr)(v:az):Prop:=aA [b] w w'/\match r with
 | .ok (x,j)=>∃cs,v=aj cs.toArray/\RX w' w.heap.size w'.heap.size x cs/\Rd F G ts w' b l sn j 0 0 (d:Int)
 | .error e=>e.1≠0/\exT v/\∃j,Rd F G ts w' b l sn j e.1 e.2 (d:Int)
section
variable {F G:aL} {ts:List Tk} {w w':ay} {b:Nat} {l sn:Sl} {i:Nat} {fc fa d:Int}
theorem iI:(ir ts i).1≠0:=by
 unfold ir;dsimp only;split<;>decide
theorem Gv{d:Nat}(hd:d<=20)(h:Rd F G ts w b l sn i 0 0 (d:Int))(hi:i+1<ts.length){g:Nat}{z1 z2:aK}(hg:∀(x:Array az) (w:ay),(callFunc g x).run au w=.ok (.enter g x) w)(f:OV)(hf:f.v=.func (.func g) z1.toArray z2.toArray){r:Pr}
  (hr:d≠20->∀w1,aA [b] w w1->Rd F G ts w1 b l sn (i+1) 0 0 ((d+1:Nat):Int)->aB au g (z1++z2).toArray w1 λe w'=>∃v,e=aq v/\pv F G ts w1 w' b l sn (d+1) r v):
  aB au 264 #[ai (some ⟨b,0,none⟩),f.v] w λe w'=>∃v,e=aq v/\pv F G ts w w' b l sn d (rz d (tk ts i).a r) v:=by
 refine akZ ⟨b,0,none⟩ f (λv w'=>pv F G ts w w' b l sn d (rz d (tk ts i).a r) v) w ?_;intro k0 w0 hk iy cQ;have hb:=h.lb;have h0:=h.only cQ;refine⟨(d:Int),Blk.eE h0.blk 4 rfl,λhc=>(D2 h0 21).mono ?_,λhc=>?_⟩
 ·have hc:d=20:=by have:(d:Int)=20:=aaw;omega
  rintro _ w1 ⟨rfl,cJ,hR⟩;rw[aZ rfl,aZ rfl]at hR;have z1:=cJ.size;refine⟨rfl,cJ.same aab,λw2 dw=>⟨?_,?_⟩⟩
  ·exact((cQ.weaken (bs':=[b]) λ_ h=>aaH).trans cJ λx hx=>.inl hx).new dw hk
  rw[rz,aZ hc];exact⟨(by decide:(21:Int)≠0),⟨0,0,[],0,Sl.nil,0,rfl⟩,i,hR.own dw aab⟩
 have hc:d≠20:=λe=>by subst e;simp at hc
 have MY:=h.big;refine⟨(i:Int),Blk.eE h0.blk 1 rfl,b,1,_,_,rfl,h0.blk,aaa,aG,λw3 dE wz=>?_⟩;rw[gF aG aG]at wz;have h3:Rd F G ts w3 b l sn (i+1) 0 0 (d:Int):=h0.nR dE wz hi;have z3:=dE.size;refine⟨(d:Int),Blk.eE h3.blk 4 rfl,b,4,_,_,rfl,h3.blk,aaa,aG,λw4 dL uA=>?_⟩;rw[gF aG aG]at uA;have h4:Rd F G ts w4 b l sn (i+1) 0 0 ((d+1:Nat):Int):=h3.nR dL uA hi;have z4:=dL.size;have E8:aA [b] w w4:=((cQ.weaken (bs':=[b]) λ_ h=>aaH).trans dE λx hx=>.inl hx).trans dL λx hx=>.inl hx;refine⟨g,z1,z2,hf,hg,?_⟩;have e:vA (vA z1 []) z2=z1++z2:=by unfold vA;rw[bS]
 rw[e];refine(hr hc w4 E8 h4).mono ?_;rintro _ w6 ⟨v,rfl,eI,hd⟩;have z6:=eI.size;rw[rz,aX hc];have hv:∃(k n:Int) (s:aJ) (op:Int) (sl:Sl) (a:Int),v=aj (sM k n s op sl a).toArray:=by
  cases r with
  | error e=>exact hd.2.1
  | ok q=>
   obtain⟨cs,rfl,hx,_⟩:=hd;obtain⟨sl,rfl,_⟩:=hx.cells;exact⟨_,_,_,_,_,_,rfl⟩
 obtain⟨vk,vn,vs,vo,vsl,va,rfl⟩:=hv;refine⟨_,_,_,_,_,_,rfl,eI.same aab,λk8 w7 hk8 abF fL=>?_⟩;have z7:=fL.size;have key:∀{j:Nat} {fc fa:Int},Rd F G ts w6 b l sn j fc fa ((d+1:Nat):Int)->∃i7:Int,aE w7 (Addr.add ⟨b,0,none⟩ 4) [O ae i7]/\∃k9 pL:Nat,∃z4:aK,∃rP:Nat,(Addr.add ⟨b,0,none⟩ 4)=⟨k9,pL,none⟩/\aH w7 k9 rP z4/\(pL+1)<=z4.length/\k0≠k9/\k8≠k9/\
   ∀w8:ay,aA [k9] w7 w8->aH w8 k9 rP (cx z4 pL [O ae (av ae (i7-1))])->∀w9:ay,aA [k0] w8 w9->aA [b] w w9/\aA [b,k0] w6 w9/\Rd F G ts w9 b l sn j fc fa (d:Int):=fun{j fc fa} h6=>by
  have h7:=h6.only fL;refine⟨((d+1:Nat):Int),Blk.eE h7.blk 4 rfl,b,4,_,_,rfl,h7.blk,aaa,aG,aG,λw8 fV uB w9 gy=>?_⟩;have ed:((d+1:Nat):Int)-1=d:=aG
  rw[ed,gF aG aG]at uB;have h8:Rd F G ts w8 b l sn j fc fa (d:Int):=h7.nR fV uB h7.lt;have ahe:aA [b,k0] w6 w9:=((fL.weaken (bs':=[b,k0]) λ_ h=>aaH).trans fV λx hx=>.inl aaQ).trans gy λx hx=>.inl aaQ;exact⟨(E8.trans eI λx hx=>.inl hx).trans ahe (λx hx=>by
   simp only[aR,bn,cm]at hx;rcases hx with rfl | rfl
   ·exact .inl aaa
   exact .inr hk),ahe,h8.own gy aab⟩
 have hd2:=hd;cases r with
 | error e=>
  obtain⟨h1,h2,j,h3⟩:=hd2;obtain⟨i7,k1,k9,pL,z,rP,k2,k3,k4,k5,k6,k7⟩:=key h3;refine⟨i7,k1,k9,pL,z,rP,k2,k3,k4,k5,k6,λw8 fV uB w9 gy=>?_⟩;obtain⟨a1,a2,a3⟩:=k7 w8 fV uB w9 gy;exact⟨a1,h1,h2,j,a3⟩
 | ok q=>
  obtain⟨x,j⟩:=q;obtain⟨cs,h1,h2,h3⟩:=hd2;obtain⟨i7,k1,k9,pL,z,rP,k2,k3,k4,k5,k6,k7⟩:=key h3;refine⟨i7,k1,k9,pL,z,rP,k2,k3,k4,k5,k6,λw8 fV uB w9 gy=>?_⟩;obtain⟨a1,a2,a3⟩:=k7 w8 fV uB w9 gy;have z9:=a2.size;exact⟨a1,cs,h1,(h2.only a2 λk hk=>.inl (by simp only[aR,bn,cm]at hk;omega)).wide aG z9,a3⟩
end
section
variable {F G:aL} {ts:List Tk} {w w':ay} {b:Nat} {l sn:Sl} {i:Nat} {fc fa d:Int}
theorem pv.Bn{w w':ay}{d:Nat}{r:Pr}{v:az}(h:pv F G ts w w' b l sn d r v):exT v:=by
 obtain⟨_,h⟩:=h;cases r with
 | error e=>exact h.2.1
 | ok q=>
  obtain⟨cs,rfl,hx,_⟩:=h;obtain⟨sl,rfl,_⟩:=hx.cells;exact⟨_,_,_,_,_,_,rfl⟩
theorem pv.S1{w0 w1 w2 w3:ay}{d:Nat}{r:Pr}{v:az}(h:pv F G ts w1 w2 b l sn d r v)(cQ:aA [b] w0 w1){bs:List Nat}(dw:aA bs w2 w3)(hb:∀x,x∈bs->b<x/\w0.heap.size<=x/\x<w1.heap.size):pv F G ts w0 w3 b l sn d r v:=by
 obtain⟨hO,h⟩:=h;have z0:=cQ.size;have z1:=hO.size;have z2:=dw.size;refine⟨(cQ.trans hO λx hx=>.inl hx).trans dw λx hx=>.inr (hb x hx).2.1,?_⟩;cases r with
 | error e=>
  obtain⟨h1,h2,j,h3⟩:=h;exact⟨h1,h2,j,h3.own dw λx hx=>(hb x hx).1⟩
 | ok q=>
  obtain⟨cs,h1,h2,h3⟩:=h;exact⟨cs,h1,(h2.only dw λx hx=>.inl (hb x hx).2.2).wide z0 z2,h3.own dw λx hx=>(hb x hx).1⟩
theorem afL{d:Nat}{r:Pr}{k0:Nat}(h:Rd F G ts w b l sn i 0 0 (d:Int))(hk:b<k0)(hB:aH w k0 293 [ai (some ⟨b,0,none⟩)])
  (hE:∀w1,aA [] w w1->aB au 231 #[ai (some ⟨b,0,none⟩),O ae 0] w1 λe w'=>∃v,e=aq v/\pv F G ts w1 w' b l sn d r v):
  aB au 265 #[ai (some ⟨k0,0,none⟩)] w λe w'=>∃v,e=aq v/\pv F G ts w w' b l sn d (BO ts r) v:=by
 refine ak1 ⟨k0,0,none⟩ (λv w'=>pv F G ts w w' b l sn d (BO ts r) v) w ?_;intro k1 w0 j9 jW cQ;have hb:=h.lb;have rQ:aH w0 k0 293 [ai (some ⟨b,0,none⟩)]:=cQ.blk hB aaa;have Px:=hB.lt;refine⟨_,Blk.eE rQ 0 rfl,(hE w0 cQ).mono ?_⟩;rintro _ w1 ⟨v,rfl,hd⟩;obtain⟨k,n,s,op,sl,a,rfl⟩:=hd.Bn;have z1:=hd.1.size;refine⟨_,_,_,_,_,_,rfl,hd.1.same aab,λk2 w2 uY xM dw=>?_⟩;have z2:=dw.size;have qG:aH w2 k0 293 [ai (some ⟨b,0,none⟩)]:=dw.blk (hd.1.blk rQ aab) aaa;refine⟨_,Blk.eE qG 0 rfl,_,rfl,?_⟩;obtain⟨cJ,hd⟩:=hd;have pG:aA [b] w w2:=((cQ.weaken λ_ h=>aaH).trans cJ λx hx=>.inl hx).cy dw;cases r with
 | error e=>
  obtain⟨h1,h2,j,h3⟩:=hd;have h3:=h3.only dw;refine(AD h3 [41]).mono ?_;rintro _ w3 ⟨rfl,dE,hR⟩;rw[aX adT,aX h1,aX h1]at hR;refine⟨rfl,dE.same aab,λw4 dL=>⟨((pG.trans dE λx hx=>.inl hx).new dL j9),h1,⟨_,_,_,_,_,_,rfl⟩,j,hR.own dL aab⟩⟩
 | ok q=>
  obtain⟨x,j⟩:=q;obtain⟨cs,h1,h2,h3⟩:=hd;have h3:=h3.only dw;refine(AD h3 [41]).mono ?_;rintro _ w3 ⟨rfl,dE,hR⟩;have z3:=dE.size;refine⟨rfl,dE.same aab,λw4 dL=>⟨((pG.trans dE λx hx=>.inl hx).new dL j9),?_⟩⟩;have z4:=dL.size;by_cases hs:sg ts j [41]=true
  ·rw[aZ (by simp[hs])]at hR;simp only[BO,hs,yS];exact⟨cs,h1,(((h2.only dw aaa).only dE λk hk=>.inl acr).only dL λk hk=>.inl acr).wide aG aG,hR.own dL aab⟩
  rw[aX (by simp[hs]),aZ rfl,aZ rfl]at hR;simp only[BO,hs,jX];exact⟨iI,⟨_,_,_,_,_,_,rfl⟩,j,hR.own dL aab⟩
theorem ZY{f d:Nat}(hd:d<=20)(h:Rd F G ts w b l sn i 0 0 (d:Int))
  (hE:d≠20->∀w i,Rd F G ts w b l sn i 0 0 ((d+1:Nat):Int)->aB au 231 #[ai (some ⟨b,0,none⟩),O ae 0] w λe w'=>∃v,e=aq v/\pv F G ts w w' b l sn (d+1) (fU ts f 0 (d+1) i) v)
  (anQ:d≠20->∀w i,Rd F G ts w b l sn i 0 0 ((d+1:Nat):Int)->aB au 248 #[ai (some ⟨b,0,none⟩)] w λe w'=>∃v,e=aq v/\pv F G ts w w' b l sn (d+1) (fU ts f 6 (d+1) i) v):
  aB au 248 #[ai (some ⟨b,0,none⟩)] w λe w'=>∃v,e=aq v/\pv F G ts w w' b l sn d (fU ts (f+1) 6 d i) v:=by
 have eR:fU ts (f+1) 6 d i=D1 ts (fU ts f 0 (d+1)) (fU ts f 6 (d+1)) d i:=by rw[fU,aZ rfl]
 rw[eR];generalize hgE:fU ts f 0 (d+1)=E0 at*
 generalize hgO:fU ts f 6 (d+1)=N8 at*
 generalize hR:D1 ts E0 N8 d i=R;rw[D1]at hR;refine akX ⟨b,0,none⟩ (λv w'=>pv F G ts w w' b l sn d R v) w ?_;intro k0 k1 w0 hY fA j9 jW cQ;have hb:=h.lb;refine(Gu (h.only cQ)).mono ?_;rintro _ w1 ⟨rfl,cJ⟩;have z1:=cJ.size;have jV:=cQ.cy cJ;refine⟨_,_,_,_,rfl,cJ.same aab,λk2 k3 w2 uY xM zo xN dw=>?_⟩;have z2:=dw.size;have z0:=cQ.size;have pG:=jV.cy dw;have h2:=h.only pG;have MY:=h.big;have sm:∀{u u':ay},w2.heap.size<=u.heap.size->aA [b] u u'->cj [k0,k1,k2,k3] u u':=λhu hO=>hO.same (by intro x hx;simp only[aR,bn,cm]at hx⊢;omega);have sm0:∀{u u':ay},w2.heap.size<=u.heap.size->aA [] u u'->cj [k0,k1,k2,k3] u u':=λhu hO=>hO.same (by intro x hx;simp only[aR,bn,cm]at hx;exact⟨aG,aaa⟩);refine⟨λq _ _ _ _ _ _ vk vn vs vo vl va w'=>q=some ⟨b,0,none⟩/\aA [] w w'/\(tk ts i).k≠5/\∃t,vs=T t/\vl=Sl.nil/\R=.ok (.mk vk vn t vo [] va,i+1),?_,?_⟩
 ·rintro _ _ _ _ _ _ _ vk vn _ vo _ va w3 ⟨rfl,dE,fX,t,rfl,rfl,OG⟩;have h3:=h.only dE;have hn:=h.en.next h.lt fX;refine⟨_,rfl,(i:Int),Blk.eE h3.blk 1 rfl,_,rfl,b,1,_,_,rfl,h3.blk,aaa,aG,aG,aG,aG,λw4 dL uA w5 eK=>?_⟩;rw[gF aG aG]at uA;have h4:Rd F G ts w4 b l sn (i+1) 0 0 (d:Int):=h3.nR dL uA hn;rw[OG];refine⟨((dE.weaken (bs':=[b]) λ_ h=>aaH).trans dL λx hx=>.inl hx).new eK aG,_,rfl,.leaf ..,h4.own eK aab⟩
 refine(Cq h2).mono ?_;rintro _ w6 ⟨rfl,eI⟩;have z6:=eI.size;have h6:=h2.only eI;refine⟨_,rfl,sm0 aG eI,λhc=>(by simp at hc),λ_=>?_⟩;obtain⟨s8,w8,k8,fV,hc8⟩:=is2 h6;have z8:=fV.size;refine⟨s8,w8,k8,sm0 aG fV,hc8.mono ?_⟩;rintro _ w9 ⟨rfl,gy⟩;have z9:=gy.size;have tv:=eI.cy (fV.cy gy);have h9:=h2.only tv;rw[show((0:Int)==0)=true from rfl,db];have abG:=pG.cy tv;refine⟨_,rfl,sm0 aG gy,λhc dR eO=>?_,λhc=>?_⟩
 ·rw[aZ hc]at hR;have fX:(tk ts i).k≠5:=by
   rcases bU _ _▸hc with e | e<;>exact DZ e
  have hn:=h.en.next h.lt fX;have key:∀op:Int,op=(if(tk ts i).t=[33]then 15 else 14)->∀dS,aA [] w dS->w2.heap.size<=dS.heap.size->_:=λop E9 dS ey abH=>Gv hd (h.only ey) hn (g:=248) (z1:=[ai (some ⟨b,0,none⟩)]) (z2:=[]) (fC (by kernel_rfl)) ⟨.func (.func 248) #[ai (some ⟨b,0,none⟩)] #[],rfl⟩ rfl (r:=N8 (i+1)) λabI w1 _ h1=>anQ abI w1 (i+1) h1;refine⟨λk n s op sl a w'=>k=4/\n=0/\s=T []/\op=(if(tk ts i).t=[33]then 15 else 14)/\sl=Sl.nil/\a=(tk ts i).a/\aA [] w w'/\w2.heap.size<=w'.heap.size,?_,?_,?_⟩
  ·rintro _ _ _ _ _ _ dS ⟨rfl,rfl,rfl,E9,rfl,rfl,ey,abH⟩;refine(key _ E9 dS ey abH).mono ?_;rintro _ fp ⟨v,rfl,hD⟩;obtain⟨vk,vn,vs,vo,vl,va,rfl⟩:=hD.Bn;have z12:=hD.1.size;obtain⟨fD,xJ,Bw,eL⟩:=Q1 fp [sM vk vn vs vo vl va] aaa aaa aaa (parts:=#[(0,aj (sM vk vn vs vo vl va).toArray)]) rfl;refine⟨_,_,_,_,_,_,rfl,sm abH hD.1,⟨some ⟨fp.heap.size,0,none⟩,1,1⟩,fD,xJ,sm0 aG eL,λfP eH=>?_⟩;have WO:=eL.size;have z14:=eH.size;have hOf:aA [b] w fP:=(((ey.weaken (bs':=[b]) λ_ h=>aaH).trans hD.1 λx hx=>.inl hx).cy eL).trans eH λx hx=>.inr aaJ;have hob:∀x,x∈[k1,k3]->b<x:=aab
   have hoo:∀x,x∈[k1,k3]->x<dS.heap.size:=aab
   refine⟨hOf,?_⟩;obtain⟨_,hD⟩:=hD;rw[<-hR];cases hN:rz d (tk ts i).a (N8 (i+1))with
   | error e=>
    rw[hN]at hD;obtain⟨a1,a2,j,a3⟩:=hD;exact⟨a1,⟨_,_,_,_,_,_,rfl⟩,j,(a3.only eL).own eH hob⟩
   | ok q=>
    obtain⟨x,j⟩:=q;rw[hN]at hD;obtain⟨cs,a1,a2,a3⟩:=hD;refine⟨_,rfl,?_,(a3.only eL).own eH hob⟩;have oI:(sM vk vn vs vo vl va)=cs:=bh Array.toList (Value.agg.inj a1);rw[E9];have anS:RX fP dS.heap.size fp.heap.size x cs:=(a2.only eL aaa).only eH λk hk=>.inl (hoo k hk);have HQ:aH fP fp.heap.size 131 cs:=by
     have:=eH.blk Bw λhm=>by have:=hoo _ hm;omega
     rw[dy,List.flatten_nil,bS]at this;rw[<-oI];exact this
    exact .one w.heap.size fp.heap.size fp.heap.size _ _ _ _ _ _ x cs (anS.wide aG (ba _)) aG (ba _) (by have:=Bw.lt;omega) id HQ
  ·rw[show(ar #[33])=T [33]from rfl,mE];intro he iP iX;have he:=aP he;exact⟨rfl,rfl,rfl,by rw[aZ he],rfl,rfl,(abG.new eO aG).new iX aG,by have:=iX.size;have:=eO.size;omega⟩
  rw[show(ar #[33])=T [33]from rfl,mE];intro he;have he:=aY he;exact⟨rfl,rfl,rfl,by rw[aX he],rfl,rfl,abG.new eO aG,by have:=eO.size;omega⟩
 rw[aX (by rw[hc];decide)]at hR;obtain⟨YA,jl,C9,je,anT⟩:=is1 h9 [40];have z16:=je.size;refine⟨YA,jl,C9,sm0 aG je,anT.mono ?_⟩;rintro _ gN ⟨rfl,lp⟩;have z17:=lp.size;have MZ:=abG.cy (je.cy lp);have Py:=h.only MZ;have JJ:aA [b] w gN:=MZ.weaken λ_ h=>aaH
 rw[show((0:Int)==0)=true from rfl,db];refine⟨_,rfl,sm0 aG lp,λhp hB _ _ _=>?_,λhp=>?_⟩
 ·rw[aZ hp]at hR;have hn:=h.en.next h.lt (DZ hp);subst hR;refine(Gv hd Py hn (g:=265) (z1:=[]) (z2:=[ai (some ⟨k0,0,none⟩)]) (fC (by kernel_rfl)) ⟨.func (.func 265) #[] #[ai (some ⟨k0,0,none⟩)],rfl⟩ rfl (r:=BO ts (E0 (i+1))) λabI w1 cJ h1=>afL h1 aG (cJ.blk hB aab) λw1' abK=>hE abI w1' (i+1) (h1.only abK)).mono ?_;rintro _ jL ⟨v,rfl,hD⟩;obtain⟨vk,vn,vs,vo,vl,va,rfl⟩:=hD.Bn;have z18:=hD.1.size;refine⟨_,_,_,_,_,_,rfl,hD.1.same aab,_,hD.1.blk hB aab,λjU jD _=>?_⟩;exact hD.S1 JJ jD aab
 rw[aX (by rw[hp];decide)]at hR;have YJ:(tk ts i).k≠5->i+1<ts.length:=h.en.next h.lt;refine⟨λhi jm kU _ _ _ _ _ fX=>⟨λk=>k=k2,rfl,λe=>fX e.symm,λe=>fX e.symm,λlm kK=>?_⟩,λhi=>⟨λhv oA xO _ _ _ _ _ fX=>⟨λk=>k=k2,rfl,λe=>fX e.symm,λe=>fX e.symm,λoB kl=>?_⟩,λhv=>⟨λhw=>?_,λhw=>?_⟩⟩⟩
 ·have hi:(tk ts i).k=3:=acO
  rw[aZ hi]at hR;exact⟨rfl,(MZ.cy kU).new kK aG,by rw[hi];decide,[],rfl,rfl,hR.symm⟩
 ·have hi:¬(tk ts i).k=3:=acO
  have hv:(tk ts i).k=1:=adG
  rw[aX hi,aZ hv]at hR;exact⟨rfl,(MZ.cy xO).new kl aG,by rw[hv];decide,_,rfl,rfl,hR.symm⟩
 ·have hi:¬(tk ts i).k=3:=acO
  have hv:¬(tk ts i).k=1:=adG
  rw[show(ar #[105,110])=T [105,110]from rfl,mE]at hw;have hw:(tk ts i).k=2/\(tk ts i).t=[105,110]:=by simpa using hw
  rw[aX hi,aX hv,aZ hw]at hR;have hn:=YJ (by rw[hw.1];decide);refine⟨(i:Int),Blk.eE Py.blk 1 rfl,b,1,_,_,rfl,Py.blk,aaa,aG,aG,aG,aG,λnT BX ahf=>?_⟩;rw[gF aG aG]at ahf;have h24:Rd F G ts nT b l sn (i+1) 0 0 (d:Int):=Py.nR BX ahf hn;have z24:=BX.size;refine(AD h24 [40]).mono ?_;rintro _ mh ⟨rfl,qH,WQ⟩;have z25:=qH.size;refine⟨rfl,sm aG qH,?_⟩;have YK:aA [b] w mh:=(JJ.trans BX λx hx=>.inl hx).trans qH λx hx=>.inl hx;have bad:∀{j:Nat} {c a:Int},Rd F G ts mh b l sn j c a (d:Int)->c≠0->aB au 267 #[ai (some ⟨b,0,none⟩)] mh λe w'=>e=aq (ah (T []))/\aA [b] mh w'/\Rd F G ts w' b l sn j c a (d:Int):=fun{j c a} WR hc=>by
   refine(KY WR).mono ?_;rintro e pq ⟨iz,hh⟩;rw[aX (λhh=>hc hh.1),aX hc,aX hc]at hh;exact⟨hh.1,iz,hh.2⟩
  have ahh:∀{pq tU:ay} {j:Nat} {c a:Int},aA [b] mh pq->aA [k3] pq tU->Rd F G ts pq b l sn j c a (d:Int)->c≠0->R=.error (c,a)->∀s6:aM,aB au 266 #[ai (some (Addr.add ⟨b,0,none⟩ 0)),ah (ar #[41])] tU λe8 yv=>e8=(aq (ak #[]))/\cj [k0,k1,k2,k3] tU yv/\∀BW:ay,aA [k1] yv BW->pv F G ts w BW b l sn d R (aj #[O ae 3,O ae 0,ah s6,O ae 0,Sl.nil.v,O ae (tk ts i).a]):=fun{pq tU j c a} iz pH h26 hc OG s6=>by
   have z26:=iz.size;have z27:=pH.size;refine(AD (h26.own pH aab) [41]).mono ?_;rintro _ yv ⟨rfl,ug,JK⟩;rw[aX (by simp[hc]),aX hc,aX hc]at JK;refine⟨rfl,sm aG ug,λBW tv=>?_⟩;rw[OG];refine⟨((((YK.trans iz λx hx=>.inl hx).new pH aG).trans ug λx hx=>.inl hx).new tv aG),hc,⟨3,0,s6.data.toList,0,Sl.nil,_,by unfold sM;rw[<-zL]⟩,j,JK.own tv aab⟩
  by_cases h1:sg ts (i+1) [40]=true
  ·rw[aZ adT]at WQ;rw[Vh,aZ h1]at hR;refine(KY WQ).mono ?_;rintro _ pq ⟨iz,hh⟩;have z26:=iz.size;by_cases h2:(tk ts (i+2)).k=1
   ·rw[aZ ⟨rfl,h2⟩]at hh;obtain⟨rfl,Tx⟩:=hh;rw[aZ h2]at hR;refine⟨_,rfl,sm aG iz,λtU pH=>?_⟩;have z27:=pH.size;have h27:=Tx.own pH aab;refine(AD h27 [41]).mono ?_;rintro _ yv ⟨rfl,ug,JK⟩;refine⟨rfl,sm aG ug,λBW tv=>?_⟩;have hOf:aA [b] w BW:=(((YK.trans iz λx hx=>.inl hx).new pH aG).trans ug λx hx=>.inl hx).new tv aG;refine⟨hOf,?_⟩;by_cases h3:sg ts (i+3) [41]=true
    ·rw[aZ (by simp[h3])]at JK;rw[aZ h3]at hR;rw[<-hR];exact⟨_,rfl,.leaf ..,JK.own tv aab⟩
    rw[aX (by simp[h3]),aZ rfl,aZ rfl]at JK;rw[aX h3]at hR;rw[<-hR];exact⟨iI,⟨_,_,_,_,_,_,rfl⟩,_,JK.own tv aab⟩
   rw[aX (λhh=>h2 hh.2),aZ rfl,aZ rfl]at hh;obtain⟨rfl,Tx⟩:=hh;rw[aX h2]at hR;exact⟨_,rfl,sm aG iz,λtU pH=>ahh iz pH Tx iI hR.symm _⟩
  rw[aX adT,aZ rfl,aZ rfl]at WQ;rw[Vh,aX h1]at hR;refine(bad WQ iI).mono ?_;rintro _ pq ⟨rfl,iz,Tx⟩;exact⟨_,rfl,sm aG iz,λtU pH=>ahh iz pH Tx iI hR.symm _⟩
 have hi:¬(tk ts i).k=3:=acO
 have hv:¬(tk ts i).k=1:=adG
 rw[show(ar #[105,110])=T [105,110]from rfl,mE]at hw;rw[aX hi,aX hv,aX (λhh=>by rw[hh.1,hh.2]at hw;simp at hw)]at hR;refine(D3 Py).mono ?_;rintro _ Pv ⟨rfl,ahk,ahl⟩;rw[aZ rfl,aZ rfl]at ahl;refine⟨rfl,sm aG ahk,λUo Ty=>⟨(JJ.trans ahk λx hx=>.inl hx).new Ty aG,?_⟩⟩;rw[<-hR];exact⟨iI,⟨0,0,[],0,Sl.nil,_,rfl⟩,i,ahl.own Ty aab⟩
end
section
variable {F G:aL} {ts:List Tk} {w w':ay} {b:Nat} {l sn:Sl} {i:Nat} {fc fa d:Int}
theorem NF{E}{k}{g}{x}{j}(h:AA ts k j=0):nC ts E k g x j=.ok (x,j):=by
 cases g with
 | zero=>rfl
 | succ g=>rw[nC,aZ h]
def At5(F G:aL)(ts:List Tk)(w:ay)(b:Nat)(l sn:Sl)(d:Nat)(N:aL)(E:Nat->Pr)(k:Int)(R:Pr)(nv:Nat)(op:Int)(cs:aK)(w':ay):Prop:=aA [b] w w'/\
 ((∃(c a:Int) (j:Nat),op=0/\c≠0/\R=.error (c,a)/\Rd F G ts w' b l sn j c a d)∨
  (∃(x:Ex) (j:Nat),op=AA ts k j/\RXN w' N w.heap.size w'.heap.size x cs/\Rd F G ts w' b l sn j 0 0 d/\R=nC ts E k nv x j/\ts.length-j<=nv))
theorem NG{f k d:Nat}(hk6:k<6)(h:Rd F G ts w b l sn i 0 0 (d:Int))
  (hE:∀w i,Rd F G ts w b l sn i 0 0 (d:Int)->aB au 231 #[ai (some ⟨b,0,none⟩),O ae ((k+1:Nat):Int)] w λe w'=>∃v,e=aq v/\pv F G ts w w' b l sn d (fU ts f (k+1) d i) v):
  aB au 231 #[ai (some ⟨b,0,none⟩),O ae (k:Int)] w λe w'=>∃v,e=aq v/\pv F G ts w w' b l sn d (fU ts (f+1) k d i) v:=by
 have eR:fU ts (f+1) k d i=ND (fU ts f (k+1) d i) λx j=>nC ts (fU ts f (k+1) d) (k:Int) (ts.length-j) x j:=by rw[fU,aX aG]
 rw[eR];have M0:∀i x j,fU ts f (k+1) d i=.ok (x,j)->i<j:=λi x j h=>lY f _ _ i h;generalize hgE:fU ts f (k+1) d=E at*
 generalize hR:(ND (E i) λx j=>nC ts E (k:Int) _ x j)=R;refine aff _ _ _ w ?_;have ek:av ae ((k:Int)+1)=((k+1:Nat):Int):=aaq
 refine⟨λhc=>absurd aaw (by omega:¬(k:Int)=6),λ_ k1 w3 j9 jW dE=>?_⟩;have hb:=h.lb;rw[ek];refine(hE w3 i (h.only dE)).mono ?_;rintro _ w4 ⟨v,rfl,hD⟩;obtain⟨vk,vn,vs,vo,vl,va,rfl⟩:=hD.Bn;have z3:=dE.size;have z4:=hD.1.size;refine⟨_,_,_,_,_,_,rfl,hD.1.same aab,λk2 w5 uY xM eK=>?_⟩;have abL:=((dE.weaken (bs':=[b]) λ_ h=>aaH).trans hD.1 λx hx=>.inl hx).cy eK;have sm:∀{u u':ay},w5.heap.size<=u.heap.size->aA [b] u u'->cj [k1,k2] u u':=λhu hO=>hO.same (by intro x hx;simp at hx⊢;omega);have MY:=h.big;have nS:∃(j:Nat) (c a:Int),Rd F G ts w4 b l sn j c a (d:Int)/\∀w6,aA [] w4 w6->∃nv,At5 F G ts w b l sn d (λq=>q=k1∨q=k2) E (k:Int) R nv (if c=0 then AA ts (k:Int) j else 0) (sM vk vn vs vo vl va) w6:=by
  obtain⟨dL,WS⟩:=hD;have E8:=(dE.weaken (bs':=[b]) λ_ h=>aaH).trans dL λx hx=>.inl hx;cases Tc:E i with
  | error e=>
   rw[Tc]at WS hR;obtain⟨c,a⟩:=e;obtain⟨a1,a2,j,a3⟩:=WS;exact⟨j,c,a,a3,λw6 eI=>⟨0,E8.cy eI,.inl ⟨c,a,j,aX a1,a1,hR.symm,a3.only eI⟩⟩⟩
  | ok q=>
   obtain⟨x,j⟩:=q;rw[Tc]at WS hR;obtain⟨cs,a1,a2,a3⟩:=WS;have oI:(sM vk vn vs vo vl va)=cs:=bh Array.toList (Value.agg.inj a1);rw[oI];exact⟨j,0,0,a3,λw6 eI=>⟨ts.length-j,E8.cy eI,.inr ⟨x,j,aZ rfl,((a2.only eI aaa).SZ λq h1 h2 _=>aG).wide z3 eI.size,a3.only eI,hR.symm,ba _⟩⟩⟩
 obtain⟨j0,c0,a0,hR4,nS⟩:=nS;refine(AE (hR4.only eK) (k:Int)).mono ?_;rintro _ w6 ⟨rfl,eI⟩;have z6:=eI.size;obtain⟨nv0,hA0⟩:=nS w6 (eK.cy eI);refine⟨_,rfl,eI.same aab,λnv op i10 i11 s2 i12 l2 i13 w'=>w5.heap.size<=w'.heap.size/\At5 F G ts w b l sn d _ E (k:Int) R nv op [O ae i10,O ae i11,ah s2,O ae i12,l2.v,O ae i13] w',nv0,⟨z6,hA0⟩,?_⟩;rintro nv op i10 i11 s2 i12 l2 i13 w7 ⟨z7,fL,hA⟩;refine⟨λE9=>?_,λE9 fP eH=>?_⟩
 ·have E9:op≠0:=by simpa using E9
  rcases hA with⟨_,_,_,e,_⟩ | ⟨x,j,rfl,hX,Tg,OG,hnv⟩
  ·exact absurd e E9
  have hn:=Tg.en.next Tg.lt (xb _ _ E9);obtain⟨g,rfl⟩:∃g,nv=g+1:=⟨nv-1,aG⟩
  rw[nC,aX E9]at OG;refine⟨(j:Int),Blk.eE Tg.blk 1 rfl,b,1,_,_,rfl,Tg.blk,aaa,aG,aG,λw8 fV uB=>?_⟩;rw[gF aG aG]at uB;have h8:=Tg.nR fV uB hn;have z8:=fV.size;refine(hE w8 (j+1) h8).mono ?_;rintro _ w9 ⟨v,rfl,hD9⟩;obtain⟨yk,yn,ys,yo,yl,ya,rfl⟩:=hD9.Bn;have z9:=hD9.1.size;refine⟨_,_,_,_,_,_,rfl,sm aG hD9.1,λk8 dR hk8 abF eO=>?_⟩;have Pu:=eO.size;obtain⟨dS,rP,HR,ey⟩:=Q1 dR [[O ae i10,O ae i11,ah s2,O ae i12,l2.v,O ae i13],sM yk yn ys yo yl ya] aaa aaa aaa (parts:=#[_,_]) rfl;have Fa:=ey.size;refine⟨⟨some _,2,2⟩,dS,rP,ey.same aab,λfp fu=>?_⟩;have z12:=fu.size;have YL:aA [b] w fp:=((((fL.trans fV λx hx=>.inl hx).trans hD9.1 λx hx=>.inl hx).cy eO).cy ey).new fu aG;have HS:aA [k2] w9 fp:=((eO.cy ey).weaken (bs':=[k2]) λ_ h=>aaH).trans fu λx hx=>.inl hx;have abM:∃(j':Nat) (c a:Int),Rd F G ts w9 b l sn j' c a (d:Int)/\∀fD,aA [] fp fD->∃nv,nv<g+1/\At5 F G ts w b l sn d (λq=>q=k1∨q=k2) E (k:Int) R nv (if c=0 then AA ts (k:Int) j' else 0) (sM 5 0 [] (AA ts (k:Int) j) ⟨some ⟨dR.heap.size,0,none⟩,2,2⟩ i13) fD:=by
   obtain⟨gy,WS⟩:=hD9;cases Tc:E (j+1)with
   | error e=>
    rw[Tc]at WS OG;obtain⟨c,a⟩:=e;obtain⟨a1,a2,j',a3⟩:=WS;exact⟨j',c,a,a3,λfD eL=>⟨0,aG,YL.cy eL,.inl ⟨c,a,j',aX a1,a1,OG,(a3.own HS aab).only eL⟩⟩⟩
   | ok q=>
    obtain⟨y,j'⟩:=q;rw[Tc]at WS OG;obtain⟨cs,a1,a2,a3⟩:=WS;have oI:_=cs:=bh Array.toList (Value.agg.inj a1);have hjj:=M0 _ _ _ Tc;obtain⟨xl,JB,_⟩:=hX.cells;have hxa:=by
     simp only[sM,rT,Value.int.injEq]at JB;exact JB.2.2.2.2.2.1.2
    refine⟨j',0,0,a3,λfD eL=>⟨g,aG,YL.cy eL,.inr ⟨.mk 5 0 [] (AA ts (k:Int) j) [x,y] x.a,j',aZ rfl,?_,(a3.own HS aab).only eL,OG,?_⟩⟩⟩
    ·have ahn:=(((((fV.weaken (bs':=[b,k2]) λx hx=>.inl aaQ).trans gy λx hx=>.inl aaQ).trans HS λx hx=>.inl aaQ).cy eL))
     have aho:=HS.cy eL;have Bw:aH fD dR.heap.size 131 ([O ae i10,O ae i11,ah s2,O ae i12,l2.v,O ae i13]++cs):=by
      have:=eL.blk (fu.blk HR aab) aaa;rw[<-oI];simpa using this
     have anV:RXN fD (λq=>q=k1∨q=k2) w.heap.size w7.heap.size x [O ae i10,O ae i11,ah s2,O ae i12,l2.v,O ae i13]:=by
      exact hX.only ahn λq hq=>by
       simp only[aR,bn,cm]at hq;rcases hq with rfl | rfl
       ·exact .inl hb
       exact .inr (.inr (.inr rfl))
     have anW:RXN fD (λq=>q=k1∨q=k2) w8.heap.size w9.heap.size y cs:=(a2.only aho λq hq=>.inl (by simp only[aO]at hq;omega)).SZ λq h1 h2 _=>aG
     rw[hxa];exact .two w.heap.size w7.heap.size w8.heap.size w9.heap.size dR.heap.size _ _ _ _ _ _ x y _ cs anV z8 anW aG aG aG aG (by have:=Bw.lt;omega) aG Bw
    omega
  obtain⟨j',c',a',hR9,abM⟩:=abM;refine(AE (hR9.own HS aab) (k:Int)).mono ?_;rintro _ fD ⟨rfl,eL⟩;obtain⟨nv',anX,hA'⟩:=abM fD eL;exact⟨_,rfl,eL.same aab,nv',anX,by have:=eL.size;omega,hA'⟩
 have E9:op=0:=by simpa using E9
 refine⟨fL.new eH aG,?_⟩;rcases hA with⟨c,a,j,_,hc,OG,Tg⟩ | ⟨x,j,Ys,hX,Tg,OG,hnv⟩
 ·rw[OG];exact⟨hc,⟨i10,i11,s2.data.toList,i12,l2,i13,rfl⟩,j,Tg.own eH aab⟩
 rw[OG,NF (by rw[<-Ys,E9])];exact⟨_,rfl,((hX.only eH λq hq=>.inr (.inr (.inl (by simpa using hq)))).SZ λ_ _ _ _ h=>h).wide (ba _) eH.size,Tg.own eH aab⟩
theorem Gw : ∀ f, (∀ k d i w, k <= 6 -> d <= 20 -> lA k d <= f -> Rd F G ts w b l sn i 0 0 d ->
      aB au 231 #[ai (some ⟨b, 0, none⟩), O ae k] w λe w' => ∃ v, e = aq v /\ pv F G ts w w' b l sn d (fU ts f k d i) v) /\
    (∀ d i w, d <= 20 -> lA 6 d <= f -> Rd F G ts w b l sn i 0 0 d ->
      aB au 248 #[ai (some ⟨b, 0, none⟩)] w λe w' => ∃ v, e = aq v /\ pv F G ts w w' b l sn d (fU ts f 6 d i) v)
  | 0 => ⟨λk d i w hk hd hn => by unfold lA at hn; omega, λd i w hd hn => by unfold lA at hn; omega⟩
  | f + 1 => by
    obtain ⟨Pw, Ut⟩ := Gw f
    have one : ∀ (d i) w, d <= 20 -> lA 6 d <= f + 1 -> Rd F G ts w b l sn i 0 0 d ->
      aB au 248 #[ai _] w λe w' => ∃ v, e = aq v /\ pv F G ts w w' b l sn d _ v := λd i w hd hn h => by
      unfold lA at hn
      exact ZY hd h (λh20 w i h => Pw 0 _ i w aG aG (by unfold lA; omega) h) (λh20 w i h => Ut _ i w aG (by unfold lA; omega) h)
    refine ⟨λk d i w hk hd hn h => ?_, one⟩
    by_cases h6 : k = 6
    · subst h6
      refine aff _ _ _ w ?_
      refine ⟨λ_ k0 w0 hY fA cQ => ?_, λhc => absurd hc aN⟩
      refine (one d i w0 hd hn (h.only cQ)).mono ?_
      rintro _ w1 ⟨v, rfl, hD⟩
      obtain ⟨vk, vn, vs, vo, vl, va, rfl⟩ := hD.Bn
      have hb := h.lb
      exact ⟨_, _, _, _, _, _, rfl, hD.1.same (by simp; omega), λw2 dw => hD.S1 (cQ.weaken λ_ h => aaH) dw (by simp; omega)⟩
    · unfold lA at hn
      exact NG aG h λw i h => Pw _ d i w aG hd (by unfold lA; omega) h
end
end Go.Proofs.YtpbgcbdclnfpnaaGreatDoor.Con
