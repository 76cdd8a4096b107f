import Derived.Test.YtmgndgpgngcgpaaGreatDoorQm3
set_option linter.unusedSectionVars false
set_option linter.unusedVariables false
set_option maxRecDepth 100000
set_option maxHeartbeats 40000000
set_option linter.unusedSimpArgs false
open Go.Value renaming int->O,string->ab,pointer->ae,agg->ah,tuple->ai,bool->aj
open Go.IntKind renaming i64->U,wrap->ar
open Go.Ending renaming returned->ak
open _root_.ByteArray renaming mk->ao
open _root_.Go.Proofs.Tryz renaming prog->aq
open Go.Instr renaming buildSlice->au
open Go renaming World->av,Value->aw,Calls->az
open Go.Kt renaming Only->ay,SliceF->aA,Cells->aB,OnlyP->aD,Blk->aF
namespace Go.Proofs.YtmgndgpgngcgpaaGreatDoor.Vc
open Go Go.RowKit Go.Kt Go.Kt.V
theorem aeV(m:Int)(m1:aK)(m2:Int)(m3:Bool)(m4 m5:Int)(m6:aK)(m7:Int)(m8:Sl)(m9:Int)(m10 m11:Sl)(m12:Int)(R:aG)(w:av)(h:nw w λk0 w0=>qf (λs0 w1=>qf (λs1 w2=>qf (λs2 w3=>qf (λs3 w4=>WC s3 0 w4 λJ4 k2 s4 i0 w5=>cx (decide (i0<(m11.n:Int))) (qf (λs5 w6=>ES m11 i0 w6 λs6=>((s5.size:Int)+(s6.size:Int))<=9223372036854775807/\nx k2 λk3=>J4 k3 (s5++s6) (ar U (i0+1)) w6) λJ5=>cx (i0==0) (((s4.size:Int)+4)<=9223372036854775807/\J5 (s4++(ao #[32,45,62,32])) w5) (((s4.size:Int)+2)<=9223372036854775807/\J5 (s4++(ao #[44,32])) w5)) (((s4.size:Int)+1)<=9223372036854775807/\R (ab (s4++(ao #[59]))) w5)) λJ3=>cx (decide ((m10.n:Int)>0)) (((s2.size:Int)+1)<=9223372036854775807/\my [k0] 70 #[m10.v] w3 λs7 w7=>(((s2++(ao #[32])).size:Int)+(s7.size:Int))<=9223372036854775807/\J3 ((s2++(ao #[32]))++s7) w7) (J3 s2 w3)) λJ2=>cx m3 (((s1.size:Int)+2)<=9223372036854775807/\my [k0] 69 #[ah #[O U m4,O U m5,ab m6,O U m7,m8.v,O U m9]] w2 λs8 w8=>(((s1++(ao #[32,91])).size:Int)+(s8.size:Int))<=9223372036854775807/\((((s1++(ao #[32,91]))++s8).size:Int)+1)<=9223372036854775807/\J2 (((s1++(ao #[32,91]))++s8)++(ao #[93])) w8) (J2 s1 w2)) λJ1=>cx (m==3) (my [k0] 67 #[O U m2] w1 λs9 w9=>(6+(s9.size:Int))<=9223372036854775807/\J1 ((ao #[97,102,116,101,114,32])++s9) w9) (J1 s0 w1)) λJ0=>cx (m==1) ((3+(m1.size:Int))<=9223372036854775807/\J0 ((ao #[111,110,32])++m1) w0) (J0 (ao #[97,108,119,97,121,115]) w0)):Cr 30 #[ah #[O U m,ab m1,O U m2,aj m3,O U m4,O U m5,ab m6,O U m7,m8.v,O U m9,m10.v,m11.v,O U m12]] w R:=
 fB (an:=.d 2 (.j [1] [.s 3 .str] .o (.j [1] [.s 3 .str] .o (.j [1] [.s 3 .str] .o (.j [1] [.s 3 .str] .o (.s (.s .o (.j [1] [.s 3 .str,.s 4 (.int .i64)] (.s .o (.s (.j [1,4] [.s 3 .str] .o .o) .o)) .o)) .o)))))) (args:=[.agg (lR [.int .i64 m,.str m1,.int .i64 m2,.bt m3,.int .i64 m4,.int .i64 m5,.str m6,.int .i64 m7,.sl m8,.int .i64 m9,.sl m10,.sl m11,.int .i64 m12])]) h
theorem aeW(p:Addr)(x:Int)(x1 x2 x3:aK)(x4 x5 x6 x7:Sl)(x8 deep:Int)(R:aG)(w:av)(h:nw w λk0 w0=>ER (λw1=>fW [k0] 68 #[ae (some p),ah #[O U x,ab x1,ab x2,ab x3,x4.v,x5.v,x6.v,x7.v,O U x8],O U (ar U (deep+1))] w1 λw2=>fW [k0] 66 #[ae (some p),O U deep,ab (ao #[125])] w2 λw3=>R (ai #[]) w3) λJ0=>cx (x==3) ((8+(x1.size:Int))<=9223372036854775807/\((((ao #[104,105,115,116,111,114,121,32])++x1).size:Int)+4)<=9223372036854775807/\(((((ao #[104,105,115,116,111,114,121,32])++x1)++(ao #[32,45,62,32])).size:Int)+(x3.size:Int))<=9223372036854775807/\((((((ao #[104,105,115,116,111,114,121,32])++x1)++(ao #[32,45,62,32]))++x3).size:Int)+1)<=9223372036854775807/\fW [k0] 66 #[ae (some p),O U deep,ab (((((ao #[104,105,115,116,111,114,121,32])++x1)++(ao #[32,45,62,32]))++x3)++(ao #[59]))] w0 λw4=>R (ai #[]) w4) (cx (x==4) ((5+(x1.size:Int))<=9223372036854775807/\((((ao #[100,101,101,112,32])++x1).size:Int)+4)<=9223372036854775807/\(((((ao #[100,101,101,112,32])++x1)++(ao #[32,45,62,32])).size:Int)+(x3.size:Int))<=9223372036854775807/\((((((ao #[100,101,101,112,32])++x1)++(ao #[32,45,62,32]))++x3).size:Int)+1)<=9223372036854775807/\fW [k0] 66 #[ae (some p),O U deep,ab (((((ao #[100,101,101,112,32])++x1)++(ao #[32,45,62,32]))++x3)++(ao #[59]))] w0 λw5=>R (ai #[]) w5) (cx (x==1) ((6+(x1.size:Int))<=9223372036854775807/\((((ao #[115,116,97,116,101,32])++x1).size:Int)+2)<=9223372036854775807/\fW [k0] 66 #[ae (some p),O U deep,ab (((ao #[115,116,97,116,101,32])++x1)++(ao #[32,123]))] w0 λw6=>J0 w6) ((9+(x1.size:Int))<=9223372036854775807/\((((ao #[112,97,114,97,108,108,101,108,32])++x1).size:Int)+2)<=9223372036854775807/\fW [k0] 66 #[ae (some p),O U deep,ab (((ao #[112,97,114,97,108,108,101,108,32])++x1)++(ao #[32,123]))] w0 λw7=>J0 w7)))):Cr 119 #[ae (some p),ah #[O U x,ab x1,ab x2,ab x3,x4.v,x5.v,x6.v,x7.v,O U x8],O U deep] w R:=
 fB (an:=.s .o (.j [0,2,4] [] .o .o)) (args:=[.ad p,.agg (lR [.int .i64 x,.str x1,.str x2,.str x3,.sl x4,.sl x5,.sl x6,.sl x7,.int .i64 x8]),.int .i64 deep]) h
theorem aeX(m:Int)(m1:aK)(m2:Int)(m3:Bool)(m4 m5:Int)(m6:aK)(m7:Int)(m8:Sl)(m9:Int)(m10 m11:Sl)(m12:Int)(R:aG)(w:av)(h:nw w λk0 w0=>mw [k0] 10 #[] w0 λb0 w1=>qf (λb1 w2=>R (aj b1) w2) λJ0=>∀w3,ay [] w1 w3->∃J1:aJ,cx b0 (J1 k0/\my [k0] 11 #[ah #[O U m,ab m1,O U m2,aj m3,O U m4,O U m5,ab m6,O U m7,m8.v,O U m9,m10.v,m11.v,O U m12]] w3 λs0 w4=>bR J1 w3 w4/\my [k0] 12 #[ah #[O U m,ab m1,O U m2,aj m3,O U m4,O U m5,ab m6,O U m7,m8.v,O U m9,m10.v,m11.v,O U m12]] w4 λs1 w5=>bR J1 w4 w5/\J0 (s0.toList==s1.toList) w5) (J0 false w3)):Cr 4 #[ah #[O U m,ab m1,O U m2,aj m3,O U m4,O U m5,ab m6,O U m7,m8.v,O U m9,m10.v,m11.v,O U m12]] w R:=
 fB (an:=.d 2 (.s (.j [1] [.s 2 .bool] .o .o) .o)) (args:=[.agg (lR [.int .i64 m,.str m1,.int .i64 m2,.bt m3,.int .i64 m4,.int .i64 m5,.str m6,.int .i64 m7,.sl m8,.int .i64 m9,.sl m10,.sl m11,.int .i64 m12])]) h
theorem aeY(m:Int)(m1:aK)(m2:Int)(m3:Bool)(m4 m5:Int)(m6:aK)(m7:Int)(m8:Sl)(m9:Int)(m10 m11:Sl)(m12:Int)(R:aG)(w:av)(h:nw w λk0 w0=>gy (au 24 1 #[.mk 0 (ah #[O U m,ab m1,O U m2,aj m3,O U m4,O U m5,ab m6,O U m7,m8.v,O U m9,m10.v,m11.v,O U m12])]) w0 λl0 w1=>cb [k0] w0 w1/\az aq 26 #[ah #[Sl.nil.v,O U 1,ab (ao #[99]),ab (ao #[]),ab (ao #[]),Sl.nil.v,Sl.nil.v,l0.v,Sl.nil.v,O U 0]] w1 λe0 w2=>∃s0 i0,e0=(ak (ai #[ab s0,O U i0]))/\cb [k0] w1 w2/\cx (i0 !=0) (R (ab (ao #[])) w2) (R9 [k0] 27 #[ab s0,ab (ao #[10])] w2 λl1 w3=>ES l1 1 w3 λs1=>my [k0] 28 #[ab s1,ab (ao #[32])] w3 λs2 w4=>R (ab s2) w4)):Cr 11 #[ah #[O U m,ab m1,O U m2,aj m3,O U m4,O U m5,ab m6,O U m7,m8.v,O U m9,m10.v,m11.v,O U m12]] w R:=
 iQ (args:=[.agg (lR [.int .i64 m,.str m1,.int .i64 m2,.bt m3,.int .i64 m4,.int .i64 m5,.str m6,.int .i64 m7,.sl m8,.int .i64 m9,.sl m10,.sl m11,.int .i64 m12])]) h
theorem aeZ(m:Int)(m1:aK)(m2:Int)(m3:Bool)(m4 m5:Int)(m6:aK)(m7:Int)(m8:Sl)(m9:Int)(m10 m11:Sl)(m12:Int)(R:aG)(w:av)(h:nw w λk0 w0=>gy (au 24 1 #[.mk 0 (ah #[O U m,ab m1,O U m2,aj m3,O U m4,O U m5,ab m6,O U m7,m8.v,O U m9,m10.v,m11.v,O U m12])]) w0 λl0 w1=>cb [k0] w0 w1/\nw w1 λk1 w2=>az aq 29 #[ah #[Sl.nil.v,O U 1,ab (ao #[99]),ab (ao #[]),ab (ao #[]),Sl.nil.v,Sl.nil.v,l0.v,Sl.nil.v,O U 0]] w2 λe0 w3=>∃s0 i0,e0=(ak (ai #[ab s0,O U i0]))/\cb [k0,k1] w2 w3/\cx (i0 !=0) (R (ab (ao #[])) w3) (my [k0,k1] 30 #[ah #[O U m,ab m1,O U m2,aj m3,O U m4,O U m5,ab m6,O U m7,m8.v,O U m9,m10.v,m11.v,O U m12]] w3 λs1 w4=>R (ab s1) w4)):Cr 12 #[ah #[O U m,ab m1,O U m2,aj m3,O U m4,O U m5,ab m6,O U m7,m8.v,O U m9,m10.v,m11.v,O U m12]] w R:=
 iQ (args:=[.agg (lR [.int .i64 m,.str m1,.int .i64 m2,.bt m3,.int .i64 m4,.int .i64 m5,.str m6,.int .i64 m7,.sl m8,.int .i64 m9,.sl m10,.sl m11,.int .i64 m12])]) h
end Go.Proofs.YtmgndgpgngcgpaaGreatDoor.Vc
namespace Go.Proofs
open Go.Shelf
def Tryz.wq:Go.Shelf.Ren:=⟨λ| 156=>145 | 165=>144 | 166=>99 | 169=>59 | 240=>142 | 241=>181 | 276=>178 | 277=>207 | n=>n,λ| 31=>41 | 9=>9 | 3=>3 | 4=>4 | 0=>0 | 20=>20 | 72=>114 | 76=>171 | 70=>111 | 37=>112 | 75=>170 | 127=>178 | 164=>230 | 5=>5 | 80=>123 | n=>n,λ| n=>n⟩
theorem Tryz.IA:Go.Proofs.Lays.n156 Tryz.prog Tryz.wq:={
 mixed:=by kernel_rfl
 f156:=Tryz.func145.trans (br some (by kernel_rfl))
 f165:=Tryz.func144.trans (br some (by kernel_rfl))
 f166:=Tryz.func99.trans (br some (by kernel_rfl))
 f169:=Tryz.func59.trans (br some (by kernel_rfl))
 f240:=Tryz.func142.trans (br some (by kernel_rfl))
 f241:=Tryz.func181.trans (br some (by kernel_rfl))
 f276:=Tryz.func178.trans (br some (by kernel_rfl))
 f277:=Tryz.func207.trans (br some (by kernel_rfl))
 t0:=Tryz.underlying0
 a0:=Tryz.isAgg0
 z0:=Tryz.sizeOf0
 v0:=Tryz.zeroValue0
 t3:=Tryz.underlying3
 a3:=Tryz.isAgg3
 z3:=Tryz.sizeOf3
 v3:=Tryz.zeroValue3
 t4:=Tryz.underlying4
 a4:=Tryz.isAgg4
 z4:=Tryz.sizeOf4
 v4:=Tryz.zeroValue4
 t9:=Tryz.underlying9
 a9:=Tryz.isAgg9
 z9:=Tryz.sizeOf9
 v9:=Tryz.zeroValue9
 t20:=Tryz.underlying20
 a20:=Tryz.isAgg20
 z20:=Tryz.sizeOf20
 v20:=Tryz.zeroValue20
 t31:=Tryz.underlying41
 a31:=Tryz.isAgg41
 z31:=Tryz.sizeOf41
 v31:=Tryz.zeroValue41
 t37:=Tryz.underlying112
 a37:=Tryz.isAgg112
 z37:=Tryz.sizeOf112
 v37:=Tryz.zeroValue112
 t70:=Tryz.underlying111
 a70:=Tryz.isAgg111
 z70:=Tryz.sizeOf111
 v70:=Tryz.zeroValue111
 t72:=Tryz.underlying114
 a72:=Tryz.isAgg114
 z72:=Tryz.sizeOf114
 v72:=Tryz.zeroValue114
 t75:=Tryz.underlying170
 a75:=Tryz.isAgg170
 z75:=Tryz.sizeOf170
 v75:=Tryz.zeroValue170
 t76:=Tryz.underlying171
 a76:=Tryz.isAgg171
 z76:=Tryz.sizeOf171
 v76:=Tryz.zeroValue171
 t127:=Tryz.underlying178
 a127:=Tryz.isAgg178
 z127:=Tryz.sizeOf178
 v127:=Tryz.zeroValue178
 t164:=Tryz.underlying230
 a164:=Tryz.isAgg230
 z164:=Tryz.sizeOf230
 v164:=Tryz.zeroValue230}
theorem Tryz.ob:Builder.Extra Tryz.prog Tryz.wq:={
 sizeBuilder:=by kernel_rfl
 liesBuilder:=by kernel_rfl
 t5:=Tryz.underlying5
 a5:=Tryz.isAgg5
 z5:=Tryz.sizeOf5
 v5:=Tryz.zeroValue5
 infoByte:=by kernel_rfl
 cellsByte:=by kernel_rfl
 sizeByte:=by kernel_rfl
 neB5:=aL}
open Go.RowKit in
theorem Tryz.strings_Join_none (a:Option Addr) (c:Nat) (sep:ByteArray) (w:World):
 Calls Tryz.prog 145 #[.slice a 0 c,.string sep] w λe w'=>e=.returned (.string ⟨#[]⟩)/\w'=w:=Any.strings_Join_none Tryz.IA Tryz.ob a c sep w
open Go.RowKit in
theorem Tryz.strings_Join (bk o c:Nat) (xs:List ByteArray) (sep:ByteArray) (w:World) (tR:∀(j:Nat) x,xs[j]? =some x->w.cell? ⟨bk,o+j,none⟩=some (.string x)) (KA:bk<w.heap.size) (hN:xs.length<=140737488355328) (nD:xs.length<=c) (eu:(Lib.join (xs.map (·.data.toList)) sep.data.toList).length<=140737488355328):
 Calls Tryz.prog 145 #[.slice (some ⟨bk,o,none⟩) xs.length c,.string sep] w λe w'=>e=.returned (.string ⟨(Lib.join (xs.map (·.data.toList)) sep.data.toList).toArray⟩)/\Below w.heap.size w w':=Any.strings_Join Tryz.IA Tryz.ob bk o c xs sep w tR KA hN nD eu
def Tryz.Et:Go.Shelf.Ren:=⟨λ| 161=>28 | 231=>61 | 227=>62 | 233=>63 | 235=>64 | 228=>112 | 197=>113 | 151=>114 | 260=>157 | 152=>158 | 137=>189 | 119=>190 | 224=>187 | 225=>186 | 217=>185 | 266=>216 | n=>n,λ| 9=>9 | 4=>4 | 3=>3 | 5=>5 | 117=>128 | 116=>127 | 0=>0 | 124=>131 | 105=>182 | 21=>21 | 119=>240 | 46=>207 | 139=>243 | 138=>242 | n=>n,λ| 3=>1 | 4=>2 | n=>n⟩
theorem Tryz.Rb:Go.Proofs.Lays.n161 Tryz.prog Tryz.Et:={
 mixed:=by kernel_rfl
 f119:=Tryz.func190.trans (br some (by kernel_rfl))
 f137:=Tryz.func189.trans (br some (by kernel_rfl))
 f151:=Tryz.func114.trans (br some (by kernel_rfl))
 f152:=Tryz.func158.trans (br some (by kernel_rfl))
 f161:=Tryz.func28.trans (br some (by kernel_rfl))
 f197:=Tryz.func113.trans (br some (by kernel_rfl))
 f217:=Tryz.func185.trans (br some (by kernel_rfl))
 f224:=Tryz.func187.trans (br some (by kernel_rfl))
 f225:=Tryz.func186.trans (br some (by kernel_rfl))
 f227:=Tryz.func62.trans (br some (by kernel_rfl))
 f228:=Tryz.func112.trans (br some (by kernel_rfl))
 f231:=Tryz.func61.trans (br some (by kernel_rfl))
 f233:=Tryz.func63.trans (br some (by kernel_rfl))
 f235:=Tryz.func64.trans (br some (by kernel_rfl))
 f260:=Tryz.func157.trans (br some (by kernel_rfl))
 f266:=Tryz.func216.trans (br some (by kernel_rfl))
 t0:=Tryz.underlying0
 a0:=Tryz.isAgg0
 z0:=Tryz.sizeOf0
 v0:=Tryz.zeroValue0
 t3:=Tryz.underlying3
 a3:=Tryz.isAgg3
 z3:=Tryz.sizeOf3
 v3:=Tryz.zeroValue3
 t4:=Tryz.underlying4
 a4:=Tryz.isAgg4
 z4:=Tryz.sizeOf4
 v4:=Tryz.zeroValue4
 t5:=Tryz.underlying5
 a5:=Tryz.isAgg5
 z5:=Tryz.sizeOf5
 v5:=Tryz.zeroValue5
 t9:=Tryz.underlying9
 a9:=Tryz.isAgg9
 z9:=Tryz.sizeOf9
 v9:=Tryz.zeroValue9
 t21:=Tryz.underlying21
 a21:=Tryz.isAgg21
 z21:=Tryz.sizeOf21
 v21:=Tryz.zeroValue21
 t46:=Tryz.underlying207
 a46:=Tryz.isAgg207
 z46:=Tryz.sizeOf207
 v46:=Tryz.zeroValue207
 t105:=Tryz.underlying182
 a105:=Tryz.isAgg182
 z105:=Tryz.sizeOf182
 v105:=Tryz.zeroValue182
 t116:=Tryz.underlying127
 a116:=Tryz.isAgg127
 z116:=Tryz.sizeOf127
 t117:=Tryz.underlying128
 a117:=Tryz.isAgg128
 z117:=Tryz.sizeOf128
 v117:=Tryz.zeroValue128
 t119:=Tryz.underlying240
 a119:=Tryz.isAgg240
 z119:=Tryz.sizeOf240
 t124:=Tryz.underlying131
 a124:=Tryz.isAgg131
 z124:=Tryz.sizeOf131
 v124:=Tryz.zeroValue131
 t138:=Tryz.underlying242
 a138:=Tryz.isAgg242
 z138:=Tryz.sizeOf242
 v138:=Tryz.zeroValue242
 t139:=Tryz.underlying243
 a139:=Tryz.isAgg243
 z139:=Tryz.sizeOf243
 v139:=Tryz.zeroValue243
 g3:=by kernel_rfl
 g4:=by kernel_rfl}
open Go.RowKit in
theorem Tryz.strings_TrimLeft_one (s:ByteArray) (c:UInt8) (hc:c.toNat<128) (w:World):
 Calls Tryz.prog 28 #[.string s,.string ⟨#[c]⟩] w λe w'=>e=.returned (.string ⟨(Lib.trimLeftB s.data.toList c).toArray⟩)/\w'=w:=Any.strings_TrimLeft_one Tryz.Rb s c hc w
def Tryz.B7:Go.Shelf.Ren:=⟨λ| 171=>103 | 243=>150 | 246=>183 | 283=>208 | 284=>209 | 285=>210 | 286=>211 | 129=>228 | 317=>227 | 318=>229 | 319=>230 | 320=>231 | 337=>248 | 338=>249 | n=>n,λ| 3=>3 | 9=>9 | 2=>2 | 4=>4 | 171=>258 | 0=>0 | 53=>190 | 37=>112 | 5=>5 | 173=>261 | 212=>282 | 51=>232 | 20=>20 | 213=>283 | 46=>207 | 232=>303 | 233=>304 | n=>n,λ| 17=>3 | 18=>6 | 19=>7 | n=>n⟩
theorem Tryz.NB:Go.Proofs.LaysM.n171 Tryz.prog Tryz.B7:={
 mixed:=by kernel_rfl
 f129:=Tryz.func228.trans (br some (by kernel_rfl))
 f171:=Tryz.func103.trans (br some (by kernel_rfl))
 f243:=Tryz.func150.trans (br some (by kernel_rfl))
 f246:=Tryz.func183.trans (br some (by kernel_rfl))
 f283:=Tryz.func208.trans (br some (by kernel_rfl))
 f284:=Tryz.func209.trans (br some (by kernel_rfl))
 f285:=Tryz.func210.trans (br some (by kernel_rfl))
 f286:=Tryz.func211.trans (br some (by kernel_rfl))
 f317:=Tryz.func227.trans (br some (by kernel_rfl))
 f318:=Tryz.func229.trans (br some (by kernel_rfl))
 f319:=Tryz.func230.trans (br some (by kernel_rfl))
 f320:=Tryz.func231.trans (br some (by kernel_rfl))
 f337:=Tryz.func248.trans (br some (by kernel_rfl))
 f338:=Tryz.func249.trans (br some (by kernel_rfl))
 t0:=Tryz.underlying0
 a0:=Tryz.isAgg0
 z0:=Tryz.sizeOf0
 v0:=Tryz.zeroValue0
 t2:=Tryz.underlying2
 a2:=Tryz.isAgg2
 z2:=Tryz.sizeOf2
 v2:=Tryz.zeroValue2
 t3:=Tryz.underlying3
 a3:=Tryz.isAgg3
 z3:=Tryz.sizeOf3
 v3:=Tryz.zeroValue3
 t4:=Tryz.underlying4
 a4:=Tryz.isAgg4
 z4:=Tryz.sizeOf4
 v4:=Tryz.zeroValue4
 t5:=Tryz.underlying5
 a5:=Tryz.isAgg5
 z5:=Tryz.sizeOf5
 v5:=Tryz.zeroValue5
 t9:=Tryz.underlying9
 a9:=Tryz.isAgg9
 z9:=Tryz.sizeOf9
 v9:=Tryz.zeroValue9
 t20:=Tryz.underlying20
 a20:=Tryz.isAgg20
 z20:=Tryz.sizeOf20
 v20:=Tryz.zeroValue20
 t37:=Tryz.underlying112
 a37:=Tryz.isAgg112
 z37:=Tryz.sizeOf112
 v37:=Tryz.zeroValue112
 t46:=Tryz.underlying207
 a46:=Tryz.isAgg207
 z46:=Tryz.sizeOf207
 v46:=Tryz.zeroValue207
 t51:=Tryz.underlying232
 a51:=Tryz.isAgg232
 z51:=Tryz.sizeOf232
 v51:=Tryz.zeroValue232
 t53:=Tryz.underlying190
 a53:=Tryz.isAgg190
 z53:=Tryz.sizeOf190
 v53:=Tryz.zeroValue190
 t171:=Tryz.underlying258
 a171:=Tryz.isAgg258
 z171:=Tryz.sizeOf258
 v171:=Tryz.zeroValue258
 t173:=Tryz.underlying261
 a173:=Tryz.isAgg261
 z173:=Tryz.sizeOf261
 v173:=Tryz.zeroValue261
 t212:=Tryz.underlying282
 a212:=Tryz.isAgg282
 z212:=Tryz.sizeOf282
 v212:=Tryz.zeroValue282
 t213:=Tryz.underlying283
 a213:=Tryz.isAgg283
 z213:=Tryz.sizeOf283
 t232:=Tryz.underlying303
 a232:=Tryz.isAgg303
 z232:=Tryz.sizeOf303
 v232:=Tryz.zeroValue303
 t233:=Tryz.underlying304
 a233:=Tryz.isAgg304
 z233:=Tryz.sizeOf304
 v233:=Tryz.zeroValue304
 g17:=by kernel_rfl
 g18:=by kernel_rfl
 g19:=by kernel_rfl
 i0:=by kernel_rfl
 i2:=by kernel_rfl
 i3:=by kernel_rfl
 i4:=by kernel_rfl
 i5:=by kernel_rfl
 i9:=by kernel_rfl
 i20:=by kernel_rfl
 i37:=by kernel_rfl
 i46:=by kernel_rfl
 i51:=by kernel_rfl
 i53:=by kernel_rfl
 i171:=by kernel_rfl
 i173:=by kernel_rfl
 i212:=by kernel_rfl
 i232:=by kernel_rfl
 i233:=by kernel_rfl
 m17:=by kernel_rfl
 m18:=by kernel_rfl
 m19:=by kernel_rfl}
open Go.RowKit Go.Sort Go.Lib in
theorem Tryz.strconv_Itoa (n:Int) (h0: -9223372036854775808<=n) (h1:n<=9223372036854775807) (w:World) (af6:Lib.TabIs Tryz.prog w "internal/strconv.uint64pow10" .u64 Lib.pow10Tab):
 Calls Tryz.prog 103 #[.int .i64 n] w λe w'=>e=.returned (.string ⟨(Lib.itoa n).toArray⟩)/\∃k os,w'=grow (w.drewN k) os:=Any.strconv_Itoa Tryz.NB n h0 h1 w af6
def Tryz.B8:Go.Shelf.Ren:=⟨λ| 316=>203 | n=>n,λ| 9=>9 | 3=>3 | 4=>4 | 37=>112 | 0=>0 | 127=>178 | 5=>5 | n=>n,λ| n=>n⟩
theorem Tryz.NC:Go.Proofs.LaysM.n316 Tryz.prog Tryz.B8:={
 mixed:=by kernel_rfl
 f316:=Tryz.func203.trans (br some (by kernel_rfl))
 t0:=Tryz.underlying0
 a0:=Tryz.isAgg0
 z0:=Tryz.sizeOf0
 v0:=Tryz.zeroValue0
 t3:=Tryz.underlying3
 a3:=Tryz.isAgg3
 z3:=Tryz.sizeOf3
 v3:=Tryz.zeroValue3
 t4:=Tryz.underlying4
 a4:=Tryz.isAgg4
 z4:=Tryz.sizeOf4
 v4:=Tryz.zeroValue4
 t9:=Tryz.underlying9
 a9:=Tryz.isAgg9
 z9:=Tryz.sizeOf9
 v9:=Tryz.zeroValue9
 t37:=Tryz.underlying112
 a37:=Tryz.isAgg112
 z37:=Tryz.sizeOf112
 v37:=Tryz.zeroValue112
 t127:=Tryz.underlying178
 a127:=Tryz.isAgg178
 z127:=Tryz.sizeOf178
 v127:=Tryz.zeroValue178
 t5:=Tryz.underlying5
 a5:=Tryz.isAgg5
 z5:=Tryz.sizeOf5
 v5:=Tryz.zeroValue5
 i0:=by kernel_rfl
 i3:=by kernel_rfl
 i4:=by kernel_rfl
 i5:=by kernel_rfl
 i9:=by kernel_rfl
 i37:=by kernel_rfl
 i127:=by kernel_rfl}
open Go.RowKit in
theorem Tryz.stringslite_Clone (s:ByteArray) (w:World) (Vi:s.size<=281474976710656):
 Calls Tryz.prog 203 #[.string s] w λe w'=>e=.returned (.string s)/\Below w.heap.size w w':=Any.stringslite_Clone Tryz.NC s w Vi
def Tryz.B9:Go.Shelf.Ren:=⟨λ| 174=>205 | 247=>221 | 245=>222 | 287=>241 | 279=>242 | 280=>243 | 281=>244 | 282=>245 | 321=>256 | 322=>257 | 316=>203 | 171=>103 | 205=>258 | 243=>150 | 246=>183 | 283=>208 | 284=>209 | 285=>210 | 286=>211 | 129=>228 | 317=>227 | 318=>229 | 319=>230 | 320=>231 | 337=>248 | 338=>249 | n=>n,λ| 9=>9 | 3=>3 | 2=>2 | 75=>170 | 85=>255 | 4=>4 | 167=>287 | 5=>5 | 53=>190 | 175=>288 | 46=>207 | 168=>290 | 37=>112 | 0=>0 | 210=>298 | 21=>21 | 127=>178 | 145=>307 | 143=>305 | 171=>258 | 173=>261 | 212=>282 | 51=>232 | 20=>20 | 213=>283 | 232=>303 | 233=>304 | 80=>123 | n=>n,λ| 15=>4 | 16=>5 | 17=>3 | 18=>6 | 19=>7 | n=>n⟩
theorem Tryz.Eu:Go.Proofs.LaysC.n174 Tryz.prog Tryz.B9:={
 mixed:=by kernel_rfl
 f129:=Tryz.func228.trans (br some (by kernel_rfl))
 f171:=Tryz.func103.trans (br some (by kernel_rfl))
 f174:=Tryz.func205.trans (br some (by kernel_rfl))
 f205:=Tryz.func258.trans (br some (by kernel_rfl))
 f243:=Tryz.func150.trans (br some (by kernel_rfl))
 f245:=Tryz.func222.trans (br some (by kernel_rfl))
 f246:=Tryz.func183.trans (br some (by kernel_rfl))
 f247:=Tryz.func221.trans (br some (by kernel_rfl))
 f279:=Tryz.func242.trans (br some (by kernel_rfl))
 f280:=Tryz.func243.trans (br some (by kernel_rfl))
 f281:=Tryz.func244.trans (br some (by kernel_rfl))
 f282:=Tryz.func245.trans (br some (by kernel_rfl))
 f283:=Tryz.func208.trans (br some (by kernel_rfl))
 f284:=Tryz.func209.trans (br some (by kernel_rfl))
 f285:=Tryz.func210.trans (br some (by kernel_rfl))
 f286:=Tryz.func211.trans (br some (by kernel_rfl))
 f287:=Tryz.func241.trans (br some (by kernel_rfl))
 f316:=Tryz.func203.trans (br some (by kernel_rfl))
 f317:=Tryz.func227.trans (br some (by kernel_rfl))
 f318:=Tryz.func229.trans (br some (by kernel_rfl))
 f319:=Tryz.func230.trans (br some (by kernel_rfl))
 f320:=Tryz.func231.trans (br some (by kernel_rfl))
 f321:=Tryz.func256.trans (br some (by kernel_rfl))
 f322:=Tryz.func257.trans (br some (by kernel_rfl))
 f337:=Tryz.func248.trans (br some (by kernel_rfl))
 f338:=Tryz.func249.trans (br some (by kernel_rfl))
 t0:=Tryz.underlying0
 a0:=Tryz.isAgg0
 z0:=Tryz.sizeOf0
 v0:=Tryz.zeroValue0
 t2:=Tryz.underlying2
 a2:=Tryz.isAgg2
 z2:=Tryz.sizeOf2
 v2:=Tryz.zeroValue2
 t3:=Tryz.underlying3
 a3:=Tryz.isAgg3
 z3:=Tryz.sizeOf3
 v3:=Tryz.zeroValue3
 t4:=Tryz.underlying4
 a4:=Tryz.isAgg4
 z4:=Tryz.sizeOf4
 v4:=Tryz.zeroValue4
 t5:=Tryz.underlying5
 a5:=Tryz.isAgg5
 z5:=Tryz.sizeOf5
 v5:=Tryz.zeroValue5
 t9:=Tryz.underlying9
 a9:=Tryz.isAgg9
 z9:=Tryz.sizeOf9
 v9:=Tryz.zeroValue9
 t20:=Tryz.underlying20
 a20:=Tryz.isAgg20
 z20:=Tryz.sizeOf20
 v20:=Tryz.zeroValue20
 t21:=Tryz.underlying21
 a21:=Tryz.isAgg21
 z21:=Tryz.sizeOf21
 v21:=Tryz.zeroValue21
 t37:=Tryz.underlying112
 a37:=Tryz.isAgg112
 z37:=Tryz.sizeOf112
 v37:=Tryz.zeroValue112
 t46:=Tryz.underlying207
 a46:=Tryz.isAgg207
 z46:=Tryz.sizeOf207
 v46:=Tryz.zeroValue207
 t51:=Tryz.underlying232
 a51:=Tryz.isAgg232
 z51:=Tryz.sizeOf232
 v51:=Tryz.zeroValue232
 t53:=Tryz.underlying190
 a53:=Tryz.isAgg190
 z53:=Tryz.sizeOf190
 v53:=Tryz.zeroValue190
 t75:=Tryz.underlying170
 a75:=Tryz.isAgg170
 z75:=Tryz.sizeOf170
 v75:=Tryz.zeroValue170
 t85:=Tryz.underlying255
 a85:=Tryz.isAgg255
 z85:=Tryz.sizeOf255
 v85:=Tryz.zeroValue255
 t127:=Tryz.underlying178
 a127:=Tryz.isAgg178
 z127:=Tryz.sizeOf178
 v127:=Tryz.zeroValue178
 t143:=Tryz.underlying305
 a143:=Tryz.isAgg305
 z143:=Tryz.sizeOf305
 v143:=Tryz.zeroValue305
 t145:=Tryz.underlying307
 a145:=Tryz.isAgg307
 z145:=Tryz.sizeOf307
 v145:=Tryz.zeroValue307
 t167:=Tryz.underlying287
 a167:=Tryz.isAgg287
 z167:=Tryz.sizeOf287
 v167:=Tryz.zeroValue287
 t168:=Tryz.underlying290
 a168:=Tryz.isAgg290
 z168:=Tryz.sizeOf290
 v168:=Tryz.zeroValue290
 t171:=Tryz.underlying258
 a171:=Tryz.isAgg258
 z171:=Tryz.sizeOf258
 v171:=Tryz.zeroValue258
 t173:=Tryz.underlying261
 a173:=Tryz.isAgg261
 z173:=Tryz.sizeOf261
 v173:=Tryz.zeroValue261
 t175:=Tryz.underlying288
 a175:=Tryz.isAgg288
 z175:=Tryz.sizeOf288
 v175:=Tryz.zeroValue288
 t210:=Tryz.underlying298
 a210:=Tryz.isAgg298
 z210:=Tryz.sizeOf298
 v210:=Tryz.zeroValue298
 t212:=Tryz.underlying282
 a212:=Tryz.isAgg282
 z212:=Tryz.sizeOf282
 v212:=Tryz.zeroValue282
 t213:=Tryz.underlying283
 a213:=Tryz.isAgg283
 z213:=Tryz.sizeOf283
 t232:=Tryz.underlying303
 a232:=Tryz.isAgg303
 z232:=Tryz.sizeOf303
 v232:=Tryz.zeroValue303
 t233:=Tryz.underlying304
 a233:=Tryz.isAgg304
 z233:=Tryz.sizeOf304
 v233:=Tryz.zeroValue304
 g15:=by kernel_rfl
 g16:=by kernel_rfl
 g17:=by kernel_rfl
 g18:=by kernel_rfl
 g19:=by kernel_rfl
 t80:=Tryz.underlying123
 a80:=Tryz.isAgg123
 z80:=Tryz.sizeOf123
 v80:=Tryz.zeroValue123
 i0:=by kernel_rfl
 i2:=by kernel_rfl
 i3:=by kernel_rfl
 i4:=by kernel_rfl
 i5:=by kernel_rfl
 i9:=by kernel_rfl
 i20:=by kernel_rfl
 i21:=by kernel_rfl
 i37:=by kernel_rfl
 i46:=by kernel_rfl
 i51:=by kernel_rfl
 i53:=by kernel_rfl
 i75:=by kernel_rfl
 i80:=by kernel_rfl
 i85:=by kernel_rfl
 i127:=by kernel_rfl
 i143:=by kernel_rfl
 i145:=by kernel_rfl
 i167:=by kernel_rfl
 i168:=by kernel_rfl
 i171:=by kernel_rfl
 i173:=by kernel_rfl
 i175:=by kernel_rfl
 i210:=by kernel_rfl
 i212:=by kernel_rfl
 i232:=by kernel_rfl
 i233:=by kernel_rfl
 m15:=by kernel_rfl
 m16:=by kernel_rfl
 m17:=by kernel_rfl
 m18:=by kernel_rfl
 m19:=by kernel_rfl
 c0:=by kernel_rfl
 c2:=by kernel_rfl
 c3:=by kernel_rfl
 c4:=by kernel_rfl
 c5:=by kernel_rfl
 c9:=by kernel_rfl
 c20:=by kernel_rfl
 c21:=by kernel_rfl
 c37:=by kernel_rfl
 c46:=by kernel_rfl
 c51:=by kernel_rfl
 c53:=by kernel_rfl
 c75:=by kernel_rfl
 c80:=by kernel_rfl
 c85:=by kernel_rfl
 c127:=by kernel_rfl
 c143:=by kernel_rfl
 c145:=by kernel_rfl
 c167:=by kernel_rfl
 c168:=by kernel_rfl
 c171:=by kernel_rfl
 c173:=by kernel_rfl
 c175:=by kernel_rfl
 c210:=by kernel_rfl
 c212:=by kernel_rfl
 c213:=by kernel_rfl
 c232:=by kernel_rfl
 c233:=by kernel_rfl}
open Go.RowKit in
theorem Tryz.strconv_ParseInt_10_at64_ok (s:ByteArray) (af7:s.size<=9223372036854775806) (v:Int) (h:Lib.parseIntB 64 s.data.toList=.ok v) (w:World):
 Calls Tryz.prog 205 #[.string s,.int .i64 10,.int .i64 64] w λe w'=>e=.returned (.tuple #[.int .i64 v,.nilIface])/\(w'=w∨∃t,w'=Lib.bytesWorld w 5 t):=Any.strconv_ParseInt_10_at64_ok Tryz.Eu s af7 v h w
open Go.RowKit in
theorem Tryz.strconv_ParseInt_10_at64_range_var (s:ByteArray) (Vi:s.size<=281474976710656) (h:Lib.parseIntB 64 s.data.toList=.range) (tp:TypeId) (p:Value) (w:World) (Vj:w.var? Tryz.prog "strconv.ErrRange" =some #[.iface tp p]):
 Calls Tryz.prog 205 #[.string s,.int .i64 10,.int .i64 64] w λe w'=>∃N,e=.returned (.tuple #[.int .i64 (Lib.intSat 64 s.data.toList),.iface 290 (.pointer (some ⟨N,0,none⟩))])/\w.heap.size<=N/\w'.heap[N]? =some (.cells #[.string ⟨#[80,97,114,115,101,73,110,116]⟩,.string s,.iface tp p] 298 (0,0))/\Below w.heap.size w w':=Any.strconv_ParseInt_10_at64_range_var Tryz.Eu s Vi h tp p w Vj
def Tryz.Ev:Go.Shelf.Ren:=⟨λ| 219=>156 | 217=>185 | 225=>186 | 224=>187 | 267=>188 | 266=>216 | 314=>217 | n=>n,λ| 9=>9 | 3=>3 | 4=>4 | 5=>5 | 46=>207 | 146=>233 | 51=>232 | n=>n,λ| 1=>0 | n=>n⟩
theorem Tryz.Rc:Go.Proofs.Lays.n219 Tryz.prog Tryz.Ev:={
 mixed:=by kernel_rfl
 f217:=Tryz.func185.trans (br some (by kernel_rfl))
 f219:=Tryz.func156.trans (br some (by kernel_rfl))
 f224:=Tryz.func187.trans (br some (by kernel_rfl))
 f225:=Tryz.func186.trans (br some (by kernel_rfl))
 f266:=Tryz.func216.trans (br some (by kernel_rfl))
 f267:=Tryz.func188.trans (br some (by kernel_rfl))
 f314:=Tryz.func217.trans (br some (by kernel_rfl))
 t3:=Tryz.underlying3
 a3:=Tryz.isAgg3
 z3:=Tryz.sizeOf3
 v3:=Tryz.zeroValue3
 t4:=Tryz.underlying4
 a4:=Tryz.isAgg4
 z4:=Tryz.sizeOf4
 v4:=Tryz.zeroValue4
 t5:=Tryz.underlying5
 a5:=Tryz.isAgg5
 z5:=Tryz.sizeOf5
 v5:=Tryz.zeroValue5
 t9:=Tryz.underlying9
 a9:=Tryz.isAgg9
 z9:=Tryz.sizeOf9
 v9:=Tryz.zeroValue9
 t46:=Tryz.underlying207
 a46:=Tryz.isAgg207
 z46:=Tryz.sizeOf207
 v46:=Tryz.zeroValue207
 t51:=Tryz.underlying232
 a51:=Tryz.isAgg232
 z51:=Tryz.sizeOf232
 v51:=Tryz.zeroValue232
 t146:=Tryz.underlying233
 a146:=Tryz.isAgg233
 z146:=Tryz.sizeOf233
 v146:=Tryz.zeroValue233
 g1:=by kernel_rfl}
open Go.RowKit Go.Lib in
theorem Tryz.stringslite_Index_one (s:ByteArray) (c:UInt8) (w:World):
 Calls Tryz.prog 156 #[.string s,.string ⟨#[c]⟩] w λe w'=>e=.returned (.int .i64 (Lib.indexByte s.data.toList c))/\w'=w:=Any.stringslite_Index_one Tryz.Rc s c w
def Tryz.Ca:Go.Shelf.Ren:=⟨λ| 146=>27 | 221=>60 | 268=>109 | 138=>110 | 143=>111 | 195=>154 | 197=>113 | 218=>155 | 219=>156 | 260=>157 | 217=>185 | 225=>186 | 224=>187 | 267=>188 | 266=>216 | 314=>217 | n=>n,λ| 9=>9 | 31=>41 | 3=>3 | 4=>4 | 0=>0 | 105=>182 | 21=>21 | 5=>5 | 46=>207 | 119=>240 | 139=>243 | 138=>242 | 146=>233 | 51=>232 | n=>n,λ| 1=>0 | 3=>1 | 4=>2 | n=>n⟩
theorem Tryz.ND:Go.Proofs.LaysM.n146 Tryz.prog Tryz.Ca:={
 mixed:=by kernel_rfl
 f138:=Tryz.func110.trans (br some (by kernel_rfl))
 f143:=Tryz.func111.trans (br some (by kernel_rfl))
 f146:=Tryz.func27.trans (br some (by kernel_rfl))
 f195:=Tryz.func154.trans (br some (by kernel_rfl))
 f197:=Tryz.func113.trans (br some (by kernel_rfl))
 f217:=Tryz.func185.trans (br some (by kernel_rfl))
 f218:=Tryz.func155.trans (br some (by kernel_rfl))
 f219:=Tryz.func156.trans (br some (by kernel_rfl))
 f221:=Tryz.func60.trans (br some (by kernel_rfl))
 f224:=Tryz.func187.trans (br some (by kernel_rfl))
 f225:=Tryz.func186.trans (br some (by kernel_rfl))
 f260:=Tryz.func157.trans (br some (by kernel_rfl))
 f266:=Tryz.func216.trans (br some (by kernel_rfl))
 f267:=Tryz.func188.trans (br some (by kernel_rfl))
 f268:=Tryz.func109.trans (br some (by kernel_rfl))
 f314:=Tryz.func217.trans (br some (by kernel_rfl))
 t0:=Tryz.underlying0
 a0:=Tryz.isAgg0
 z0:=Tryz.sizeOf0
 v0:=Tryz.zeroValue0
 t3:=Tryz.underlying3
 a3:=Tryz.isAgg3
 z3:=Tryz.sizeOf3
 v3:=Tryz.zeroValue3
 t4:=Tryz.underlying4
 a4:=Tryz.isAgg4
 z4:=Tryz.sizeOf4
 v4:=Tryz.zeroValue4
 t5:=Tryz.underlying5
 a5:=Tryz.isAgg5
 z5:=Tryz.sizeOf5
 v5:=Tryz.zeroValue5
 t9:=Tryz.underlying9
 a9:=Tryz.isAgg9
 z9:=Tryz.sizeOf9
 v9:=Tryz.zeroValue9
 t21:=Tryz.underlying21
 a21:=Tryz.isAgg21
 z21:=Tryz.sizeOf21
 v21:=Tryz.zeroValue21
 t31:=Tryz.underlying41
 a31:=Tryz.isAgg41
 z31:=Tryz.sizeOf41
 v31:=Tryz.zeroValue41
 t46:=Tryz.underlying207
 a46:=Tryz.isAgg207
 z46:=Tryz.sizeOf207
 v46:=Tryz.zeroValue207
 t51:=Tryz.underlying232
 a51:=Tryz.isAgg232
 z51:=Tryz.sizeOf232
 v51:=Tryz.zeroValue232
 t105:=Tryz.underlying182
 a105:=Tryz.isAgg182
 z105:=Tryz.sizeOf182
 v105:=Tryz.zeroValue182
 t119:=Tryz.underlying240
 a119:=Tryz.isAgg240
 z119:=Tryz.sizeOf240
 t138:=Tryz.underlying242
 a138:=Tryz.isAgg242
 z138:=Tryz.sizeOf242
 v138:=Tryz.zeroValue242
 t139:=Tryz.underlying243
 a139:=Tryz.isAgg243
 z139:=Tryz.sizeOf243
 v139:=Tryz.zeroValue243
 t146:=Tryz.underlying233
 a146:=Tryz.isAgg233
 z146:=Tryz.sizeOf233
 v146:=Tryz.zeroValue233
 g1:=by kernel_rfl
 g3:=by kernel_rfl
 g4:=by kernel_rfl
 i0:=by kernel_rfl
 i3:=by kernel_rfl
 i4:=by kernel_rfl
 i5:=by kernel_rfl
 i9:=by kernel_rfl
 i21:=by kernel_rfl
 i31:=by kernel_rfl
 i46:=by kernel_rfl
 i51:=by kernel_rfl
 i105:=by kernel_rfl
 i138:=by kernel_rfl
 i139:=by kernel_rfl
 i146:=by kernel_rfl
 m1:=by kernel_rfl
 s1_3:=λw h=>Go.Proofs.cell_of_shapedOpen_int (zero:=#[.int .i64 0]) (t:=3) h (aV (by kernel_rfl)) (by kernel_rfl) rfl (by kernel_rfl) (by kernel_rfl) Tryz.underlying3
 m3:=by kernel_rfl
 m4:=by kernel_rfl}
open Go.RowKit Go.Lib in
theorem Tryz.strings_Split_shaped (s sep:ByteArray) (w:World) (h:w.ShapedOpen Tryz.prog) (hs:s.size<4294967281) (h1:1<=sep.size):
 Calls Tryz.prog 27 #[.string s,.string sep] w λe w'=>
  e=.returned (.slice (some ⟨w.heap.size,0,none⟩) (Lib.countB s sep+1) (Lib.countB s sep+1))/\w'=w.alloc (.cells ((Lib.splitB sep 0 (Lib.countB s sep) s).map Value.string).toArray 9):=Any.strings_Split_shaped Tryz.ND s sep w h hs h1
def Tryz.wv:Go.Shelf.Ren:=⟨λ| 105=>100 | 212=>143 | 99=>130 | 165=>144 | 166=>99 | 170=>108 | 169=>59 | 263=>179 | 264=>180 | 206=>170 | 240=>142 | 241=>181 | 276=>178 | 277=>207 | n=>n,λ| 9=>9 | 3=>3 | 4=>4 | 20=>20 | 0=>0 | 46=>207 | 109=>208 | 5=>5 | 72=>114 | 76=>171 | 51=>232 | 146=>233 | 53=>190 | 148=>235 | 70=>111 | 37=>112 | 75=>170 | 127=>178 | 164=>230 | 80=>123 | n=>n,λ| n=>n⟩
theorem Tryz.Re:Go.Proofs.Lays.n105 Tryz.prog Tryz.wv:={
 mixed:=by kernel_rfl
 f99:=Tryz.func130.trans (br some (by kernel_rfl))
 f105:=Tryz.func100.trans (br some (by kernel_rfl))
 f165:=Tryz.func144.trans (br some (by kernel_rfl))
 f166:=Tryz.func99.trans (br some (by kernel_rfl))
 f169:=Tryz.func59.trans (br some (by kernel_rfl))
 f170:=Tryz.func108.trans (br some (by kernel_rfl))
 f206:=Tryz.func170.trans (br some (by kernel_rfl))
 f212:=Tryz.func143.trans (br some (by kernel_rfl))
 f240:=Tryz.func142.trans (br some (by kernel_rfl))
 f241:=Tryz.func181.trans (br some (by kernel_rfl))
 f263:=Tryz.func179.trans (br some (by kernel_rfl))
 f264:=Tryz.func180.trans (br some (by kernel_rfl))
 f276:=Tryz.func178.trans (br some (by kernel_rfl))
 f277:=Tryz.func207.trans (br some (by kernel_rfl))
 t0:=Tryz.underlying0
 a0:=Tryz.isAgg0
 z0:=Tryz.sizeOf0
 v0:=Tryz.zeroValue0
 t3:=Tryz.underlying3
 a3:=Tryz.isAgg3
 z3:=Tryz.sizeOf3
 v3:=Tryz.zeroValue3
 t4:=Tryz.underlying4
 a4:=Tryz.isAgg4
 z4:=Tryz.sizeOf4
 v4:=Tryz.zeroValue4
 t5:=Tryz.underlying5
 a5:=Tryz.isAgg5
 z5:=Tryz.sizeOf5
 v5:=Tryz.zeroValue5
 t9:=Tryz.underlying9
 a9:=Tryz.isAgg9
 z9:=Tryz.sizeOf9
 v9:=Tryz.zeroValue9
 t20:=Tryz.underlying20
 a20:=Tryz.isAgg20
 z20:=Tryz.sizeOf20
 v20:=Tryz.zeroValue20
 t37:=Tryz.underlying112
 a37:=Tryz.isAgg112
 z37:=Tryz.sizeOf112
 v37:=Tryz.zeroValue112
 t46:=Tryz.underlying207
 a46:=Tryz.isAgg207
 z46:=Tryz.sizeOf207
 v46:=Tryz.zeroValue207
 t51:=Tryz.underlying232
 a51:=Tryz.isAgg232
 z51:=Tryz.sizeOf232
 v51:=Tryz.zeroValue232
 t53:=Tryz.underlying190
 a53:=Tryz.isAgg190
 z53:=Tryz.sizeOf190
 v53:=Tryz.zeroValue190
 t70:=Tryz.underlying111
 a70:=Tryz.isAgg111
 z70:=Tryz.sizeOf111
 v70:=Tryz.zeroValue111
 t72:=Tryz.underlying114
 a72:=Tryz.isAgg114
 z72:=Tryz.sizeOf114
 v72:=Tryz.zeroValue114
 t75:=Tryz.underlying170
 a75:=Tryz.isAgg170
 z75:=Tryz.sizeOf170
 v75:=Tryz.zeroValue170
 t76:=Tryz.underlying171
 a76:=Tryz.isAgg171
 z76:=Tryz.sizeOf171
 v76:=Tryz.zeroValue171
 t109:=Tryz.underlying208
 a109:=Tryz.isAgg208
 z109:=Tryz.sizeOf208
 v109:=Tryz.zeroValue208
 t127:=Tryz.underlying178
 a127:=Tryz.isAgg178
 z127:=Tryz.sizeOf178
 v127:=Tryz.zeroValue178
 t146:=Tryz.underlying233
 a146:=Tryz.isAgg233
 z146:=Tryz.sizeOf233
 v146:=Tryz.zeroValue233
 t148:=Tryz.underlying235
 a148:=Tryz.isAgg235
 z148:=Tryz.sizeOf235
 v148:=Tryz.zeroValue235
 t164:=Tryz.underlying230
 a164:=Tryz.isAgg230
 z164:=Tryz.sizeOf230
 v164:=Tryz.zeroValue230}
theorem Tryz.uT:Builder.Extra Tryz.prog Tryz.wv:={
 sizeBuilder:=by kernel_rfl
 liesBuilder:=by kernel_rfl
 t5:=Tryz.underlying5
 a5:=Tryz.isAgg5
 z5:=Tryz.sizeOf5
 v5:=Tryz.zeroValue5
 infoByte:=by kernel_rfl
 cellsByte:=by kernel_rfl
 sizeByte:=by kernel_rfl
 neB5:=aL}
open Go.RowKit Go.Lib in
theorem Tryz.strings_Repeat (s:ByteArray) (c:Nat) (w:World) (hc:c<=9223372036854775807) (eu:s.size*c<=140737488355328):
 Calls Tryz.prog 100 #[.string s,.int .i64 c] w λe w'=>e=.returned (.string ⟨(Lib.repeatL s.data.toList c).toArray⟩)/\Below w.heap.size w w':=Any.strings_Repeat Tryz.Re Tryz.uT s c w hc eu
end Go.Proofs
namespace Go.Proofs.YtmgndgpgngcgpaaGreatDoor.Con
open Go Go.RowKit Go.Kt Go.Kt.V Go.Proofs.YtmgndgpgngcgpaaGreatDoor.Vc
theorem ret{P:Program}{f:FuncId}{a:Array aw}{w:av}{r:aw}{Q:av->Prop}(h:az P f a w λe w'=>∃v,e=ak v/\v=r/\Q w'):az P f a w λe w'=>e=ak r/\Q w':=
 h.mono (by rintro e w' ⟨v,rfl,rfl,hq⟩;exact⟨rfl,hq⟩)
theorem Blk.eo{w:av}{b:Nat}{t:TypeId}{cs:aI}(h:aF w b t cs)(j:Nat){v:aw}(hv:cs[j]? =some v):aB w ((⟨b,0,none⟩:Addr).add j) [v]:=by
 rw[gM,bI];exact h.cells j [v] λk u hk=>by
  cases k with
  | zero=>simp only[cW,bg]at hk;subst hk;exact hv
  | succ k=>simp at hk
def dZ(c:UInt8):Bool:=(65<=c.toNat&&c.toNat<=90)||(97<=c.toNat&&c.toNat<=122)||c.toNat==95
def cE(c:UInt8):Bool:=48<=c.toNat&&c.toNat<=57
def dM(c:UInt8):Bool:=dZ c||cE c
def mA(c:UInt8):Bool:=[9,10,13,32].contains c
theorem FC:∀n:Fin 256,(((decide (97<=(bits .or .u8 (n.val:Int) 32)))&&(decide ((bits .or .u8 (n.val:Int) 32)<=122)))||((n.val:Int)==95))=((65<=n.val&&n.val<=90)||(97<=n.val&&n.val<=122)||n.val==95):=aca
theorem xY(w:av)(c:UInt8):az aq 133 #[.int .u8 (c.toNat:Int)] w λe w'=>e=ak (aj (dZ c))/\ay [] w w':=by
 refine ret (Yj _ _ _ ?_);exact⟨by rw[FC ⟨c.toNat,c.toNat_lt⟩];rfl,Only.refl _ _⟩
theorem Hd(w:av)(c:UInt8):az aq 135 #[.int .u8 (c.toNat:Int)] w λe w'=>e=ak (aj (cE c))/\ay [] w w':=by
 refine ret (Ym _ _ _ ?_);refine⟨?_,Only.refl _ _⟩;congr 1;rw[bH];simp only[cE,aP,bC];omega
theorem LK(w:av)(c:UInt8):az aq 204 #[.int .u8 (c.toNat:Int)] w λe w'=>e=ak (aj (cE c))/\ay [] w w':=by
 refine ret (v2w _ _ _ ?_);refine⟨?_,Only.refl _ _⟩;have h:∀n:Fin 256,decide ((ar .u8 ((n.val:Int)-48))<10)=(decide (48<=n.val)&&decide (n.val<=57)):=aca
 rw[h ⟨c.toNat,c.toNat_lt⟩];rfl
theorem LM{w:av}{F:aJ}{s:Sl}{l:aH}(h:aA jT 1 w F s l)(c:UInt8):
  az aq 202 #[Sl.v s,.int .u8 (c.toNat:Int)] w λe w'=>∃i:Int,e=ak (O U i)/\decide (i>=0)=l.contains c/\ay [] w w':=by
 refine(Yf s _ (λv w'=>∃i:Int,v=O U i/\decide (i>=0)=l.contains c/\ay [] w w') w ?_).mono (by
  rintro e w' ⟨v,rfl,i,rfl,h⟩;exact⟨i,rfl,h⟩)
 have eu:=h.len;have pq:=h.big;have nD:=h.cap;refine⟨λnv i w'=>∃n:Nat,n<=l.length/\i=(n:Int)/\nv=l.length-n/\(∀x,x∈l.take n->x≠c)/\w'=w,l.length,⟨0,bm _,rfl,rfl,aM,rfl⟩,?_⟩;rintro nv _ _ ⟨n,hn,rfl,rfl,hp,rfl⟩;refine⟨λhc=>?_,λhc=>?_⟩
 ·have cd:(n:Int)<s.n:=aV hc;obtain⟨ad,x,cs,g1,g2,g3,g4,g5,g6⟩:=h.get (bc n) cd;rw[ba]at g2;unfold jT fG at g6;subst g6;refine⟨ad,g1,_,g5,λhe=>⟨_,rfl,?_,Only.refl _ _⟩,λhe=>⟨l.length-(n+1),aE,n+1,aE,aad,rfl,?_,rfl⟩⟩
  ·have he:c=x:=OT.1 (by have:=aV he;omega);rw[bE aE];symm;rw[dS,he];exact bF g2
  intro y hy;rw[bK,g2]at hy;simp only[eX,cD,aQ]at hy;rcases hy with hy | rfl
  ·exact hp y hy
  rintro rfl;simp at he
 have nE:¬((n:Int)<s.n):=aW hc;rw[bU aE]at hp;refine⟨_,rfl,?_,Only.refl _ _⟩;rw[bq aE];symm;rw[fK];intro hh;exact hp c (dS.1 hh) rfl
theorem Dp{w:av}{F:aJ}{s:Sl}{l:aH}(h:aA jT 1 w F s l)(c:UInt8):
  az aq 169 #[Sl.v s,.int .u8 (c.toNat:Int)] w λe w'=>e=ak (aj (l.contains c))/\ay [] w w':=by
 refine ret (Ye _ _ _ _ ?_);refine(LM h c).mono ?_;rintro _ w1 ⟨i,rfl,hi,hO⟩;exact⟨i,rfl,by rw[hi],hO⟩
theorem Dr{w:av}{F:aJ}{s:Sl}{l:aH}(h:aA jT 1 w F s l)(c:UInt8):
  az aq 129 #[.int .u8 (c.toNat:Int),Sl.v s] w λe w'=>e=ak (aj (l.contains c))/\ay [] w w':=by
 refine ret (Yd _ _ _ _ ?_);refine(Dp h c).mono ?_;rintro _ w1 ⟨rfl,hO⟩;exact⟨_,rfl,rfl,hO⟩
def jR:Rp (aH):=λ_ _ l cs=>cs=[ab (T l)]
theorem db:jR.Ok where
 keep h _:=h
 inHeap h:=h
 mono h _:=h
 one:=by
  rintro w F x cs h v hv;unfold jR at h;subst h;simp only[aQ]at hv;subst hv;rfl
theorem LN{w:av}{F:aJ}{s:Sl}{l:List (aH)}(h:aA jR 1 w F s l)(c:aH):
  az aq 138 #[Sl.v s,ab (T c)] w λe w'=>∃i:Int,e=ak (O U i)/\decide (i>=0)=l.contains c/\ay [] w w':=by
 refine(Sa s _ (λv w'=>∃i:Int,v=O U i/\decide (i>=0)=l.contains c/\ay [] w w') w ?_).mono (by
  rintro e w' ⟨v,rfl,i,rfl,h⟩;exact⟨i,rfl,h⟩)
 have eu:=h.len;have pq:=h.big;have nD:=h.cap;refine⟨λnv i w'=>∃n:Nat,n<=l.length/\i=(n:Int)/\nv=l.length-n/\(∀x,x∈l.take n->x≠c)/\w'=w,l.length,⟨0,bm _,rfl,rfl,aM,rfl⟩,?_⟩;rintro nv _ _ ⟨n,hn,rfl,rfl,hp,rfl⟩;refine⟨λhc=>?_,λhc=>?_⟩
 ·have cd:(n:Int)<s.n:=aV hc;obtain⟨ad,x,cs,g1,g2,g3,g4,g5,g6⟩:=h.get (bc n) cd;rw[ba]at g2;unfold jR at g6;subst g6;refine⟨ad,g1,_,g5,?_⟩;dsimp only;rw[ju];refine⟨λhe=>⟨_,rfl,?_,Only.refl _ _⟩,λhe=>⟨l.length-(n+1),aE,n+1,aE,aad,rfl,?_,rfl⟩⟩
  ·have he:c=x:=aV he;rw[bE aE];symm;rw[dS,he];exact bF g2
  intro y hy;rw[bK,g2]at hy;simp only[eX,cD,aQ]at hy;rcases hy with hy | rfl
  ·exact hp y hy
  rintro rfl;simp at he
 have nE:¬((n:Int)<s.n):=aW hc;rw[bU aE]at hp;refine⟨_,rfl,?_,Only.refl _ _⟩;rw[bq aE];symm;rw[fK];intro hh;exact hp c (dS.1 hh) rfl
theorem qR{w:av}{F:aJ}{s:Sl}{l:List (aH)}(h:aA jR 1 w F s l)(c:aH):
  az aq 149 #[Sl.v s,ab (T c)] w λe w'=>e=ak (aj (l.contains c))/\ay [] w w':=by
 refine ret (Yn _ _ _ _ ?_);refine(LN h c).mono ?_;rintro _ w1 ⟨i,rfl,hi,hO⟩;exact⟨i,rfl,by rw[hi],hO⟩
abbrev Qg(w:av)(b:Nat)(t:TypeId)(l:aH)(i:Nat)(r:aI):Prop:=aF w b t (ab (T l)::O U (i:Int)::r)
theorem Sg{w:av}{b:Nat}{t:TypeId}{l:aH}{i:Nat}{r:aI}(h:Qg w b t l i r):
  az aq 90 #[ae (some ⟨b,0,none⟩)] w λe w'=>e=ak (aj (decide (l.length<=i)))/\ay [] w w':=by
 refine ret (adA _ _ _ ?_);refine⟨i,Blk.eo h 1 rfl,T l,Blk.eo h 0 rfl,λw0 hO=>⟨?_,hO⟩⟩;rw[bO];congr 1;rw[Km];omega
theorem xZ{w:av}{b:Nat}{t:TypeId}{l:aH}{i:Nat}{r:aI}(h:Qg w b t l i r)(hi:i<=l.length):
  az aq 131 #[ae (some ⟨b,0,none⟩)] w λe w'=>e=ak (ab (T (l.drop i)))/\ay [] w w':=by
 refine ret (adB _ _ _ ?_);refine⟨T l,Blk.eo h 0 rfl,i,Blk.eo h 1 rfl,i,⟨rfl,by rw[bO];exact hi⟩,λw0 hO=>⟨?_,hO⟩⟩;rw[oJ,bO,bU (by rw[bW];exact aY _)]
theorem kf{p:UInt8->Bool}:∀{l:aH} {n:Nat},n<=l.length->(∀x,x∈l.take n->p x=true)->(∀x,l[n]? =some x->p x=false)->l.takeWhile p=l.take n
 | [],n,_,_,_=>aM
 | c::r,0,_,_,h=>by
  have:=h c rfl;simp[this]
 | c::r,n+1,hn,h1,h2=>by
  have hc:=h1 c aM;rw[cT,aR hc,ii,kf (n:=n) acn (λx hx=>h1 x aa4) (λx hx=>h2 x aas)]
theorem LO{w:av}{b:Nat}{t:TypeId}{l:aH}{i:Nat}{r:aI}(h:Qg w b t l i r)(hi:i<=l.length)(hl:l.length<9223372036854775807):
  az aq 148 #[ae (some ⟨b,0,none⟩)] w λe w'=>e=ak (ab (T ((l.drop i).takeWhile dM)))/\ay [] w w':=by
 refine ret (Yl _ _ _ ?_);refine(xZ h hi).mono ?_;rintro _ w0 ⟨rfl,cw⟩;have hlr:(l.drop i).length<=l.length:=by rw[bW];omega
 generalize l.drop i=m at*
 refine⟨T m,rfl,λnv j w'=>∃n:Nat,n<=m.length/\j=(n:Int)/\nv=m.length-n/\(∀x,x∈m.take n->dM x=true)/\ay [] w w',m.length,⟨0,bm _,rfl,rfl,aM,cw⟩,?_⟩;rintro nv _ w1 ⟨n,hn,rfl,rfl,hp,cA⟩;rw[bO];refine⟨λb w'=>(b=true->∃x,m[n]? =some x/\dM x=true)/\(b=false->∀x,m[n]? =some x->dM x=false)/\ay [] w w',?_,λhc=>?_,λhc=>⟨λe=>abW,λ_ x hx=>?_,cA⟩⟩
 ·rintro b w2 ⟨h1,h2,cO⟩;refine⟨λhb=>?_,λhb=>⟨n,⟨rfl,hn⟩,?_,cO⟩⟩
  ·obtain⟨x,hx,hw⟩:=h1 hb;have cd:=(bd.1 hx).1;refine⟨m.length-(n+1),aE,n+1,aE,aad,rfl,λy hy=>?_,cO⟩;rw[bK,hx]at hy;simp only[eX,cD,aQ]at hy;rcases hy with hy | rfl
   ·exact hp y hy
   exact hw
  rw[oJ,eY,rM,kf hn hp (h2 hb)]
 ·have cd:(n:Int)<m.length:=aV hc;have hx:m[n]? =some (m[n]' aE):=bJ aE;generalize m[n]' aE=x at hx;have hg:(T m)[Int.toNat (n:Int)]? =some x:=aa9
  refine⟨x,⟨bc n,hg⟩,(xY w1 x).mono ?_⟩;rintro _ w3 ⟨rfl,da⟩;refine⟨_,rfl,λhb=>⟨λ_=>⟨x,hx,by unfold dM;rw[hb];rfl⟩,λe=>abW,cA.cn da⟩,λhb=>⟨x,⟨bc n,hg⟩,(Hd w3 x).mono ?_⟩⟩;rintro _ w4 ⟨rfl,dR⟩;refine⟨_,rfl,λhd=>⟨x,hx,by unfold dM;rw[hd,lN]⟩,λhd y hy=>?_,cA.cn (da.cn dR)⟩;rw[hx]at hy;injection hy with hy;subst hy;unfold dM;rw[hb,hd];rfl
 have nE:¬(n:Int)<m.length:=aW hc;have:=(bd.1 hx).1;omega
theorem Ds(w:av)(l p:aH)(hl:l.length<9223372036854775807)(hp:p.length<9223372036854775807):az aq 130 #[ab (T l),ab (T p)] w λe w'=>e=ak (aj (decide (l.take p.length=p)))/\ay [] w w':=by
 refine ret (Yg _ _ _ _ ?_);refine(ret (adC (T l) (T p) (λv w'=>v=aj (decide (l.take p.length=p))/\ay [] w w') w ?_)).mono ?_
 ·rw[bO,bO];refine⟨p.length,λh=>⟨rfl,abT⟩,?_,Only.refl _ _⟩;rw[oJ,ju,eY,rM];congr 1;rw[bH];simp only[aP,bC];constructor
  ·exact λh=>h.2
  intro h;refine⟨?_,h⟩;have:=br List.length h;rw[dC]at this;omega
 rintro _ w1 ⟨rfl,hO⟩;exact⟨_,rfl,rfl,hO⟩
theorem qg:∀(l:aH) (c:UInt8),Lib.indexByte l c=if c∈l then((l.takeWhile (· !=c)).length:Int)else -1
 | [],c=>by simp[Lib.indexByte]
 | b::l,c=>by
  rw[Lib.indexByte,qg l c];by_cases hbc:b=c
  ·subst hbc;simp
  ·by_cases hm:c∈l
   ·have h1:(b==c)=false:=by simpa using hbc
    have h2:(b !=c)=true:=by simpa using hbc
    have h3:c∈b::l:=by simp[hm]
    rw[h1,aR hm,aR h3,cT,aR h2];simp
   ·have h1:(b==c)=false:=by simpa using hbc
    have h3:¬c∈b::l:=by simp[hm];exact λe=>hbc e.symm
    rw[h1,aO hm,aO h3];simp
theorem yd{c:UInt8}:∀{l:aH},¬c∈l->l.takeWhile (· !=c)=l
 | [],_=>rfl
 | b::l,h=>by
  simp only[aX,not_or]at h;rw[cT,aR (by simpa using λe=>h.1 e.symm),yd h.2]
theorem ly{p:UInt8->Bool}:∀{l:aH},l.takeWhile p=l.take (l.takeWhile p).length
 | []=>rfl
 | b::l=>by
  rw[cT];split
  ·rw[aU,ii,<-ly]
  rfl
theorem YY(w:av)(l:aH)(c:UInt8)(hl:l.length<9223372036854775807):az aq 132 #[ab (T l),ab (T [c])] w λe w'=>∃(s:aK) (b:Bool),e=ak (ai #[ab (T (l.takeWhile (· !=c))),ab s,aj b])/\ay [] w w':=by
 refine(Yh _ _ (λv w'=>∃(s:aK) (b:Bool),v=(ai #[ab (T (l.takeWhile (· !=c))),ab s,aj b])/\ay [] w w') w ?_).mono (by
  rintro e w' ⟨v,rfl,s,b,rfl,h⟩;exact⟨s,b,rfl,h⟩)
 refine(adE (T l) (T [c]) (λv w'=>∃(s:aK) (b:Bool),v=(ai #[ab (T (l.takeWhile (· !=c))),ab s,aj b])/\ay [] w w') w ?_).mono ?_
 ·refine(Tryz.stringslite_Index_one (T l) c w).mono ?_;rintro _ _ ⟨rfl,rfl⟩;have e:(T l).data.toList=l:=rfl;rw[e,qg];refine⟨_,rfl,λh=>?_,λh=>?_⟩
  ·by_cases hm:c∈l
   ·rw[aR hm];have cd:(l.takeWhile (· !=c)).length<l.length:=by
     have h1:=List.takeWhile_append_dropWhile (p:=(· !=c)) (l:=l);have h2:=br List.length h1;rw[aN]at h2;have h3:l.dropWhile (· !=c)≠[]:=by
      intro h3;rw[h3,bL]at h1;rw[<-h1]at hm;have:=EO (p:=(· !=c)) (l:=l);rw[dv]at this;have:=this c (by rw[h1]at hm⊢;exact hm);simp at this
     have h4:=Cw.2 h3;omega
    have hk:(T l).extract 0 (l.takeWhile (· !=c)).length=T (l.takeWhile (· !=c)):=by
     rw[oJ,eY,rM,<-ly]
    refine⟨(l.takeWhile (· !=c)).length,⟨rfl,aam⟩,(l.takeWhile (· !=c)).length+1,⟨by rw[bO,fS aae aae];rfl,aam⟩,λw1 hO=>⟨(T l).extract ((l.takeWhile (· !=c)).length+1) (T l).size,true,?_,hO⟩⟩;rw[hk]
   ·rw[aO hm]at h;exact absurd (aV h) aE
  ·by_cases hm:c∈l
   ·rw[aR hm]at h;exact absurd (aW h) aE
   ·rw[yd hm];exact⟨_,_,rfl,Only.refl _ _⟩
 ·rintro _ w1 ⟨v,rfl,s,b,rfl,hO⟩;exact⟨_,s,b,rfl,s,b,rfl,hO⟩
theorem pL(w:av)(l:aH){n:Nat}{parts:Array (Nat×aw)}(hp:parts=(((l.map fG).zipIdx 0).map λx=>(x.2,x.1)).toArray)(hn:l.length=n)(h0:0<n)(tP:n*1<=16777216):
  ∃s w',(au 112 n parts).run aq w=.ok (Sl.v s) w'/\Own jT 1 5 w.heap.size w' (λ_=>True) s l/\ay [] w w'/\s.a=some ⟨w.heap.size,0,none⟩:=by
 obtain⟨s,w',h1,h2,h3,h4,_⟩:=li (P:=aq) (t:=112) (e:=5) (i:=Tryz.t5) (w:=w) (F:=λ_=>True) (r:=jT) (size:=1) (vs:=l.map fG) (xs:=l) (len:=n) (by kernel_rfl) (by kernel_rfl) rfl rfl aL hp ach h0 tP oI (by
  clear hp hn
  induction l with
  | nil=>exact trivial
  | cons a l ih=>exact⟨⟨rfl,rfl⟩,ih⟩)
 exact⟨s,w',h1,h2,h3,h4⟩
theorem Qh(l:List (aH))(w:av):nJ jR 1 w (λ_=>True) l ((l.map λx=>Value.string (T x)).map λv=>v.cells.toList):=by
 induction l with
 | nil=>exact trivial
 | cons a l ih=>exact⟨⟨rfl,rfl⟩,ih⟩
theorem iR(w:av)(l:List (aH)){n:Nat}{parts:Array (Nat×aw)}(hp:parts=(((l.map λx=>Value.string (T x)).zipIdx 0).map λx=>(x.2,x.1)).toArray)(hn:l.length=n)(h0:0<n)(tP:n*1<=16777216):
  ∃s w',(au 41 n parts).run aq w=.ok (Sl.v s) w'/\Own jR 1 9 w.heap.size w' (λ_=>True) s l/\ay [] w w':=by
 obtain⟨s,w',h1,h2,h3,_⟩:=li (P:=aq) (t:=41) (e:=9) (i:=Tryz.t9) (w:=w) (F:=λ_=>True) (r:=jR) (size:=1) (vs:=l.map λx=>Value.string (T x)) (xs:=l) (len:=n) (by kernel_rfl) (by kernel_rfl) rfl rfl aL hp ach h0 tP db (Qh l w);exact⟨s,w',h1,h2,h3⟩
theorem He{α:Type}{r:Rp α}{size:Nat}{e:TypeId}{B:Nat}{w:av}{F:aJ}{s:Sl}{xs:List α}(hr:r.Ok)(hf:∀w F G x cs,r w F x cs->r w G x cs)(h:Own r size e B w F s xs):aA r size w (λk=>B<=k/\s.a=some ⟨k,0,none⟩) s xs:=by
 rcases h with⟨rfl,rfl⟩ | ⟨g,css,tail,a1,a2,a4,a5,a6,a7,a9,a8⟩
 ·exact SliceF.nil _ _ _ _
 have h':Own r size e B w (λ_=>False) s xs:=.inr ⟨g,css,tail,a1,a2,a4,a5,a6,a7,a9,fP.imp (λ_ _ h=>⟨h.1,hf _ _ _ _ _ h.2⟩) a8⟩;exact(h'.slice hr).mono hr λk hk=>hk.elim False.elim id
theorem um{e:TypeId}{B:Nat}{w:av}{F:aJ}{s:Sl}{xs:aH}(h:Own jT 1 e B w F s xs):aA jT 1 w (λk=>B<=k/\s.a=some ⟨k,0,none⟩) s xs:=He oI (λ_ _ _ _ _ h=>h) h
theorem qh{e:TypeId}{B:Nat}{w:av}{F:aJ}{s:Sl}{xs:List (aH)}(h:Own jR 1 e B w F s xs):aA jR 1 w (λk=>B<=k/\s.a=some ⟨k,0,none⟩) s xs:=He db (λ_ _ _ _ _ h=>h) h
def jd:Bool->aH->Nat
 | _,[]=>0
 | true,c::r=>1+jd (c !=10) r
 | false,c::r=>if mA c then 1+jd false r else if c==47&&r.head? ==some 47 then 1+jd true r else 0
theorem Bj:∀{b:Bool} {l:aH},jd b l<=l.length
 | b,[]=>by simp[jd]
 | true,c::r=>by
  rw[jd,aU];have:=Bj (b:=c !=10) (l:=r);omega
 | false,c::r=>by
  rw[jd,aU];have h1:=Bj (b:=false) (l:=r);have h2:=Bj (b:=true) (l:=r);split
  ·omega
  split<;>omega
theorem Dt:∀(l:aH),jd true l=(l.takeWhile (· !=10)).length+jd false (l.drop (l.takeWhile (· !=10)).length)
 | []=>rfl
 | c::r=>by
  by_cases hc:c=10
  ·subst hc;rw[jd];simp[jd,mA]
  ·have h:(c !=10)=true:=aaf
   rw[jd,h,Dt r,cT,aR h,aU,lZ];omega
theorem zR{l:aH}(h:l.take 2=[47,47]):jd false l=(l.takeWhile (· !=10)).length+jd false (l.drop (l.takeWhile (· !=10)).length):=by
 match l,h with
 | a::b::r,h=>
  simp only[ii,dF,qz,and_true]at h;obtain⟨rfl,rfl⟩:=h;have e:jd false (47::47::r)=1+jd true (47::r):=by
   conv=>lhs;rw[jd]
   rw[aO aL,aR aM]
  have e2:=Dt (47::r);have e3:(47::47::r:aH).takeWhile (· !=10)=47::(47::r:aH).takeWhile (· !=10):=by
   rw[cT,aR aL]
  rw[e,e2,e3,aU,lZ];omega
theorem lz{l:aH}{j:Nat}{x:UInt8}(h:l[j]? =some x):l.drop j=x::l.drop (j+1):=by
 obtain⟨h1,h2⟩:=bd.1 h;rw[fU h1,h2]
theorem LP{w:av}{b:Nat}{t:TypeId}{l:aH}{i:Nat}{r:aI}(h:Qg w b t l i r)(hi:i<=l.length)(hl:l.length<9223372036854775807):
  az aq 89 #[ae (some ⟨b,0,none⟩)] w λe w'=>e=ak (ai #[])/\ay [b] w w'/\Qg w' b t l (i+jd false (l.drop i)) r:=by
 refine ret (Yc _ _ _ ?_);refine⟨λnv w'=>∃j:Nat,j<=l.length/\nv=l.length-j/\i+jd false (l.drop i)=j+jd false (l.drop j)/\ay [b] w w'/\Qg w' b t l j r,l.length-i,⟨i,hi,rfl,rfl,Only.refl _ _,h⟩,?_⟩;rintro nv w0 ⟨j,hj,rfl,Rq,cw,h0⟩;have kp:∀{u u':av} {n:Nat},ay [] u u'->Qg u b t l n r->Qg u' b t l n r:=λhO hC=>(hO.block b hC.lt aM).trans hC;refine(Sg h0).mono ?_;rintro _ w1 ⟨rfl,cA⟩;have h1:=kp cA h0;refine⟨_,rfl,λhc=>?_,λhc=>⟨rfl,cw.trans cA aM,?_⟩⟩
 ·have cd:j<l.length:=aaf
  have hx:l[j]? =some l[j]:=bJ cd;generalize l[j]=x at hx;have hd:=lz hx;refine⟨T l,Blk.eo h1 0 rfl,j,Blk.eo h1 1 rfl,x,⟨bc j,aa9⟩,λw2 cO=>?_⟩;obtain⟨s,w3,k1,k2,k3,_⟩:=pL w2 [9,10,13,32] (n:=4) (parts:=#[(0,.int .u8 9),(1,.int .u8 10),(2,.int .u8 13),(3,.int .u8 32)]) rfl rfl aL aL;refine⟨s,w3,k1,(Dr (um k2) x).mono ?_⟩;rintro _ w4 ⟨rfl,dR⟩;have eF:=cO.cn (k3.cn dR);have h4:=kp eF h1;have rC:ay [b] w w4:=cw.trans (cA.cn eF) aM;refine⟨_,rfl,λhb=>⟨j,Blk.eo h4 1 rfl,b,1,_,t,by rw[gM],h4,aM,λw5 fe vd=>⟨l.length-(j+1),aE,j+1,aE,rfl,?_,rC.trans fe aM,?_⟩⟩,λhb=>(xZ h4 hj).mono ?_⟩
  ·have e:mA x=true:=hb;rw[Rq,hd,jd,aR e];omega
  ·rw[fS aE aE]at vd;exact vd
  rintro _ w6 ⟨rfl,ez⟩;have h6:=kp ez h4;have hlr:(l.drop j).length<=l.length:=by rw[bW];omega
  refine⟨_,rfl,(Ds w6 (l.drop j) [47,47] aE aL).mono ?_⟩;rintro _ w7 ⟨rfl,gD⟩;have h7:=kp gD h6;refine⟨_,rfl,λhs=>(xZ h7 hj).mono ?_,λhs=>⟨rfl,rC.trans (ez.cn gD) aM,?_⟩⟩
  ·rintro _ w8 ⟨rfl,gp⟩;have h8:=kp gp h7;refine⟨_,rfl,(YY w8 (l.drop j) 10 aE).mono ?_⟩;rintro _ w9 ⟨s9,b9,rfl,gr⟩;have h9:=kp gr h8;have AA:(l.drop j).take 2=[47,47]:=aV hs;have hk:=zR AA;have eu:((l.drop j).takeWhile (· !=10)).length<=(l.drop j).length:=by
    rw[ly,dC];exact Nat.min_le_right _ _
   have Rs:0<((l.drop j).takeWhile (· !=10)).length:=by
    match hq:l.drop j,AA with
    | a::r',AA=>
     have:a=47:=by
      match r',AA with
      | b'::r'',AA=>simp at AA;exact AA.1
     subst this;simp
   have hld:(l.drop j).length=l.length-j:=bW;generalize hn:((l.drop j).takeWhile (· !=10)).length=n at*
   refine⟨_,s9,b9,rfl,j,Blk.eo h9 1 rfl,b,1,_,t,by rw[gM],h9,aM,λdz dL nG=>⟨l.length-(j+n),aE,j+n,aE,rfl,?_,(rC.trans (ez.cn (gD.cn (gp.cn gr))) aM).trans dL aM,?_⟩⟩
   ·rw[Rq,hk,iP];omega
   ·rw[bO,hn,fS aE aE]at nG;exact nG
  ·have hs:¬(l.drop j).take 2=[47,47]:=aW hs;have hb:mA x=false:=hb;have hz:jd false (l.drop j)=0:=by
    rw[hd,jd,aO (by simp[hb]),aO];intro hh;apply hs;rw[hd];simp only[aP,dy]at hh;obtain⟨rfl,hh⟩:=hh;cases hr:l.drop (j+1)with
    | nil=>rw[hr]at hh;simp at hh
    | cons y z=>
     rw[hr]at hh;simp only[fR,bg]at hh;rw[hh];rfl
   rw[Rq,hz];exact h7
 ·have nE:l.length<=j:=aaf
  have hz:l.drop j=[]:=dj nE;rw[Rq,hz];exact h1
def Er(w:av):Prop:=∃tp p,w.var? aq "strconv.ErrRange" =some #[.iface tp p]
theorem er_num:Tryz.prog.globalNamed "strconv.ErrRange" =some 5:=by kernel_rfl
theorem Er.keep{w w':av}(h:Er w)(hk:5<w.heap.size->w'.heap[5]? =w.heap[5]?):Er w':=by
 obtain⟨tp,p,h⟩:=h;refine⟨tp,p,?_⟩;unfold World.var? at h⊢;rw[er_num]at h⊢;simp only[Kj]at h⊢;rw[hk]
 ·exact h
 refine bD λhn=>?_;rw[fL aE]at h;cases h
theorem Er.lt{w:av}(h:Er w):5<w.heap.size:=by
 obtain⟨tp,p,h⟩:=h;unfold World.var? at h;rw[er_num]at h;simp only[Kj]at h;refine bD λhn=>?_;rw[fL aE]at h;cases h
theorem Er.only{w w':av}(h:Er w)(hO:ay [] w w'):Er w':=h.keep λcd=>hO.block _ cd aM
def jF(a:Nat)(ds:aH):Nat:=ds.foldl (λa c=>a*10+(c.toNat-48)) a
theorem Bk:∀(ds:aH) (a:Nat),a<=jF a ds
 | [],a=>aY _
 | c::r,a=>by
  have:=Bk r (a*10+(c.toNat-48));show a<=jF (a*10+(c.toNat-48)) r;omega
theorem pum:∀(ds:aH) (a:Nat),(∀c,c∈ds->cE c=true)->a<=18446744073709551615->
  Lib.parseUintM 18446744073709551615 a ds=if jF a ds<=18446744073709551615 then .ok (jF a ds)else .range
 | [],a,_,h=>by rw[Lib.parseUintM];exact(aR h).symm
 | c::r,a,hd,h=>by
  have hc:=hd c aM;simp only[cE,aP,bC]at hc;have e:jF a (c::r)=jF (a*10+(c.toNat-48)) r:=rfl;have nE:=Bk r (a*10+(c.toNat-48));rw[Lib.parseUintM,aR hc,e];split
  ·rw[aO aE]
  split
  ·rw[aO aE]
  rw[pum r _ (λx hx=>hd x aa4) aE]
theorem pib{ds:aH}(hd:∀c,c∈ds->cE c=true)(ia:ds≠[]):Lib.parseIntB 64 ds=if jF 0 ds<9223372036854775808 then .ok (jF 0 ds:Int)else .range:=by
 match ds,ia with
 | c::r,_=>
  have hc:=hd c aM;simp only[cE,aP,bC]at hc;have h1:¬(c.toNat=43∨c.toNat=45):=aE
  have h2:¬c.toNat=45:=aE
  have h3:Lib.parseUintB 64 (c::r)=Lib.parseUintM 18446744073709551615 0 (c::r):=by
   rw[Lib.parseUintB,aO aM]
  unfold Lib.parseIntB;dsimp only;rw[aO h1,h3,pum _ _ hd aL];by_cases hv:jF 0 (c::r)<=18446744073709551615
  ·rw[aR hv];by_cases hw:jF 0 (c::r)<9223372036854775808
   ·rw[aR hw];simp[h2];omega
   rw[aO hw];simp[h2];omega
  rw[aO hv,aO aE]
def eI(l:aH):Nat×Nat×Int:=
 if l=[]then(0,0,3)else if l.takeWhile cE=[]∨(1<(l.takeWhile cE).length/\l.head? =some 48)then(0,0,4)
 else if jF 0 (l.takeWhile cE)<9223372036854775808 then(jF 0 (l.takeWhile cE),(l.takeWhile cE).length,0)else(0,0,20)
theorem vu{p:UInt8->Bool}{l:aH}:∀c,c∈l.takeWhile p->p c=true:=by
 have:=EO (p:=p) (l:=l);rwa[dv]at this
theorem LQ{w:av}{l:aH}(hE:Er w)(hl:l.length<281474976710656):
  az aq 173 #[ab (T l)] w λe w'=>e=ak (ai #[O U (eI l).1,O U (eI l).2.1,O U (eI l).2.2])/\ay [] w w':=by
 refine ret (v0w _ _ _ ?_);refine⟨λnv j w'=>∃n:Nat,n<=l.length/\j=(n:Int)/\nv=l.length-n/\(∀x,x∈l.take n->cE x=true)/\ay [] w w',l.length,⟨0,bm _,rfl,rfl,aM,Only.refl _ _⟩,?_⟩;rintro nv _ w0 ⟨n,hn,rfl,rfl,hp,cw⟩;rw[bO];refine⟨λb w'=>(b=true->∃x,l[n]? =some x/\cE x=true)/\(b=false->∀x,l[n]? =some x->cE x=false)/\ay [] w w',?_,λhc=>?_,λhc=>⟨λe=>abW,λ_ x hx=>?_,cw⟩⟩
 ·rintro b w1 ⟨h1,h2,cA⟩;refine⟨λhb=>?_,λhb=>?_⟩
  ·obtain⟨x,hx,hw⟩:=h1 hb;have cd:=(bd.1 hx).1;refine⟨l.length-(n+1),aE,n+1,aE,aad,rfl,λy hy=>?_,cA⟩;rw[bK,hx]at hy;simp only[eX,cD,aQ]at hy;rcases hy with hy | rfl
   ·exact hp y hy
   exact hw
  have NX:=kf hn hp (h2 hb);have u9:(l.takeWhile cE).length=n:=by rw[NX,dC];omega
  have e0:(ao #[])=T []:=rfl;rw[e0,ju];refine⟨λh0=>⟨?_,cA⟩,λh0=>?_⟩
  ·have h0:l=[]:=aV h0;rw[eI,aR h0];rfl
  have h0:¬l=[]:=aW h0;refine⟨λb w'=>b=decide (l.takeWhile cE=[]∨(1<(l.takeWhile cE).length/\l.head? =some 48))/\ay [] w w',?_,λhz=>?_,λhz=>?_⟩
  ·rintro b w2 ⟨rfl,cO⟩;refine⟨λhb=>⟨?_,cO⟩,λhb=>⟨n,⟨rfl,hn⟩,?_⟩⟩
   ·rw[eI,aO h0,aR (aV hb)];rfl
   have hb:=aW hb;have hx:(T l).extract 0 n=T (l.takeWhile cE):=by rw[oJ,eY,rM,NX]
   rw[hx];have ia:l.takeWhile cE≠[]:=λe=>hb (.inl e);have hpi:=pib (vu (p:=cE) (l:=l)) ia;have hsz:(T (l.takeWhile cE)).size<=281474976710656:=aam
   by_cases hv:jF 0 (l.takeWhile cE)<9223372036854775808
   ·rw[aR hv]at hpi;refine(Tryz.strconv_ParseInt_10_at64_ok (T (l.takeWhile cE)) (bh hsz aL) _ hpi w2).mono ?_;rintro _ w3 ⟨rfl,hw⟩;have da:ay [] w2 w3:=by
     rcases hw with rfl | ⟨s,rfl⟩
     ·exact Only.refl _ _
     exact Only.uS (Lib.bytesWorld_below _ _ _)
    refine⟨_,⟨.nilIface,rfl⟩,rfl,.inl rfl,λe=>abW,λ_=>⟨?_,cO.cn da⟩⟩;rw[eI,aO h0,aO hb,aR hv,u9]
   rw[aO hv]at hpi;obtain⟨tp,p,Vj⟩:=hE.only cO;refine(Tryz.strconv_ParseInt_10_at64_range_var (T (l.takeWhile cE)) hsz hpi tp p w2 Vj).mono ?_;rintro _ w3 ⟨N,rfl,_,_,hw⟩;refine⟨_,⟨.iface _ _,rfl⟩,rfl,.inr ⟨_,_,rfl⟩,λ_=>⟨?_,cO.cn (Only.uS hw)⟩,λe=>abW⟩;rw[eI,aO h0,aO hb,aO hv];rfl
  ·have hz:n=0:=acr
   subst hz;refine⟨?_,cA⟩;symm;rw[bE (.inl (bA u9))];rfl
  have hz:n≠0:=acr
  obtain⟨x,r,rfl⟩:∃x r,l=x::r:=by
   cases l with
   | nil=>exact absurd rfl h0
   | cons x r=>exact⟨x,r,rfl⟩
  refine⟨x,λ_=>⟨ix _,aci⟩,?_,cA⟩;have ia:(x::r).takeWhile cE≠[]:=λe=>by rw[e]at u9;exact hz u9.symm
  rw[u9,bH];simp only[aP,bC,dy,fR,bg];constructor
  ·rintro⟨h1,h2⟩;exact .inr ⟨aE,OT.1 (by show x.toNat=48;omega)⟩
  rintro(h | ⟨h1,rfl⟩)
  ·exact absurd h ia
  exact⟨aE,rfl⟩
 ·have cd:(n:Int)<l.length:=aV hc;have hx:l[n]? =some (l[n]' aE):=bJ aE;generalize l[n]' aE=x at hx;refine⟨x,⟨bc n,aa9⟩,(LK w0 x).mono ?_⟩;rintro _ w3 ⟨rfl,da⟩;refine⟨_,rfl,λhb=>⟨x,hx,hb⟩,λhd y hy=>?_,cw.cn da⟩;rw[hx]at hy;injection hy with hy;subst hy;exact hd
 have nE:¬(n:Int)<l.length:=aW hc;have:=(bd.1 hx).1;omega
structure Tk where
 k:Int
 t:aH
 n:Int
 a:Int
deriving DecidableEq
def Tk.v(x:Tk):aw:=ah #[O U x.k,ab (T x.t),O U x.n,O U x.a]
def Bl:Rp Tk:=λ_ _ x cs=>cs=[O U x.k,ab (T x.t),O U x.n,O U x.a]
theorem fX:Bl.Ok where
 keep h _:=h
 inHeap h:=h
 mono h _:=h
 one:=by
  rintro w F x cs h v hv;unfold Bl at h;subst h;simp only[aX,be,ca]at hv;rcases hv with rfl | rfl | rfl | rfl<;>rfl
abbrev kg(B:Nat)(w:av)(s:Sl)(xs:List Tk):Prop:=Own Bl 4 109 B w (λ_=>True) s xs
theorem kg.of{B:Nat}{w:av}{F:aJ}{s:Sl}{xs:List Tk}(h:Own Bl 4 109 B w F s xs):kg B w s xs:=h.mono fX λ_ _=>trivial
theorem kg.sl{B:Nat}{w:av}{s:Sl}{xs:List Tk}(h:kg B w s xs):aA Bl 4 w (λk=>B<=k/\s.a=some ⟨k,0,none⟩) s xs:=He fX (λ_ _ _ _ _ h=>h) h
theorem kg.flat{B:Nat}{w:av}{s:Sl}{xs:List Tk}(h:kg B w s xs):Own Bl 4 109 B w (λ_=>False) s xs:=by
 rcases h with h | ⟨g,css,tail,a1,a2,a4,a5,a6,a7,a9,a8⟩
 ·exact .inl h
 exact .inr ⟨g,css,tail,a1,a2,a4,a5,a6,a7,a9,fP.imp (λ_ _ h=>h) a8⟩
theorem kg.keep{B:Nat}{w w':av}{s:Sl}{xs:List Tk}(h:kg B w s xs)(hk:∀k,B<=k/\s.a=some ⟨k,0,none⟩->k<w.heap.size->w'.heap[k]? =w.heap[k]?):kg B w' s xs:=
 kg.of (h.flat.keep fX λk hF cd=>hk k (hF.elim False.elim id) cd)
theorem kg.only{B:Nat}{w w':av}{s:Sl}{xs:List Tk}(h:kg B w s xs)(hO:ay [] w w'):kg B w' s xs:=h.keep λk _ cd=>hO.block k cd aM
theorem kg.p{B:Nat}{w w':av}{s:Sl}{xs:List Tk}{D:aJ}(h:kg B w s xs)(hO:aD D w w')(hD:∀k,B<=k->s.a=some ⟨k,0,none⟩->¬D k):kg B w' s xs:=h.keep λk hk cd=>hO.block k cd (hD k hk.1 hk.2)
theorem LR{w:av}{B:Nat}{s:Sl}{xs:List Tk}(t:Tk)(hs:kg B w s xs)(hB:B<=w.heap.size)(hm:(xs.length+1)*40<=140737488355328):
  ∃y w1,(au 92 1 #[(0,t.v)]).run aq w=.ok (Sl.v y) w1/\ay [] w w1/\∃s' w2,(Builtin.append_ #[92,92] 92 #[Sl.v s,Sl.v y]).run aq w1=.ok (Sl.v s') w2/\kg B w2 s' (xs++[t])/\aD (λk=>B<=k/\s.a=some ⟨k,0,none⟩) w1 w2:=by
 obtain⟨y,w1,k1,k2,s',w2,k3,k4,⟨gs,k5,k6⟩,_⟩:=rO (P:=aq) (t:=92) (ty:=92) (e:=109) (i:=Tryz.t109) (bytes:=40) (size:=4) (v:=t.v) (x:=t) (G:=λ_=>False) (by kernel_rfl) (by kernel_rfl) rfl rfl rfl rfl aL aL aL fX hs hB rfl rfl (λk hk _=>hk.elim) hm;exact⟨y,w1,k1,k2,s',w2,k3,kg.of k4,k5.p λg hg=>.inl ⟨(k6 g hg).2.1,(k6 g hg).1⟩⟩
def ic:List (aH):=[[97,102,116,101,114],[97,108,119,97,121,115],[99,104,97,114,116],[100,101,101,112],[101,109,105,116],[101,110,116,101,114],[104,105,115,116,111,114,121],[105,110],[105,110,105,116,105,97,108],[108,101,97,118,101],[111,110],[112,97,114,97,108,108,101,108],[114,97,105,115,101],[115,101,116],[115,116,97,116,101],[118,97,114]]
theorem Hf(w:av):az aq 88 #[] w λe w'=>∃s:Sl,e=ak s.v/\Own jR 1 9 w.heap.size w' (λ_=>True) s ic/\ay [] w w':=by
 refine(adz (λv w'=>∃s:Sl,v=s.v/\Own jR 1 9 w.heap.size w' (λ_=>True) s ic/\ay [] w w') w ?_).mono (by
  rintro e w' ⟨v,rfl,s,rfl,h⟩;exact⟨s,rfl,h⟩)
 obtain⟨s,w',h1,h2,h3⟩:=iR w ic (n:=16) rfl rfl aL aL;exact⟨s,w',h1,s,rfl,h2,h3⟩
structure Cut (w:av) (b:Nat) (l:aH) (i:Nat) (rs:Sl) (acc:List Tk):Prop where
 blk:∃ws:Sl,aF w b 158 [ab (T l),O U (i:Int),ws.v,rs.v]/\aA jR 1 w (λk=>k<b) ws ic
 own:kg (b+1) w rs acc
 er:Er w
 gb:5<b
 il:i<=l.length
 ll:l.length<=16384
theorem Cut.lt{w:av}{b:Nat}{l:aH}{i:Nat}{rs:Sl}{acc:List Tk}(h:Cut w b l i rs acc):b<w.heap.size:=by
 obtain⟨ws,h1,_⟩:=h.blk;exact h1.lt
theorem Cut.only{w w':av}{b:Nat}{l:aH}{i:Nat}{rs:Sl}{acc:List Tk}(h:Cut w b l i rs acc)(hO:ay [] w w'):Cut w' b l i rs acc:=by
 obtain⟨ws,h1,h2⟩:=h.blk;exact⟨⟨ws,(hO.block b h1.lt aM).trans h1,SliceF.only db aL h2 hO aM⟩,h.own.only hO,h.er.only hO,h.gb,h.il,h.ll⟩
theorem Cut.move{w w':av}{b:Nat}{l:aH}{i j:Nat}{rs:Sl}{acc:List Tk}(h:Cut w b l i rs acc)(hO:ay [b] w w')(hj:j<=l.length)(hB:∀ws:Sl,aF w b 158 [ab (T l),O U (i:Int),ws.v,rs.v]->aF w' b 158 [ab (T l),O U (j:Int),ws.v,rs.v]):Cut w' b l j rs acc:=by
 obtain⟨ws,h1,h2⟩:=h.blk;exact⟨⟨ws,hB ws h1,SliceF.only db aL h2 hO (by intro k hk _;simp only[aQ];omega)⟩,h.own.keep λk hk cd=>hO.block k cd aal,h.er.keep λcd=>hO.block _ cd (by simp only[aQ];have:=h.gb;omega),h.gb,hj,h.ll⟩
theorem Hg{w:av}{b:Nat}{l:aH}{i:Nat}{rs:Sl}{acc:List Tk}(h:Cut w b l i rs acc)(k:Int)(t:aH)(nn a0:Int)(n:Nat)(hn:i+n<=l.length)(ha:acc.length<=16384):
  az aq 92 #[ae (some ⟨b,0,none⟩),ah #[O U k,ab (T t),O U nn,O U a0],O U (n:Int)] w λe w'=>e=ak (ai #[])/\aD (λk=>b<=k) w w'/\∃Rt,Cut w' b l (i+n) Rt (acc++[⟨k,t,nn,i⟩]):=by
 refine ret (Yo _ _ _ _ _ _ _ _ ?_);intro k0 w0 iJ dV cw;have IH:=h.lt;have Gn:=h.ll;have h0:=h.only cw;obtain⟨ws,JQ,hw0⟩:=h0.blk;refine⟨i,Blk.eo JQ 1 rfl,λw1 cA=>?_⟩;have zb0:=JQ.lt;have yZ:aF w1 b 158 _:=(cA.block b zb0 aal).trans JQ;have NY:kg (b+1) w1 rs acc:=h0.own.keep λq hq cd=>by
  refine cA.block q cd ?_;simp only[aQ];rintro rfl;have:=(h.own.blk hq.2).2;dsimp only at this;omega
 have z1:=cA.size;obtain⟨y,w2,c1,c2,s',w3,c3,c4,c5⟩:=LR ⟨k,t,nn,i⟩ NY aE (bh (ey 40 (show acc.length+1<=16385 by omega)) aL);have z2:=c2.size;have z3:=c5.size;have af8:∀q,rs.a=some ⟨q,0,none⟩->q≠k0:=λq hq=>by
  have:=(h.own.blk hq).2;dsimp only at this;omega
 refine⟨λq=>q=b,rfl,rs,Blk.eo yZ 3 rfl,y,w2,c1,c2.same aae,bR.only c2,s',w3,c3,?_,?_,?_⟩
 ·exact c5.same (by intro x hx;simp only[aQ]at hx;subst hx;exact⟨aE,λe=>af8 _ e.2 rfl⟩)
 ·intro q hq cd;exact c5.block q cd aE
 have Vk:aF w3 b 158 [ab (T l),O U (i:Int),ws.v,rs.v]:=(c5.block b aE aE).trans ((c2.block b aE aM).trans yZ);refine⟨b,3,_,158,by rw[gM],Vk,aM,aE,λw4 dR S7=>?_⟩;have S7:aF w4 b 158 [ab (T l),O U (i:Int),ws.v,s'.v]:=S7;refine⟨i,Blk.eo S7 1 rfl,b,1,_,158,by rw[zL,gM],S7,aM,aE,λw5 fe JS=>⟨rfl,?_,s',?_⟩⟩
 ·have e1:aD (λk=>b<=k) w w1:=cw.p0.trans (cA.p (F:=λq=>q=k0) λb hb=>.inl aap) λq hq=>aE
  have e2:aD (λk=>b<=k) w w3:=(e1.cn c2).trans c5 λq hq=>.inl aE;have e3:aD (λk=>b<=k) w w4:=e2.trans (dR.p (F:=λq=>q=b) λb hb=>.inl aap) λq hq=>.inl aE;exact e3.trans (fe.p (F:=λq=>q=b) λb hb=>.inl aap) λq hq=>.inl aE
 have z4:=dR.size;have JS:aF w5 b 158 [ab (T l),O U (IntKind.i64.wrap ((i:Int)+n)),ws.v,s'.v]:=JS;rw[fS aE aE]at JS;have up:aD (λk=>b<=k) w w5:=by
  have e1:aD (λk=>b<=k) w w1:=cw.p0.trans (cA.p (F:=λq=>q=k0) λb hb=>.inl aap) λq hq=>aE
  have e2:aD (λk=>b<=k) w w3:=(e1.cn c2).trans c5 λq hq=>.inl aE;have e3:aD (λk=>b<=k) w w4:=e2.trans (dR.p (F:=λq=>q=b) λb hb=>.inl aap) λq hq=>.inl aE;exact e3.trans (fe.p (F:=λq=>q=b) λb hb=>.inl aap) λq hq=>.inl aE
 have hgb:=h.gb;obtain⟨J6,mH,WM⟩:=h.blk;have hwe:J6=ws:=by
  have:aF w0 b 158 [ab (T l),O U (i:Int),J6.v,rs.v]:=(cw.block b IH aM).trans mH;unfold aF at this JQ;rw[this]at JQ;simp[Sl.v]at JQ;cases ws;cases J6;simp_all
 subst hwe;refine⟨⟨J6,JS,SliceF.Aw db aL WM up λq hq _ hd=>aE⟩,?_,h.er.keep λcd=>up.block _ cd aE,hgb,hn,Gn⟩;have e4:kg (b+1) w4 s' _:=c4.keep λq hq cd=>dR.block q cd aal;exact e4.keep λq hq cd=>fe.block q cd aal
abbrev Tq:=Int×aH×Int×Nat
def kC(m:aH):Except Int Tq:=
 if 24<(m.takeWhile dM).length then .error 2 else .ok (if ic.contains (m.takeWhile dM)then 2 else 1,m.takeWhile dM,0,(m.takeWhile dM).length)
def pM(m:aH):Except Int Tq:=
 if(eI m).2.2≠0 then .error (eI m).2.2 else if(eI m).2.1<(m.takeWhile dM).length then .error 4 else .ok (3,[],(eI m).1,(eI m).2.1)
def mB:aH:=[123,125,40,41,91,93,59,44,61,43,45,42,47,37,60,62,33]
def oU(m:aH):Bool:=match m with
 | c::d::_=>(d==61&&[60,62,61,33].contains c)||(d==c&&[38,124].contains c)||(c==45&&d==62)
 | _=>false
def gR(m:aH):Nat:=if oU m then 2 else match m with
 | c::_=>if mB.contains c then 1 else 0
 | []=>0
def mg(m:aH):Except Int Tq:=if gR m=0 then .error 4 else .ok (4,m.take (gR m),0,gR m)
def ki(m:aH):Except Int Tq:=match m with
 | []=>.error 4
 | c::_=>if dZ c then kC m else if cE c then pM m else mg m
def Kr(w':av)(b:Nat)(l:aH)(i:Nat)(acc:List Tk)(r:Except Int Tq)(v:aw):Prop:=match r with
 | .error e=>v=O U e/\∃rs,Cut w' b l i rs acc
 | .ok q=>v=O U 0/\∃rs,Cut w' b l (i+q.2.2.2) rs (acc++[⟨q.1,q.2.1,q.2.2.1,i⟩])
theorem oV{p:UInt8->Bool}{l:aH}:(l.takeWhile p).length<=l.length:=by
 rw[ly,dC];exact Nat.min_le_right _ _
theorem T5{w:av}{b:Nat}{l:aH}{i:Nat}{rs:Sl}{acc:List Tk}(h:Cut w b l i rs acc)(ha:acc.length<=16384):
  az aq 134 #[ae (some ⟨b,0,none⟩)] w λe w'=>∃v,e=ak v/\aD (λk=>b<=k) w w'/\Kr w' b l i acc (kC (l.drop i)) v:=by
 refine Yk ⟨b,0,none⟩ (λv w'=>aD (λk=>b<=k) w w'/\Kr w' b l i acc (kC (l.drop i)) v) w ?_;obtain⟨ws,hb,hw⟩:=h.blk;have Gn:=h.ll;refine(LO hb h.il aE).mono ?_;rintro _ w0 ⟨rfl,cw⟩;have W4:((l.drop i).takeWhile dM).length<=l.length-i:=by
  have:=oV (p:=dM) (l:=l.drop i);rwa[bW]at this
 have hil:=h.il;refine⟨_,rfl,λhc=>⟨cw.p0,?_⟩,λhc=>?_⟩
 ·rw[bO]at hc;rw[kC,aR aan];exact⟨rfl,rs,h.only cw⟩
 rw[bO]at hc;have hc:¬24<((l.drop i).takeWhile dM).length:=aao
 rw[kC,aO hc];generalize hm:(l.drop i).takeWhile dM=m at*
 have h0:=h.only cw;obtain⟨J6,mH,WM⟩:=h0.blk;refine⟨λk w'=>k=(if ic.contains m then 2 else 1)/\ay [] w w',?_,J6,Blk.eo mH 2 rfl,(qR WM m).mono ?_⟩
 ·rintro _ w1 ⟨rfl,cA⟩;refine(ret (Sb (T m) (λv w'=>v=ab (T m)/\ay [] w1 w') w1 ?_)).mono ?_
  ·refine(Tryz.stringslite_Clone (T m) w1 aam).mono ?_;rintro _ w2 ⟨rfl,hw⟩;exact⟨_,rfl,rfl,Only.uS hw⟩
  rintro _ w2 ⟨rfl,cO⟩;rw[bO];refine⟨_,rfl,(Hg (h.only (cA.cn cO)) _ m 0 0 m.length aE ha).mono ?_⟩;rintro _ w3 ⟨rfl,da,Rt,hC⟩;exact⟨rfl,(cA.cn cO).CA da,rfl,Rt,hC⟩
 rintro _ w4 ⟨rfl,dR⟩;refine⟨_,rfl,λhb=>⟨by rw[aR hb],cw.cn dR⟩,λhb=>⟨by rw[hb];rfl,cw.cn dR⟩⟩
theorem LS{w:av}{b:Nat}{l:aH}{i:Nat}{rs:Sl}{acc:List Tk}(h:Cut w b l i rs acc)(ha:acc.length<=16384):
  az aq 136 #[ae (some ⟨b,0,none⟩)] w λe w'=>∃v,e=ak v/\aD (λk=>b<=k) w w'/\Kr w' b l i acc (pM (l.drop i)) v:=by
 refine Yp ⟨b,0,none⟩ (λv w'=>aD (λk=>b<=k) w w'/\Kr w' b l i acc (pM (l.drop i)) v) w ?_;obtain⟨ws,hb,hw⟩:=h.blk;have Gn:=h.ll;have hil:=h.il;refine(xZ hb h.il).mono ?_;rintro _ w0 ⟨rfl,cw⟩;have u9:(l.drop i).length=l.length-i:=bW;refine⟨_,rfl,(LQ (h.er.only cw) aE).mono ?_⟩;rintro _ w1 ⟨rfl,cA⟩;have gK:=cw.cn cA;refine⟨_,_,_,rfl,λhe=>⟨gK.p0,?_⟩,λhe=>?_⟩
 ·rw[pM,aR aaR];exact⟨rfl,rs,h.only gK⟩
 have he:¬(eI (l.drop i)).2.2≠0:=aaR
 have hk:(eI (l.drop i)).2.1<=(l.drop i).length:=by
  have:=oV (p:=cE) (l:=l.drop i);unfold eI;split
  ·exact bm _
  split
  ·exact bm _
  split
  ·exact this
  exact bm _
 obtain⟨J6,mH,WM⟩:=(h.only gK).blk;refine(LO mH h.il aE).mono ?_;rintro _ w2 ⟨rfl,cO⟩;have j6:=gK.cn cO;refine⟨_,rfl,?_⟩;dsimp only;rw[bO];refine⟨λhc=>⟨j6.p0,?_⟩,λhc=>?_⟩
 ·rw[pM,aO he,aR aan];exact⟨rfl,rs,h.only j6⟩
 rw[pM,aO he,aO aao];refine(Hg (h.only j6) 3 [] _ 0 (eI (l.drop i)).2.1 aE ha).mono ?_;rintro _ w3 ⟨rfl,da,Rt,hC⟩;exact⟨rfl,j6.CA da,rfl,Rt,hC⟩
theorem qS(w:av)(p:Addr)(n:Nat)(a:Addr):(w.freeze p n).cell? a=w.cell? a:=by
 unfold World.freeze;split
 ·rfl
 unfold World.cell?;simp only[yT];by_cases Ru:p.block=a.block
 ·rw[aR Ru];cases h:w.heap[a.block]? with
  | none=>rfl
  | some o=>
   cases o with
   | cells c e f=>obtain⟨lo,hi⟩:=f;rfl
   | _=>rfl
 rw[aO Ru]
theorem qT(w:av)(p:Addr)(n:Nat):aD (λk=>k=p.block) w (w.freeze p n):=by
 unfold World.freeze;split
 ·exact OnlyP.refl _ _
 exact⟨rfl,rfl,rfl,aM,λk hk hn=>by
  simp only[yT];rw[aO λe=>hn e.symm]⟩
theorem T6{w:av}{F:aJ}{s:Sl}{g B:Nat}{l:aH}(ha:s.a=some ⟨g,0,none⟩)(h:Own jT 1 5 B w F s l)(cd:g<w.heap.size):
  ∃w',(convert 112 112 (Sl.v s)).run aq w=.ok (Sl.v s) w'/\aA jT 1 w' (λ_=>True) s l/\aD (λk=>k=g) w w':=by
 have hs:=um h;obtain⟨g',css,tail,a1,a2,a4,_⟩:=h.resolve_left (λe=>by rw[e.1]at ha;cases ha);rw[ha]at a1;injection a1 with a1;injection a1 with a1;subst a1;have qm:w.shape? g=some (5,(css.flatten++tail).toArray.size):=by
  unfold World.shape?;unfold aF at a4;rw[a4]
 have hu:Tryz.prog.underlying 112=some (.slice 5):=by kernel_rfl
 have U9:Tryz.prog.underlying 5=some (.int .u8):=by kernel_rfl
 refine⟨w.freeze ⟨g,(css.flatten++tail).toArray.size,none⟩ 1,?_,⟨hs.len,hs.cap,hs.nil0,hs.big,λj x hj=>?_⟩,qT w ⟨g,(css.flatten++tail).toArray.size,none⟩ 1⟩
 ·unfold Sl.v;rw[ha];simp[convert,run_underlying hu,run_underlying U9,markStringish,qm,Result.andThen]
 obtain⟨base,cs,g1,g2,g3,g4,g5⟩:=hs.at_ j x hj;exact⟨base,cs,g1,trivial,g3,λq v hq=>by rw[qS];exact g4 q v hq,g5⟩
theorem Hh{c d:UInt8}:((c.toNat:Int)==(d.toNat:Int))=(c==d):=by
 rw[bH];simp only[dy];constructor
 ·intro h;exact OT.1 aE
 rintro rfl;rfl
theorem Jj{m:aH}(h:oU m=true):2<=m.length:=by
 match m,h with
 | _::_::_,_=>simp
theorem uo{m:aH}:gR m<=m.length:=by
 unfold gR;split
 ·exact Jj (by assumption)
 split
 ·split
  ·simp
  exact bm _
 exact bm _
theorem T7{w:av}{b:Nat}{l:aH}{i:Nat}{rs:Sl}{acc:List Tk}(h:Cut w b l i rs acc)(ha:acc.length<=16384)(ia:i<l.length):
  az aq 137 #[ae (some ⟨b,0,none⟩)] w λe w'=>∃v,e=ak v/\aD (λk=>b<=k) w w'/\Kr w' b l i acc (mg (l.drop i)) v:=by
 refine Yq ⟨b,0,none⟩ (λv w'=>aD (λk=>b<=k) w w'/\Kr w' b l i acc (mg (l.drop i)) v) w ?_;obtain⟨ws,hb,hw⟩:=h.blk;have Gn:=h.ll;have hil:=h.il;refine(xZ hb h.il).mono ?_;rintro _ w0 ⟨rfl,cw⟩;have u9:(l.drop i).length=l.length-i:=bW;generalize hm:l.drop i=m at*
 obtain⟨c,r,rfl⟩:∃c r,m=c::r:=by
  cases m with
  | nil=>simp at u9;omega
  | cons c r=>exact⟨c,r,rfl⟩
 have g0:(0:Int)<=0/\(T (c::r))[0]? =some c:=⟨ix _,aci⟩
 refine⟨T (c::r),rfl,λi0 w'=>i0=(if mB.contains c then 1 else 0:Int)/\ay [] w w',?_,c,g0,?_⟩
 ·rintro _ w1 ⟨rfl,cA⟩;refine⟨λi1 w'=>i1=(gR (c::r):Int)/\ay [] w w',?_,λb w'=>b=oU (c::r)/\ay [] w w',?_,?_,?_⟩
  ·rintro _ w2 ⟨rfl,cO⟩;refine⟨λhz=>⟨cO.p0,?_⟩,λhz=>⟨gR (c::r),⟨rfl,by rw[bO];exact uo⟩,?_⟩⟩
   ·rw[mg,aR (by have:(gR (c::r):Int)=0:=acr;omega)];exact⟨rfl,rs,h.only cO⟩
   have hz:¬gR (c::r)=0:=by
    intro e;rw[e]at hz;simp at hz
   rw[mg,aO hz,oJ,eY,rM];have hn:=uo (m:=c::r);refine(ret (Sb (T _) (λv w'=>v=ab (T ((c::r).take (gR (c::r))))/\ay [] w2 w') w2 ?_)).mono ?_
   ·refine(Tryz.stringslite_Clone (T _) w2 (by rw[bO,dC];omega)).mono ?_;rintro _ w3 ⟨rfl,hw⟩;exact⟨_,rfl,rfl,Only.uS hw⟩
   rintro _ w3 ⟨rfl,da⟩;refine⟨_,rfl,(Hg (h.only (cO.cn da)) 4 _ 0 0 (gR (c::r)) aE ha).mono ?_⟩;rintro _ w4 ⟨rfl,dR,Rt,hC⟩;exact⟨rfl,(cO.cn da).CA dR,rfl,Rt,hC⟩
  ·rintro _ w5 ⟨rfl,fe⟩;refine⟨λhs=>⟨by rw[gR,aR hs];rfl,fe⟩,λhs=>⟨?_,fe⟩⟩;have e:gR (c::r)=if mB.contains c then 1 else 0:=by rw[gR,aO abn]
   rw[e];split<;>rfl
  ·intro hc;rw[bO]at hc;obtain⟨d,r,rfl⟩:∃d r',r=d::r':=by
    cases r with
    | nil=>simp at hc
    | cons d r=>exact⟨d,r,rfl⟩
   have g1:(0:Int)<=1/\(T (c::d::r))[1]? =some d:=⟨aL,aci⟩
   have ex:(T (c::d::r)).extract 0 2=T [c,d]:=by rw[oJ];rfl
   have sz:2<=(T (c::d::r)).size:=by rw[bO];simp
   have lit:(ao #[45,62])=T [45,62]:=rfl;have eqx:((T [c,d]).toList==(T [45,62]).toList)=(c==45&&d==62):=by
    rw[ju,bH];simp
   have e61:((d.toNat:Int)==61)=(d==61):=Hh (d:=61);have J7:oU (c::d::r)=((d==61&&[60,62,61,33].contains c)||(d==c&&[38,124].contains c)||(c==45&&d==62)):=rfl;rw[J7];generalize U8:([60,62,61,33]:aH).contains c=p1;generalize NZ:([38,124]:aH).contains c=p2;have Pa:((((T (c::d::r)).extract 0 2).toList)==((ao #[45,62]).toList))=(c==45&&d==62):=by rw[ex,lit,eqx]
   refine⟨d,g1,λIP=>⟨c,g0,λw6 ez=>?_⟩,λIP=>⟨d,g1,c,g0,λJ8=>⟨c,g0,λdJ dW=>?_⟩,λJ8=>⟨sz,λfJ eF=>⟨?_,cA.cn eF⟩⟩⟩⟩
   ·rw[e61]at IP;obtain⟨s,w7,k1,k2,k3,_⟩:=pL w6 [60,62,61,33] (n:=4) (parts:=#[(0,.int .u8 60),(1,.int .u8 62),(2,.int .u8 61),(3,.int .u8 33)]) rfl rfl aL aL;refine⟨s,w7,k1,(Dr (um k2) c).mono ?_⟩;rintro _ w8 ⟨rfl,gp⟩;have jP:=cA.cn (ez.cn (k3.cn gp));rw[U8];refine⟨_,rfl,λhb=>⟨by rw[IP,hb];rfl,jP⟩,λhb=>⟨d,g1,c,g0,λJ8=>⟨c,g0,?_⟩,λJ8=>⟨sz,?_,jP⟩⟩⟩
    ·rw[Hh]at J8;obtain⟨s,w9,k1,k2,k3,_⟩:=pL w8 [38,124] (n:=2) (parts:=#[(0,.int .u8 38),(1,.int .u8 124)]) rfl rfl aL aL;refine⟨s,w9,k1,(Dr (um k2) c).mono ?_⟩;rintro _ dz ⟨rfl,dL⟩;have hO:=jP.cn (k3.cn dL);rw[NZ];exact⟨_,rfl,λwx=>⟨by rw[IP,hb,J8,wx];rfl,hO⟩,λwx=>⟨sz,by rw[Pa,IP,hb,J8,wx];rfl,hO⟩⟩
    rw[Hh]at J8;rw[Pa,IP,hb,J8];rfl
   ·rw[e61]at IP;rw[Hh]at J8;obtain⟨s,eM,k1,k2,k3,_⟩:=pL dJ [38,124] (n:=2) (parts:=#[(0,.int .u8 38),(1,.int .u8 124)]) rfl rfl aL aL;refine⟨s,eM,k1,(Dr (um k2) c).mono ?_⟩;rintro _ eW ⟨rfl,dD⟩;have hO:=cA.cn (dW.cn (k3.cn dD));rw[NZ];exact⟨_,rfl,λwx=>⟨by rw[IP,J8,wx];rfl,hO⟩,λwx=>⟨sz,by rw[Pa,IP,J8,wx];rfl,hO⟩⟩
   rw[e61]at IP;rw[Hh]at J8;rw[Pa,IP,J8];rfl
  intro hc ir j7;rw[bO]at hc;have hr:r=[]:=by
   cases r with
   | nil=>rfl
   | cons d r=>exact absurd (aW hc) (by simp only[aU];omega)
  subst hr;exact⟨rfl,cA.cn j7⟩
 obtain⟨s,jD,k1,k2,k3,k4⟩:=pL w0 mB (n:=17) (parts:=#[(0,.int .u8 123),(1,.int .u8 125),(2,.int .u8 40),(3,.int .u8 41),(4,.int .u8 91),(5,.int .u8 93),(6,.int .u8 59),(7,.int .u8 44),(8,.int .u8 61),(9,.int .u8 43),(10,.int .u8 45),(11,.int .u8 42),(12,.int .u8 47),(13,.int .u8 37),(14,.int .u8 60),(15,.int .u8 62),(16,.int .u8 33)]) rfl rfl aL aL;obtain⟨iK,c1,c2,c3⟩:=T6 k4 k2 (k2.blk k4).2;have jf:ay [] w0 iK:=((k3.p0 (F:=λk=>w0.heap.size<=k)).trans c3 λk hk=>.inl aE).only λk hk=>hk;refine⟨s,jD,k1,s,iK,c1,(Dr c2 c).mono ?_⟩;rintro _ jt ⟨rfl,jP⟩;have hO:=cw.cn (jf.cn jP);exact⟨_,rfl,λhb=>⟨by rw[aR hb],hO⟩,λhb=>⟨by rw[hb];rfl,hO⟩⟩
theorem Kr.int{w':av}{b:Nat}{l:aH}{i:Nat}{acc:List Tk}{r:Except Int Tq}{v:aw}(h:Kr w' b l i acc r v):∃k:Int,v=O U k:=by
 unfold Kr at h;split at h
 ·exact⟨_,h.1⟩
 exact⟨_,h.1⟩
theorem Qi{w:av}{b:Nat}{l:aH}{i:Nat}{rs:Sl}{acc:List Tk}(h:Cut w b l i rs acc)(ha:acc.length<=16384)(ia:i<l.length):
  az aq 91 #[ae (some ⟨b,0,none⟩)] w λe w'=>∃v,e=ak v/\aD (λk=>b<=k) w w'/\Kr w' b l i acc (ki (l.drop i)) v:=by
 refine Yi ⟨b,0,none⟩ (λv w'=>aD (λk=>b<=k) w w'/\Kr w' b l i acc (ki (l.drop i)) v) w ?_;obtain⟨ws,hb,hw⟩:=h.blk;have hx:l[i]? =some l[i]:=bJ ia;generalize l[i]=x at hx;have ht:ki (l.drop i)=if dZ x then kC (l.drop i)else if cE x then pM (l.drop i)else mg (l.drop i):=by
  rw[lz hx];rfl
 rw[ht];refine⟨T l,Blk.eo hb 0 rfl,i,Blk.eo hb 1 rfl,x,⟨bc i,aa9⟩,λw0 cw=>(xY w0 x).mono ?_⟩;rintro _ w1 ⟨rfl,cA⟩;have gK:=cw.cn cA;refine⟨_,rfl,λhl=>?_,λhl=>(Hd w1 x).mono ?_⟩
 ·rw[aR hl];refine(T5 (h.only gK) ha).mono ?_;rintro _ w2 ⟨v,rfl,cO,hd⟩;obtain⟨k,rfl⟩:=hd.int;exact⟨k,rfl,gK.CA cO,hd⟩
 rintro _ w3 ⟨rfl,da⟩;have nH:=gK.cn da;rw[aO (by rw[hl];decide)];refine⟨_,rfl,λhd=>?_,λhd=>?_⟩
 ·rw[aR hd];refine(LS (h.only nH) ha).mono ?_;rintro _ w2 ⟨v,rfl,cO,hd⟩;obtain⟨k,rfl⟩:=hd.int;exact⟨k,rfl,nH.CA cO,hd⟩
 rw[aO (by rw[hd];decide)];refine(T7 (h.only nH) ha ia).mono ?_;rintro _ w2 ⟨v,rfl,cO,hd⟩;obtain⟨k,rfl⟩:=hd.int;exact⟨k,rfl,nH.CA cO,hd⟩
theorem rW{m:aH}{q:Tq}(h:ki m=.ok q):1<=q.2.2.2:=by
 cases m with
 | nil=>cases h
 | cons c r=>
  simp only[ki]at h;split at h
  ·rename_i hc;unfold kC at h;split at h
   ·cases h
   injection h with h;subst h;have:dM c=true:=by unfold dM;rw[hc];rfl
   dsimp only;rw[cT,aR this,aU];omega
  split at h
  ·rename_i hc;unfold pM at h;split at h
   ·cases h
   split at h
   ·cases h
   rename_i h1 h2;injection h with h;subst h;dsimp only;rw[cT,aR (by unfold dM;rw[hc,lN]),aU]at h2;omega
  unfold mg at h;split at h
  ·cases h
  injection h with h;subst h;dsimp only;omega
theorem Bm{m:aH}{e:Int}(h:ki m=.error e):e≠0:=by
 cases m with
 | nil=>injection h with h;omega
 | cons c r=>
  simp only[ki]at h;split at h
  ·unfold kC at h;split at h
   ·injection h with h;omega
   cases h
  split at h
  ·unfold pM at h;split at h
   ·injection h with h;omega
   split at h
   ·injection h with h;omega
   cases h
  unfold mg at h;split at h
  ·injection h with h;omega
  cases h
def ye(l:aH):Nat->Nat->Except (Int×Nat) (List Tk)
 | 0,_=>.ok []
 | f+1,i=>
  if l.length<=i+jd false (l.drop i)then .ok [⟨5,[],0,(i+jd false (l.drop i):Nat)⟩]
  else match ki (l.drop (i+jd false (l.drop i)))with
   | .error e=>.error (e,i+jd false (l.drop i))
   | .ok q=>match ye l f (i+jd false (l.drop i)+q.2.2.2)with
    | .error x=>.error x
    | .ok r=>.ok (⟨q.1,q.2.1,q.2.2.1,(i+jd false (l.drop i):Nat)⟩::r)
theorem LU{l:aH}:(eI l).2.1<=l.length:=by
 have:=oV (p:=cE) (l:=l);unfold eI;split
 ·exact bm _
 split
 ·exact bm _
 split
 ·exact this
 exact bm _
theorem yf{m:aH}{q:Tq}(h:ki m=.ok q):q.2.2.2<=m.length:=by
 cases m with
 | nil=>cases h
 | cons c r=>
  simp only[ki]at h;split at h
  ·unfold kC at h;split at h
   ·cases h
   injection h with h;subst h;exact oV
  split at h
  ·unfold pM at h;split at h
   ·cases h
   split at h
   ·cases h
   injection h with h;subst h;exact LU
  unfold mg at h;split at h
  ·cases h
  injection h with h;subst h;exact uo
theorem Du{l:aH}{i:Nat}(hi:i<=l.length):i+jd false (l.drop i)<=l.length:=by
 have:=Bj (b:=false) (l:=l.drop i);rw[bW]at this;omega
theorem Dv(l:aH):∀(f g i:Nat),i<=l.length->l.length<i+f->l.length<i+g->ye l f i=ye l g i
 | 0,_,i,hi,h,_=>aE
 | _,0,i,hi,_,h=>aE
 | f+1,g+1,i,hi,h1,h2=>by
  rw[ye,ye];split
  ·rfl
  split
  ·rfl
  rename_i q hq;have h3:=rW hq;have h4:=yf hq;rw[bW]at h4;rw[Dv l f g _ aE aE aE]
def jl(l:aH)(i:Nat):Except (Int×Nat) (List Tk):=ye l (l.length+1) i
theorem jg{l:aH}{i:Nat}(hi:i<=l.length):jl l i=if l.length<=i+jd false (l.drop i)then .ok [⟨5,[],0,(i+jd false (l.drop i):Nat)⟩]
  else match ki (l.drop (i+jd false (l.drop i)))with
   | .error e=>.error (e,i+jd false (l.drop i))
   | .ok q=>match jl l (i+jd false (l.drop i)+q.2.2.2)with
    | .error x=>.error x
    | .ok r=>.ok (⟨q.1,q.2.1,q.2.2.1,(i+jd false (l.drop i):Nat)⟩::r):=by
 unfold jl;rw[ye];split
 ·rfl
 split
 ·rfl
 rename_i q hq;have h3:=rW hq;have h4:=yf hq;rw[bW]at h4;rw[Dv l l.length (l.length+1) _ aE aE aE]
def ch(l:aH):List Tk×Int×Int:=if 16384<l.length then([],2, -1)else match jl l 0 with
 | .error x=>([],x.1,(x.2:Nat))
 | .ok r=>(r,0,0)
def iT(acc:List Tk):Except (Int×Nat) (List Tk)->Except (Int×Nat) (List Tk)
 | .error x=>.error x
 | .ok r=>.ok (acc++r)
theorem nS(b:Bool):∀(l:aH),jd false (l.drop (jd b l))=0
 | []=>by simp[jd]
 | c::r=>by
  cases b with
  | true=>
   rw[jd,lO,lZ];exact nS _ r
  | false=>
   rw[jd];split
   ·rw[lO,lZ];exact nS _ r
   split
   ·rw[lO,lZ];exact nS _ r
   rename_i h1 h2;rw[eY,jd,aO h1,aO h2]
theorem lA{l:aH}{i:Nat}(hi:i<=l.length):jl l i=jl l (i+jd false (l.drop i)):=by
 have h1:=Du hi;have h2:jd false (l.drop (i+jd false (l.drop i)))=0:=by
  rw[<-iP];exact nS false (l.drop i)
 rw[jg hi,jg h1,h2,gz]
theorem Hi{a b:List Tk}{x:Except (Int×Nat) (List Tk)}:iT a (iT b x)=iT (a++b) x:=by
 cases x with
 | error _=>rfl
 | ok r=>simp[iT]
theorem Dw{w:av}(l:aH)(hE:Er w):
  az aq 44 #[ab (T l)] w λe w'=>∃rs:Sl,e=ak (ai #[rs.v,ah #[O U (ch l).2.1,O U (ch l).2.2]])/\kg w.heap.size w' rs (ch l).1/\ay [] w w':=by
 refine(ady (T l) (λv w'=>∃rs:Sl,v=(ai #[rs.v,ah #[O U (ch l).2.1,O U (ch l).2.2]])/\kg w.heap.size w' rs (ch l).1/\ay [] w w') w ?_).mono (by
  rintro e w' ⟨v,rfl,rs,rfl,h⟩;exact⟨rs,rfl,h⟩)
 rw[bO];refine⟨λhc k0 w0 _ _ hO=>⟨Sl.nil,?_,?_,hO⟩,λhc k1 w1 ku jK cA=>(Hf w1).mono ?_⟩
 ·rw[ch,aR aan]
 ·rw[ch,aR aan];exact Own.nil _ _ _ _ _ _
 have Gn:l.length<=16384:=aao
 have Vl:ch l=match jl l 0 with
  | .error x=>([],x.1,(x.2:Nat))
  | .ok r=>(r,0,0):=by rw[ch,aO aE]
 rintro _ w2 ⟨ws,rfl,hws,cO⟩;refine⟨ws,rfl,cO.same aae,λb w3 hb mH da N0=>?_⟩;have dD:=cA.cn (cO.cn da);have z1:=cA.size;have z2:=cO.size;have z3:=da.size;have hC0:Cut w3 b l 0 Sl.nil []:=⟨⟨ws,N0,(SliceF.only db aL ((qh hws).inHeap db aL) da aM).mono db λk hk=>aE⟩,Own.nil _ _ _ _ _ _,hE.only dD,by have:=hE.lt;omega,bm _,Gn⟩
 have sm:∀{u u':av},w2.heap.size<=u.heap.size->aD (λk=>b<=k) u u'->cb [k1] u u':=λhu hO=>hO.same (by intro x hx;simp only[aQ]at hx;subst hx;omega);refine(LP N0 (bm _) aE).mono ?_;rintro _ w4 ⟨rfl,dR,S7⟩;have p4:aD (λk=>b<=k) w3 w4:=dR.p λx hx=>.inl aai;have hC4:Cut w4 b l (0+jd false (l.drop 0)) Sl.nil []:=hC0.move dR (Du (bm _)) λJ6 h'=>by
  have:J6=ws:=by
   unfold aF at h' N0;rw[h']at N0;simp[Sl.v]at N0;cases ws;cases J6;simp_all
  subst this;exact S7
 refine⟨rfl,sm aE p4,T l,_,ws,Sl.nil,S7,λnv e1 e2 s0 i0 l1 l2 w'=>e1=0/\e2=0/\s0=T l/\∃(i:Nat) (acc:List Tk),i0=(i:Int)/\Cut w' b l i l2 acc/\acc.length<=i/\jd false (l.drop i)=0/\jl l 0=iT acc (jl l i)/\nv=l.length-i/\aD (λk=>b<=k) w3 w'/\aF w' b 158 [ab (T l),O U (i:Int),l1.v,l2.v],l.length-(0+jd false (l.drop 0)),?_,?_⟩
 ·refine⟨rfl,rfl,rfl,_,[],rfl,hC4,bm _,?_,?_,rfl,p4,S7⟩
  ·rw[<-iP];exact nS false (l.drop 0)
  rw[<-lA (bm _)];cases jl l 0<;>rfl
 rintro nv _ _ _ _ l1 rs w5 ⟨rfl,rfl,rfl,i,acc,rfl,hC,eu,W5,ov,rfl,fe,JS⟩;have z5:=fe.size;have hil:=hC.il;refine(Sg JS).mono ?_;rintro _ w6 ⟨rfl,ez⟩;have hC6:=hC.only ez;have hb6:aF w6 b 158 [ab (T l),O U (i:Int),l1.v,rs.v]:=(ez.block b JS.lt aM).trans JS;have z6:=ez.size;have kP:=jg hC.il;rw[W5,gz]at kP;refine⟨_,rfl,ez.same aae,T l,i,l1,rs,hb6,λhc=>?_,λhc=>?_⟩
 ·have cd:i<l.length:=aaf
  rw[aO aE]at kP;refine(Qi hC6 aE cd).mono ?_;rintro _ w7 ⟨v,rfl,gD,hd⟩;have p7:aD (λk=>b<=k) w3 w7:=(fe.cn ez).trans gD λk hk=>.inl hk;have z7:=gD.size;unfold Kr at hd;cases hq:ki (l.drop i)with
  | error e=>
   rw[hq]at hd kP;obtain⟨rfl,rs7,hC7⟩:=hd;obtain⟨W6,Vm,_⟩:=hC7.blk;refine⟨e,rfl,sm aE gD,T l,i,W6,rs7,Vm,λ_ w8 gp _=>⟨Sl.nil,?_,?_,?_⟩,λhe=>absurd (Bm hq) aaR⟩
   ·rw[Vl,ov,kP];rfl
   ·rw[Vl,ov,kP];exact Own.nil _ _ _ _ _ _
   exact(((dD.p0 (F:=λk=>w.heap.size<=k)).trans p7 λk hk=>.inl aE).trans (gp.p (F:=λk=>k=k1) λx hx=>.inl aas) λk hk=>.inl aE).only λk hk=>hk
  | ok q=>
   rw[hq]at hd kP;obtain⟨rfl,rs7,hC7⟩:=hd;obtain⟨W6,Vm,_⟩:=hC7.blk;have Vb:=rW hq;have h7l:=hC7.il;refine⟨0,rfl,sm aE gD,T l,(i+q.2.2.2:Nat),W6,rs7,Vm,λhe=>(by simp at he),λ_=>(LP Vm h7l aE).mono ?_⟩;rintro _ w9 ⟨rfl,gr,W7⟩;have p9:aD (λk=>b<=k) w7 w9:=gr.p λx hx=>.inl aai;have hC9:=hC7.move gr (Du h7l) λJ6 h'=>by
    have:J6=W6:=by
     unfold aF at h' Vm;rw[h']at Vm;simp[Sl.v]at Vm;cases W6;cases J6;simp_all
    subst this;exact W7
   refine⟨rfl,sm aE p9,T l,_,W6,rs7,W7,l.length-(i+q.2.2.2+jd false (l.drop (i+q.2.2.2))),aE,rfl,rfl,rfl,_,_,rfl,hC9,?_,?_,?_,rfl,p7.trans p9 λk hk=>.inl hk,W7⟩
   ·rw[aN,bp];omega
   ·rw[<-iP];exact nS false _
   rw[ov,kP,<-lA h7l,<-Hi];dsimp only;cases jl l (i+q.2.2.2)<;>rfl
 have nE:l.length<=i:=aaf
 rw[aR nE]at kP;refine(Hg hC6 5 [] 0 0 0 aE aE).mono ?_;rintro _ dz ⟨rfl,dL,Vn,aaD⟩;obtain⟨agb,agc,_⟩:=aaD.blk;have p10:aD (λk=>b<=k) w3 dz:=(fe.cn ez).trans dL λk hk=>.inl hk;have htt:ch l=(acc++[⟨5,[],0,(i:Nat)⟩],0,0):=by
  rw[Vl,ov,kP];rfl
 refine⟨rfl,sm aE dL,T l,_,agb,Vn,agc,λdJ dW _=>⟨Vn,?_,?_,?_⟩⟩
 ·rw[htt]
 ·rw[htt];have:kg (b+1) dJ Vn _:=aaD.own.keep λk hk cd=>dW.block k cd aal;exact Own.low this aE
 exact(((dD.p0 (F:=λk=>w.heap.size<=k)).trans p10 λk hk=>.inl aE).trans (dW.p (F:=λk=>k=k1) λx hx=>.inl aas) λk hk=>.inl aE).only λk hk=>hk
inductive Ex where
 | mk (k n:Int) (s:aH) (op:Int) (subs:List Ex) (a:Int)
def Ex.k:Ex->Int | .mk k _ _ _ _ _=>k
def Ex.n:Ex->Int | .mk _ n _ _ _ _=>n
def Ex.s:Ex->aH | .mk _ _ s _ _ _=>s
def Ex.op:Ex->Int | .mk _ _ _ op _ _=>op
def Ex.dq:Ex->List Ex | .mk _ _ _ _ l _=>l
def Ex.a:Ex->Int | .mk _ _ _ _ _ a=>a
def tk0:Tk:=⟨5,[],0, -1⟩
def tk(ts:List Tk)(i:Nat):Tk:=(ts[i]?).getD tk0
def sg(ts:List Tk)(i:Nat)(s:aH):Bool:=(tk ts i).k==4&&decide ((tk ts i).t=s)
def eP(ts:List Tk)(i:Nat):Int×Int:=(if(tk ts i).k=5 then 3 else 4,(tk ts i).a)
theorem yg{ts:List Tk}{i:Nat}(h:i<ts.length):ts[i]? =some (tk ts i):=by
 unfold tk;rw[bJ h];rfl
def od(ts:List Tk):Prop:=∀i,i<ts.length->((tk ts i).k=5↔i+1=ts.length)
theorem od.next{ts:List Tk}(h:od ts){i:Nat}(hi:i<ts.length)(hk:(tk ts i).k≠5):i+1<ts.length:=by
 have h2:¬(i+1=ts.length):=λe=>hk ((h i hi).2 e);omega
theorem sK{ts:List Tk}{i:Nat}{s:aH}(h:sg ts i s=true):(tk ts i).k≠5:=by
 simp only[sg,aP,dy]at h;rw[h.1];decide
def qp:List (aH):=[[],[43],[45],[42],[47],[37],[60],[60,61],[62],[62,61],[61,61],[33,61],[38,38],[124,124],[45],[33]]
def eE(op:Int):Int:=if 3<=op/\op<=5 then 5 else if op=1∨op=2 then 4 else if 6<=op/\op<=9 then 3 else if op=10∨op=11 then 2 else if op=12 then 1 else if op=13 then 0 else 6
def dl(op:Nat):aH:=(qp[op]?).getD []
def iA(ts:List Tk)(k:Int)(i:Nat):Nat->Nat->Int
 | 0,_=>0
 | f+1,op=>if eE (op:Int)=k/\sg ts i (dl op)=true then(op:Int)else iA ts k i f (op+1)
def iU(ts:List Tk)(k:Int)(i:Nat):Int:=iA ts k i 13 1
theorem mT{ts:List Tk}{k:Int}{i:Nat}:∀(f op:Nat),iA ts k i f op≠0->(tk ts i).k≠5
 | 0,_,h=>absurd rfl h
 | f+1,op,h=>by
  rw[iA]at h;split at h
  ·rename_i hc;exact sK hc.2
  exact mT f _ h
abbrev Pr:=Except (Int×Int) (Ex×Nat)
def Dx(g:Ex->Ex):Pr->Pr
 | .error e=>.error e
 | .ok (x,j)=>.ok (g x,j)
def yh:Pr->(Ex->Nat->Pr)->Pr
 | .error e,_=>.error e
 | .ok (x,j),g=>g x j
def pN(ts:List Tk):Pr->Pr
 | .error e=>.error e
 | .ok (x,j)=>if sg ts j [41]then .ok (x,j+1)else .error (eP ts j)
def im(d:Nat)(a:Int)(r:Pr):Pr:=if d=20 then .error (21,a)else r
def yi(ts:List Tk)(i:Nat):Pr:=
 if sg ts (i+1) [40]then
  (if(tk ts (i+2)).k=1 then
   (if sg ts (i+3) [41]then .ok (.mk 3 0 (tk ts (i+2)).t 0 [] (tk ts i).a,i+4)else .error (eP ts (i+3)))
  else .error (eP ts (i+2)))
 else .error (eP ts (i+1))
def mP(ts:List Tk)(E0 One:Nat->Pr)(d i:Nat):Pr:=
 if(sg ts i [45]||sg ts i [33])=true then Dx (λx=>.mk 4 0 [] (if(tk ts i).t=[33]then 15 else 14) [x] (tk ts i).a) (im d (tk ts i).a (One (i+1)))
 else if sg ts i [40]=true then im d (tk ts i).a (pN ts (E0 (i+1)))
 else if(tk ts i).k=3 then .ok (.mk 1 (tk ts i).n [] 0 [] (tk ts i).a,i+1)
 else if(tk ts i).k=1 then .ok (.mk 2 0 (tk ts i).t 0 [] (tk ts i).a,i+1)
 else if(tk ts i).k=2/\(tk ts i).t=[105,110]then yi ts i
 else .error (eP ts i)
def gU(ts:List Tk)(E:Nat->Pr)(k:Int):Nat->Ex->Nat->Pr
 | 0,x,j=>.ok (x,j)
 | g+1,x,j=>if iU ts k j=0 then .ok (x,j)else yh (E (j+1)) λy j'=>gU ts E k g (.mk 5 0 [] (iU ts k j) [x,y] x.a) j'
def cK(ts:List Tk):Nat->Nat->Nat->Nat->Pr
 | 0,_,_,_=>.error (1,0)
 | f+1,k,d,i=>if k=6 then mP ts (cK ts f 0 (d+1)) (cK ts f 6 (d+1)) d i else yh (cK ts f (k+1) d i) λx j=>gU ts (cK ts f (k+1) d) (k:Int) (ts.length-j) x j
theorem wX{g:Ex->Ex}{r:Pr}{x:Ex}{j:Nat}(h:Dx g r=.ok (x,j)):∃y,r=.ok (y,j)/\x=g y:=by
 cases r with
 | error e=>cases h
 | ok q=>
  obtain⟨y,j'⟩:=q;simp only[Dx,eG,eK]at h;obtain⟨rfl,rfl⟩:=h;exact⟨y,rfl,rfl⟩
theorem oW{d:Nat}{a:Int}{r:Pr}{q:Ex×Nat}(h:im d a r=.ok q):r=.ok q/\d≠20:=by
 unfold im at h;split at h
 ·cases h
 exact⟨h,by assumption⟩
theorem wY{ts:List Tk}{r:Pr}{x:Ex}{j:Nat}(h:pN ts r=.ok (x,j)):∃j',r=.ok (x,j')/\sg ts j' [41]=true/\j=j'+1:=by
 cases r with
 | error e=>cases h
 | ok q=>
  obtain⟨y,j'⟩:=q;simp only[pN]at h;split at h
  ·simp only[eG,eK]at h;obtain⟨rfl,rfl⟩:=h;exact⟨j',rfl,by assumption,rfl⟩
  cases h
theorem uq{r:Pr}{g:Ex->Nat->Pr}{q:Ex×Nat}(h:yh r g=.ok q):∃x j,r=.ok (x,j)/\g x j=.ok q:=by
 cases r with
 | error e=>cases h
 | ok p=>exact⟨p.1,p.2,rfl,h⟩
theorem FD{ts:List Tk}{i:Nat}{x:Ex}{j:Nat}(h:yi ts i=.ok (x,j)):j=i+4/\x=.mk 3 0 (tk ts (i+2)).t 0 [] (tk ts i).a:=by
 unfold yi at h;split at h
 ·split at h
  ·split at h
   ·simp only[eG,eK]at h;exact⟨h.2.symm,h.1.symm⟩
   cases h
  cases h
 cases h
theorem Jk{ts:List Tk}{E0 One:Nat->Pr}{d i:Nat}{x:Ex}{j:Nat}(hE:∀i x j,E0 i=.ok (x,j)->i<j)(hO:∀i x j,One i=.ok (x,j)->i<j)(h:mP ts E0 One d i=.ok (x,j)):i<j:=by
 unfold mP at h;split at h
 ·obtain⟨y,h1,_⟩:=wX h;have:=hO _ _ _ (oW h1).1;omega
 split at h
 ·obtain⟨j',h1,_,rfl⟩:=wY (oW h).1;have:=hE _ _ _ h1;omega
 split at h
 ·simp only[eG,eK]at h;omega
 split at h
 ·simp only[eG,eK]at h;omega
 split at h
 ·have:=(FD h).1;omega
 cases h
theorem yj{ts:List Tk}{E:Nat->Pr}{k:Int}(hE:∀i x j,E i=.ok (x,j)->i<j):∀(g:Nat) (x:Ex) (j:Nat) {x':Ex} {j':Nat},gU ts E k g x j=.ok (x',j')->j<=j'
 | 0,x,j,x',j',h=>by
  simp only[gU,eG,eK]at h;omega
 | g+1,x,j,x',j',h=>by
  rw[gU]at h;split at h
  ·simp only[eG,eK]at h;omega
  obtain⟨y,m,h1,h2⟩:=uq h;have:=hE _ _ _ h1;have:=yj hE g _ _ h2;omega
theorem jx{ts:List Tk}:∀(f k d i:Nat) {x:Ex} {j:Nat},cK ts f k d i=.ok (x,j)->i<j
 | 0,_,_,_,_,_,h=>aah
 | f+1,k,d,i,x,j,h=>by
  rw[cK]at h;split at h
  ·exact Jk (λi x j h=>jx f _ _ i h) (λi x j h=>jx f _ _ i h) h
  obtain⟨y,m,h1,h2⟩:=uq h;have:=jx f _ _ _ h1;have:=yj (λi x j h=>jx f _ _ i h) _ _ _ h2;omega
def fj(k d:Nat):Nat:=(20-d)*8+(7-k)
def oe(ts:List Tk)(i:Nat):Pr:=cK ts (fj 0 0) 0 0 i
structure Rd (F G:aJ) (ts:List Tk) (w:av) (b:Nat) (l sn:Sl) (i:Nat) (fc fa d:Int):Prop where
 blk:aF w b 280 [l.v,O U (i:Int),O U fc,O U fa,O U d,sn.v]
 tok:aA Bl 4 w F l ts
 sig:aA jR 1 w G sn qp
 hF:∀k,F k->k<b
 hG:∀k,G k->k<b
 en:od ts
 lt:i<ts.length
section
variable {F G:aJ} {ts:List Tk} {w w':av} {b:Nat} {l sn:Sl} {i:Nat} {fc fa d:Int}
theorem Rd.only(h:Rd F G ts w b l sn i fc fa d)(hO:ay [] w w'):Rd F G ts w' b l sn i fc fa d:=
 ⟨hO.blk h.blk aM,SliceF.only fX aL h.tok hO aM,SliceF.only db aL h.sig hO aM,h.hF,h.hG,h.en,h.lt⟩
theorem Rd.j5(h:Rd F G ts w b l sn i fc fa d)(hO:ay [b] w w'){i':Nat}{fc' fa' d':Int}(hB:aF w' b 280 [l.v,O U (i':Int),O U fc',O U fa',O U d',sn.v])(hi:i'<ts.length):Rd F G ts w' b l sn i' fc' fa' d':=
 ⟨hB,SliceF.only fX aL h.tok hO λk hk _ hm=>by have:=h.hF k hk;simp only[aQ]at hm;omega,SliceF.only db aL h.sig hO λk hk _ hm=>aav,h.hF,h.hG,h.en,hi⟩
theorem Rd.own(h:Rd F G ts w b l sn i fc fa d){bs:List Nat}(hO:ay bs w w')(hb:∀x,x∈bs->b<x):Rd F G ts w' b l sn i fc fa d:=
 ⟨hO.blk h.blk λhm=>by have:=hb b hm;omega,SliceF.only fX aL h.tok hO λk hk _ hm=>aaX,SliceF.only db aL h.sig hO λk hk _ hm=>(by have:=h.hG k hk;have:=hb k hm;omega),h.hF,h.hG,h.en,h.lt⟩
theorem Rd.lb(h:Rd F G ts w b l sn i fc fa d):b<w.heap.size:=h.blk.lt
theorem Rd.big(h:Rd F G ts w b l sn i fc fa d):ts.length<=9223372036854775807:=by
 have h1:=h.tok.len;have h2:=h.tok.cap;have h3:=h.tok.big;omega
theorem Rd.now(h:Rd F G ts w b l sn i fc fa d):∃ad,dN l (i:Int) 4 ad/\aB w ad [O U (tk ts i).k,ab (T (tk ts i).t),O U (tk ts i).n,O U (tk ts i).a]:=by
 have hl:=h.tok.len;have cd:=h.lt;obtain⟨ad,x,cs,g1,g2,g3,g4,g5,g6⟩:=h.tok.get (bc i) aE;rw[ba,yg h.lt]at g2;injection g2 with g2;subst g2;unfold Bl at g6;subst g6;exact⟨ad,g1,g5⟩
theorem Dy(h:Rd F G ts w b l sn i fc fa d):az aq 259 #[ae (some ⟨b,0,none⟩)] w λe w'=>e=ak (tk ts i).v/\ay [] w w':=by
 refine ret (adH _ _ _ ?_);intro k0 w0 hk wM hO;have h0:=h.only hO;obtain⟨ad,g1,g2⟩:=h0.now;exact⟨l,Blk.eo h0.blk 0 rfl,_,Blk.eo h0.blk 1 rfl,ad,g1,_,_,_,_,g2,λw1 cA=>⟨rfl,hO.new cA hk⟩⟩
theorem zT(h:Rd F G ts w b l sn i fc fa d):az aq 226 #[ae (some ⟨b,0,none⟩)] w λe w'=>e=ak (aj (fc !=0))/\ay [] w w':=by
 refine ret (v7w _ _ _ ?_);exact⟨fc,Blk.eo h.blk 2 rfl,rfl,Only.refl _ _⟩
theorem Bn(h:Rd F G ts w b l sn i fc fa d)(c:Int):az aq 267 #[ae (some ⟨b,0,none⟩),O U c] w λe w'=>e=ak (ai #[])/\ay [b] w w'/\
  Rd F G ts w' b l sn i (if fc=0 then c else fc) (if fc=0 then(tk ts i).a else fa) d:=by
 refine ret (adJ _ _ _ _ ?_);refine(zT h).mono ?_;rintro _ w0 ⟨rfl,cw⟩;have h0:=h.only cw;refine⟨_,rfl,λhc=>(Dy h0).mono ?_,λhc=>?_⟩
 ·have hc:fc=0:=aaf
  subst hc;rintro _ w1 ⟨rfl,cA⟩;have h1:=h0.only cA;refine⟨_,_,_,_,rfl,b,2,_,_,rfl,h1.blk,aM,λw2 cO kQ=>⟨rfl,(cw.cn cA).weaken (λ_ h=>aah) |>.trans cO (λx hx=>.inl hx),?_⟩⟩;rw[aR rfl,aR rfl];exact h1.j5 cO kQ h.lt
 have hc:fc≠0:=aaf
 rw[aO hc,aO hc];exact⟨rfl,cw.weaken λ_ h=>aah,h0⟩
theorem Bo(h:Rd F G ts w b l sn i fc fa d):az aq 265 #[ae (some ⟨b,0,none⟩)] w λe w'=>e=ak (ai #[])/\ay [b] w w'/\
  Rd F G ts w' b l sn i (if fc=0 then(eP ts i).1 else fc) (if fc=0 then(eP ts i).2 else fa) d:=by
 refine ret (adL _ _ _ ?_);refine⟨λw'=>ay [b] w w'/\((tk ts i).k=5->Rd F G ts w' b l sn i (if fc=0 then 3 else fc) (if fc=0 then(tk ts i).a else fa) d)/\((tk ts i).k≠5->Rd F G ts w' b l sn i fc fa d),?_,(Dy h).mono ?_⟩
 ·rintro w0 ⟨cw,h1,h2⟩;by_cases hk:(tk ts i).k=5
  ·refine(Bn (h1 hk) 4).mono ?_;rintro _ w1 ⟨rfl,cA,hR⟩;refine⟨rfl,rfl,cw.trans cA (λx hx=>.inl hx),?_⟩;unfold eP;rw[aR hk];by_cases hc:fc=0
   ·rw[aR hc,aR hc,aO aL,aO aL]at hR;rw[aR hc,aR hc];exact hR
   rw[aO hc,aO hc,aO hc,aO hc]at hR;rw[aO hc,aO hc];exact hR
  refine(Bn (h2 hk) 4).mono ?_;rintro _ w1 ⟨rfl,cA,hR⟩;refine⟨rfl,rfl,cw.trans cA (λx hx=>.inl hx),?_⟩;unfold eP;rw[aO hk];exact hR
 rintro _ w2 ⟨rfl,cO⟩;have h2:=h.only cO;refine⟨_,_,_,_,rfl,λhc=>(Bn h2 3).mono ?_,λhc=>⟨cO.weaken λ_ h=>aah,λe=>?_,λ_=>h2⟩⟩
 ·rintro _ w3 ⟨rfl,da,hR⟩;exact⟨rfl,cO.weaken (λ_ h=>aah) |>.trans da (λx hx=>.inl hx),λ_=>hR,λe=>absurd aaf e⟩
 rw[e]at hc;simp at hc
theorem YZ(h:Rd F G ts w b l sn i fc fa d){H:aJ}{s:Sl}{ss:List (aH)}(hs:aA jR 1 w H s ss):az aq 260 #[ae (some ⟨b,0,none⟩),s.v] w λe w'=>
  e=ak (aj (fc==0&&(tk ts i).k==4&&ss.contains (tk ts i).t))/\ay [] w w':=by
 refine ret (v8w _ _ _ _ ?_);refine(Dy h).mono ?_;rintro _ w0 ⟨rfl,cw⟩;refine⟨_,_,_,_,rfl,λk0 w1 hk wM cA=>⟨λc w'=>c=(fc==0&&(tk ts i).k==4&&ss.contains (tk ts i).t)/\ay [] w w',λc w2 h2=>⟨by rw[h2.1],h2.2⟩,?_⟩⟩;have gK:=cw.cn cA;refine(zT (h.only gK)).mono ?_;rintro _ w3 ⟨rfl,da⟩;have e:(!(fc !=0))=(fc==0):=by cases h:(fc==0)<;>simp[bne,h]
 refine⟨_,rfl,da.same aae,λhc=>(qR (SliceF.only db aL hs (gK.cn da) aM) _).mono ?_,λhc=>⟨?_,gK.cn da⟩⟩
 ·rintro _ w4 ⟨rfl,dR⟩;rw[e]at hc;have hl:=h.lb;have z3:=da.size;exact⟨_,rfl,dR.same aae,by rw[hc,bS],gK.cn (da.cn dR)⟩
 rw[e]at hc;rw[hc,dk]
theorem is1(h:Rd F G ts w b l sn i fc fa d)(s:aH):∃(s0:Sl) (w0:av),(au 41 1 #[.mk 0 (ab (T s))]).run aq w=.ok s0.v w0/\ay [] w w0/\
  az aq 260 #[ae (some ⟨b,0,none⟩),s0.v] w0 λe w'=>e=ak (aj (fc==0&&sg ts i s))/\ay [] w0 w':=by
 obtain⟨s0,w0,k1,k2,k3⟩:=iR w [s] (n:=1) (parts:=#[(0,ab (T s))]) rfl rfl aL aL;refine⟨s0,w0,k1,k3,(YZ (h.only k3) (qh k2)).mono ?_⟩;rintro _ w1 ⟨rfl,cA⟩;have e:[s].contains (tk ts i).t=decide ((tk ts i).t=s):=by
  by_cases e:(tk ts i).t=s
  ·rw[bE e,e];simp
  rw[bq e];simp[e]
 refine⟨?_,cA⟩;unfold sg;rw[sX,e]
theorem is2(h:Rd F G ts w b l sn i fc fa d):∃(s0:Sl) (w0:av),(au 41 2 #[.mk 0 (ab (ao #[45])),.mk 1 (ab (ao #[33]))]).run aq w=.ok s0.v w0/\ay [] w w0/\
  az aq 260 #[ae (some ⟨b,0,none⟩),s0.v] w0 λe w'=>e=ak (aj (fc==0&&(sg ts i [45]||sg ts i [33])))/\ay [] w0 w':=by
 obtain⟨s0,w0,k1,k2,k3⟩:=iR w [[45],[33]] (n:=2) (parts:=#[(0,ab (T [45])),(1,ab (T [33]))]) rfl rfl aL aL;refine⟨s0,w0,k1,k3,(YZ (h.only k3) (qh k2)).mono ?_⟩;rintro _ w1 ⟨rfl,cA⟩;have e:[[45],[33]].contains (tk ts i).t=(decide ((tk ts i).t=[45])||decide ((tk ts i).t=[33])):=by
  rw[bH];simp
 refine⟨?_,cA⟩;unfold sg;rw[sX,<-Bool.and_or_distrib_left,e]
theorem ym(h:Rd F G ts w b l sn i fc fa d)(s:aH):az aq 263 #[ae (some ⟨b,0,none⟩),ab (T s)] w λe w'=>e=ak (ai #[])/\ay [b] w w'/\
  (if fc==0&&sg ts i s then Rd F G ts w' b l sn (i+1) fc fa d else Rd F G ts w' b l sn i (if fc=0 then(eP ts i).1 else fc) (if fc=0 then(eP ts i).2 else fa) d):=by
 refine ret (v9w _ _ _ _ ?_);obtain⟨s0,w0,k1,k2,k3⟩:=is1 h s;refine⟨s0,w0,k1,k3.mono ?_⟩;rintro _ w1 ⟨rfl,cA⟩;have h1:=h.only (k2.cn cA);have gK:ay [b] w w1:=(k2.cn cA).weaken λ_ h=>aah
 refine⟨_,rfl,λhc=>(Bo h1).mono ?_,λhc=>?_⟩
 ·rintro _ w2 ⟨rfl,cO,hR⟩;have hc:(fc==0&&sg ts i s)=false:=by rwa[cP]at hc
  rw[hc];exact⟨rfl,rfl,gK.trans cO (λx hx=>.inl hx),hR⟩
 have hc:(fc==0&&sg ts i s)=true:=by rwa[gv]at hc
 rw[hc];simp only[aP]at hc;have hn:=h.en.next h.lt (sK hc.2);have hb:=h.big;refine⟨(i:Int),Blk.eo h1.blk 1 rfl,b,1,_,_,rfl,h1.blk,aM,λw3 da sT=>⟨rfl,gK.trans da (λx hx=>.inl hx),h1.j5 da ?_ hn⟩⟩;rw[fS aE aE]at sT;exact sT
theorem Hj(h:Rd F G ts w b l sn i fc fa d):az aq 264 #[ae (some ⟨b,0,none⟩)] w λe w'=>ay [b] w w'/\
  (if fc=0/\(tk ts i).k=1 then e=ak (ab (T (tk ts i).t))/\Rd F G ts w' b l sn (i+1) fc fa d else e=ak (ab (T []))/\Rd F G ts w' b l sn i (if fc=0 then(eP ts i).1 else fc) (if fc=0 then(eP ts i).2 else fa) d):=by
 refine(adM ⟨b,0,none⟩ (λv w'=>ay [b] w w'/\(if fc=0/\(tk ts i).k=1 then v=(ab (T (tk ts i).t))/\Rd F G ts w' b l sn (i+1) fc fa d else v=(ab (T []))/\Rd F G ts w' b l sn i (if fc=0 then(eP ts i).1 else fc) (if fc=0 then(eP ts i).2 else fa) d)) w ?_).mono (by
  rintro e w' ⟨v,rfl,hO,hv⟩;refine⟨hO,?_⟩;split at hv
  ·rename_i hc;rw[aR hc];exact⟨by rw[hv.1],hv.2⟩
  rename_i hc;rw[aO hc];exact⟨by rw[hv.1],hv.2⟩)
 refine(Dy h).mono ?_;rintro _ w0 ⟨rfl,cw⟩;refine⟨_,_,_,_,rfl,λk0 w1 hk wM cA=>?_⟩;have gK:=cw.cn cA;have z0:=cw.size;have hl:=h.lb;refine(zT (h.only gK)).mono ?_;rintro _ w2 ⟨rfl,cO⟩;have z2:=cO.size;have h2:=h.only (gK.cn cO);have j6:ay [b] w w2:=(gK.cn cO).weaken λ_ h=>aah
 refine⟨_,rfl,cO.same aae,λhc=>(Bo h2).mono ?_,λhc=>?_⟩
 ·rintro _ w3 ⟨rfl,da,hR⟩;refine⟨rfl,da.same aae,j6.trans da (λx hx=>.inl hx),?_⟩;rw[aO (λhh=>by rw[hh.1,hh.2]at hc;simp at hc)];exact⟨rfl,hR⟩
 have hc:fc=0/\(tk ts i).k=1:=aaf
 have hn:=h.en.next h.lt (by rw[hc.2];decide);have hb:=h.big;refine⟨(i:Int),Blk.eo h2.blk 1 rfl,b,1,_,_,rfl,h2.blk,aM,aE,λw3 da sT=>⟨j6.trans da (λx hx=>.inl hx),?_⟩⟩;rw[aR hc];refine⟨rfl,h2.j5 da ?_ hn⟩;rw[fS aE aE]at sT;exact sT
end
theorem FE(w:av)(op:Int):az aq 232 #[O U op] w λe w'=>e=ak (O U (eE op))/\w'=w:=by
 refine ret (adO _ _ _ ?_);have fin:∀{k:Int} {w1:av},eE op=k->(Value.int U k=O U (eE op)/\w1=w1):=λe=>⟨by rw[e],rfl⟩
 refine⟨λh=>fin ?_,λh=>⟨λb w'=>b=decide (op=1∨op=2)/\w'=w,?_,λh1=>⟨?_,rfl⟩,λh1=>⟨?_,rfl⟩⟩⟩
 ·simp only[aP,bC]at h;unfold eE;rw[aR aE]
 ·rintro _ w1 ⟨rfl,rfl⟩;have h:¬(3<=op/\op<=5):=λhh=>by rw[bE hh.1,bE hh.2]at h;cases h
  refine⟨λh1=>fin ?_,λh1=>⟨λh2=>fin ?_,λh2=>⟨λb w2=>b=decide (op=10∨op=11)/\w2=w1,?_,λh3=>⟨?_,rfl⟩,λh3=>⟨?_,rfl⟩⟩⟩⟩
  ·have h1:=aV h1;unfold eE;rw[aO h,aR h1]
  ·have h1:=aW h1;simp only[aP,bC]at h2;unfold eE;rw[aO h,aO h1,aR aE]
  ·rintro _ _ ⟨rfl,rfl⟩;have h1:=aW h1;have h2:¬(6<=op/\op<=9):=λhh=>by rw[bE hh.1,bE hh.2]at h2;cases h2
   refine⟨λh3=>fin ?_,λh3=>⟨λh4=>fin ?_,λh4=>⟨λh5=>fin ?_,λh5=>fin ?_⟩⟩⟩
   ·have h3:=aV h3;unfold eE;rw[aO h,aO h1,aO h2,aR h3]
   ·have h3:=aW h3;have h4:op=12:=ab4
    unfold eE;rw[aO h,aO h1,aO h2,aO h3,aR h4]
   ·have h3:=aW h3;have h4:¬op=12:=ab4
    have h5:op=13:=by simpa using h5
    unfold eE;rw[aO h,aO h1,aO h2,aO h3,aO h4,aR h5]
   have h3:=aW h3;have h4:¬op=12:=ab4
   have h5:¬op=13:=by simpa using h5
   unfold eE;rw[aO h,aO h1,aO h2,aO h3,aO h4,aO h5]
  ·have h3:op=10:=by simpa using h3
   rw[h3];rfl
  have h3:¬op=10:=by simpa using h3
  rw[bH];simp[h3]
 ·have h1:op=1:=aaz
  rw[h1];rfl
 have h1:¬op=1:=aaz
 rw[bH];simp[h1]
section
variable {F G:aJ} {ts:List Tk} {w w':av} {b:Nat} {l sn:Sl} {i:Nat} {fc fa d:Int}
theorem yp(h:Rd F G ts w b l sn i fc fa d)(k:Int):az aq 247 #[ae (some ⟨b,0,none⟩),O U k] w λe w'=>e=ak (O U (if fc=0 then iU ts k i else 0))/\ay [] w w':=by
 refine ret (adN _ _ _ _ ?_);refine⟨λnv i0 w'=>∃op:Nat,1<=op/\op<=14/\i0=(op:Int)/\nv=14-op/\(if fc=0 then iU ts k i else 0)=(if fc=0 then iA ts k i (14-op) op else 0)/\ay [] w w',13,⟨1,aL,aL,rfl,rfl,rfl,Only.refl _ _⟩,?_⟩;rintro nv _ w0 ⟨op,h1,h2,rfl,rfl,hV,cw⟩;refine⟨λhc=>?_,λhc=>?_⟩
 ·have hc:(op:Int)<=13:=aV hc;obtain⟨m,hm⟩:∃m,14-op=m+1:=⟨13-op,aE⟩
  rw[hm,iA]at hV;refine⟨λc w'=>c=(decide (eE (op:Int)=k)&&(fc==0&&sg ts i (dl op)))/\ay [] w w',?_,λw2 cO=>(FE w2 _).mono ?_⟩
  ·rintro _ w1 ⟨rfl,cA⟩;refine⟨λhb=>⟨?_,cA⟩,λhb=>⟨m,aE,op+1,aE,aE,aad,aE,?_,cA⟩⟩
   ·simp only[aP,bC,dy]at hb;rw[hV,aR hb.2.1,aR ⟨hb.1,hb.2.2⟩]
   rw[hV,show 14-(op+1)=m by omega];by_cases h0:fc=0
   ·rw[aR h0,aR h0,aO];rintro⟨e1,e2⟩;rw[bE e1,e2,h0]at hb;simp at hb
   rw[aO h0,aO h0]
  rintro _ w3 ⟨rfl,rfl⟩;have h3:=h.only (cw.cn cO);refine⟨_,rfl,λhk=>?_,λhk=>?_⟩
  ·have hk:eE (op:Int)=k:=aak
   have hn:=h3.sig.len;have hol:qp.length=16:=rfl;obtain⟨ad,x,cs,g1,g2,g3,g4,g5,g6⟩:=h3.sig.get (i:=(op:Int)) aE aE;unfold jR at g6;subst g6;rw[ba]at g2;have hx:dl op=x:=by unfold dl;rw[g2];rfl
   subst hx;obtain⟨s0,w4,k1,k2,k3⟩:=is1 h3 (dl op);refine⟨sn,Blk.eo h3.blk 5 rfl,ad,g1,_,g5,s0,w4,k1,k3.mono ?_⟩;rintro _ w5 ⟨rfl,fe⟩;exact⟨_,rfl,by rw[bE hk,bS],cw.cn (cO.cn (k2.cn fe))⟩
  have hk:¬eE (op:Int)=k:=aak
  exact⟨by rw[bq hk,dk],cw.cn cO⟩
 have hc:¬(op:Int)<=13:=aW hc;have:op=14:=aE
 subst this;rw[hV];refine⟨?_,cw⟩;split<;>rfl
end
abbrev kD(k n:Int)(s:aH)(op:Int)(sl:Sl)(a:Int):aI:=[O U k,O U n,ab (T s),O U op,sl.v,O U a]
inductive RXN (w:av) (N:aJ):Nat->Nat->Ex->aI->Prop
 | leaf (lo hi:Nat) (k n:Int) (s:aH) (op a:Int):RXN w N lo hi (.mk k n s op [] a) (kD k n s op Sl.nil a)
 | one (lo m g hi:Nat) (k n:Int) (s:aH) (op a:Int) (x:Ex) (cs:aI):RXN w N lo m x cs->lo<=g->m<=g->g<hi->¬N g->aF w g 40 cs->RXN w N lo hi (.mk k n s op [x] a) (kD k n s op ⟨some ⟨g,0,none⟩,1,1⟩ a)
 | two (lo m m' m2 g hi:Nat) (k n:Int) (s:aH) (op a:Int) (x y:Ex) (cs ds:aI):RXN w N lo m x cs->m<=m'->RXN w N m' m2 y ds->lo<=m'->m<=g->m'<=g->m2<=g->g<hi->¬N g->aF w g 40 (cs++ds)->RXN w N lo hi (.mk k n s op [x,y] a) (kD k n s op ⟨some ⟨g,0,none⟩,2,2⟩ a)
abbrev RX(w:av):Nat->Nat->Ex->aI->Prop:=RXN w λ_=>False
section
variable {w w':av} {N N':aJ} {lo hi:Nat} {x:Ex} {cs:aI}
theorem RXN.keep(h:RXN w N lo hi x cs):(∀k,lo<=k->k<hi->¬N k->k<w.heap.size->w'.heap[k]? =w.heap[k]?)->RXN w' N lo hi x cs:=by
 induction h with
 | leaf lo hi k n s op a=>exact λ_=>.leaf ..
 | one lo m g hi k n s op a x cs h1 h2 h3 h4 hn h5 ih=>
  intro hk;exact .one lo m g hi k n s op a x cs (ih λj h6 h7 h8=>hk j h6 aE h8) h2 h3 h4 hn ((hk g h2 h4 hn h5.lt).trans h5)
 | two lo m m' m2 g hi k n s op a x y cs ds h1 h2 h3 h4 h5 h6 h7 h8 hn h9 zy CE=>
  intro hk;exact .two lo m m' m2 g hi k n s op a x y cs ds (zy λj a1 a2 a3=>hk j a1 aE a3) h2 (CE λj a1 a2 a3=>hk j aE aE a3) h4 h5 h6 h7 h8 hn ((hk g aE h8 hn h9.lt).trans h9)
theorem RXN.wide(h:RXN w N lo hi x cs):∀{W8 yP:Nat},W8<=lo->hi<=yP->RXN w N W8 yP x cs:=by
 induction h with
 | leaf lo hi k n s op a=>exact λ_ _=>.leaf ..
 | one lo m g hi k n s op a x cs h1 h2 h3 h4 hn h5 ih=>
  intro W8 yP a1 a2;exact .one W8 m g yP k n s op a x cs (ih a1 (aY _)) aE h3 aE hn h5
 | two lo m m' m2 g hi k n s op a x y cs ds h1 h2 h3 h4 h5 h6 h7 h8 hn h9 zy CE=>
  intro W8 yP a1 a2;exact .two W8 m m' m2 g yP k n s op a x y cs ds (zy a1 (aY _)) h2 h3 aE h5 h6 h7 aE hn h9
theorem RXN.Ax(h:RXN w N lo hi x cs):(∀k,lo<=k->k<hi->¬N k->¬N' k)->RXN w N' lo hi x cs:=by
 induction h with
 | leaf lo hi k n s op a=>exact λ_=>.leaf ..
 | one lo m g hi k n s op a x cs h1 h2 h3 h4 hn h5 ih=>
  intro hk;exact .one lo m g hi k n s op a x cs (ih λj h6 h7=>hk j h6 aE) h2 h3 h4 (hk g h2 h4 hn) h5
 | two lo m m' m2 g hi k n s op a x y cs ds h1 h2 h3 h4 h5 h6 h7 h8 hn h9 zy CE=>
  intro hk;exact .two lo m m' m2 g hi k n s op a x y cs ds (zy λj a1 a2=>hk j a1 aE) h2 (CE λj a1 a2=>hk j aE aE) h4 h5 h6 h7 h8 (hk g aE h8 hn) h9
theorem RXN.cells(h:RXN w N lo hi x cs):∃sl:Sl,cs=kD x.k x.n x.s x.op sl x.a/\(sl.n=x.dq.length):=by
 cases h with
 | leaf=>exact⟨_,rfl,rfl⟩
 | one=>exact⟨_,rfl,rfl⟩
 | two=>exact⟨_,rfl,rfl⟩
theorem RXN.only(h:RXN w N lo hi x cs){bs:List Nat}(hO:ay bs w w')(hb:∀k,k∈bs->k<lo∨hi<=k∨N k):RXN w' N lo hi x cs:=
 h.keep λk h1 h2 hn h3=>hO.block k h3 λhm=>by
  rcases hb k hm with e | e | e
  ·omega
  ·omega
  exact hn e
end
theorem Bp(w:av)(vs:List (aI))(hv:∀v,v∈vs->v.length=6)(h0:0<vs.length)(hm:vs.length<=100){parts:Array (Nat×aw)}(hp:parts=(((vs.map λv=>Value.agg v.toArray).zipIdx 0).map λx=>(x.2,x.1)).toArray):
  ∃w',(au 38 vs.length parts).run aq w=.ok (Sl.v ⟨some ⟨w.heap.size,0,none⟩,vs.length,vs.length⟩) w'/\aF w' w.heap.size 40 vs.flatten/\ay [] w w':=by
 have hc:((vs.map λv=>Value.agg v.toArray).flatMap λv=>v.cells.toList)=vs.flatten:=by
  clear hv h0 hm hp
  induction vs with
  | nil=>rfl
  | cons v vs ih=>rw[bG,List.flatMap_cons,ih,dw];rfl
 have hs:Tryz.t40.size=6:=rfl;have tN:=run_buildSlice (P:=aq) w 38 40 vs.length parts ((vs.map λv=>Value.agg v.toArray).flatMap λv=>v.cells.toList).toArray Tryz.t40 _ (by kernel_rfl) (by kernel_rfl) rfl (by rw[hs];omega) (by rw[hs];omega)
  (by
   subst hp;rw[ij,hs];refine Go.Great.fill_whole (s:=6) aL (vs.map λv=>Value.agg v.toArray) _ (λv hm=>?_) ?_
   ·obtain⟨x,hx,rfl⟩:=rL.1 hm;have:=hv x hx;simpa[Value.cells]using this
   simp)
 rw[hc]at tN;exact⟨_,tN,Blk.alloc w _ _,Only.alloc _ _⟩
def Y1(v:aw):Prop:=∃(k n:Int) (s:aH) (op:Int) (sl:Sl) (a:Int),v=ah (kD k n s op sl a).toArray
def og(F G:aJ)(ts:List Tk)(w w':av)(b:Nat)(l sn:Sl)(d:Nat)(r:Pr)(v:aw):Prop:=ay [b] w w'/\match r with
 | .ok (x,j)=>∃cs,v=ah cs.toArray/\RX w' w.heap.size w'.heap.size x cs/\Rd F G ts w' b l sn j 0 0 (d:Int)
 | .error e=>e.1≠0/\Y1 v/\∃j,Rd F G ts w' b l sn j e.1 e.2 (d:Int)
section
variable {F G:aJ} {ts:List Tk} {w w':av} {b:Nat} {l sn:Sl} {i:Nat} {fc fa d:Int}
theorem ff:(eP ts i).1≠0:=by
 unfold eP;dsimp only;split<;>decide
theorem Dz{d:Nat}(hd:d<=20)(h:Rd F G ts w b l sn i 0 0 (d:Int))(hi:i+1<ts.length){g:Nat}{z1 z2:aI}(hg:∀(x:Array aw) (w:av),(callFunc g x).run aq w=.ok (.enter g x) w)(f:OV)(hf:f.v=.func (.func g) z1.toArray z2.toArray){r:Pr}
  (hr:d≠20->∀w1,ay [b] w w1->Rd F G ts w1 b l sn (i+1) 0 0 ((d+1:Nat):Int)->az aq g (z1++z2).toArray w1 λe w'=>∃v,e=ak v/\og F G ts w1 w' b l sn (d+1) r v):
  az aq 261 #[ae (some ⟨b,0,none⟩),f.v] w λe w'=>∃v,e=ak v/\og F G ts w w' b l sn d (im d (tk ts i).a r) v:=by
 refine adI ⟨b,0,none⟩ f (λv w'=>og F G ts w w' b l sn d (im d (tk ts i).a r) v) w ?_;intro k0 w0 hk wM cw;have hb:=h.lb;have h0:=h.only cw;refine⟨(d:Int),Blk.eo h0.blk 4 rfl,λhc=>(Bn h0 21).mono ?_,λhc=>?_⟩
 ·have hc:d=20:=by have:(d:Int)=20:=aaf;omega
  rintro _ w1 ⟨rfl,cA,hR⟩;rw[aR rfl,aR rfl]at hR;have z1:=cA.size;refine⟨rfl,cA.same aae,λw2 cO=>⟨?_,?_⟩⟩
  ·exact((cw.weaken (bs':=[b]) λ_ h=>aah).trans cA λx hx=>.inl hx).new cO hk
  rw[im,aR hc];exact⟨(by decide:(21:Int)≠0),⟨0,0,[],0,Sl.nil,0,rfl⟩,i,hR.own cO aae⟩
 have hc:d≠20:=λe=>ab0
 have N1:=h.big;refine⟨(i:Int),Blk.eo h0.blk 1 rfl,b,1,_,_,rfl,h0.blk,aM,aE,λw3 da sT=>?_⟩;rw[fS aE aE]at sT;have h3:Rd F G ts w3 b l sn (i+1) 0 0 (d:Int):=h0.j5 da sT hi;have z3:=da.size;refine⟨(d:Int),Blk.eo h3.blk 4 rfl,b,4,_,_,rfl,h3.blk,aM,aE,λw4 dR rD=>?_⟩;rw[fS aE aE]at rD;have h4:Rd F G ts w4 b l sn (i+1) 0 0 ((d+1:Nat):Int):=h3.j5 dR rD hi;have z4:=dR.size;have rC:ay [b] w w4:=((cw.weaken (bs':=[b]) λ_ h=>aah).trans da λx hx=>.inl hx).trans dR λx hx=>.inl hx;refine⟨g,z1,z2,hf,hg,?_⟩;have e:zj (zj z1 []) z2=z1++z2:=by unfold zj;rw[bL]
 rw[e];refine(hr hc w4 rC h4).mono ?_;rintro _ w6 ⟨v,rfl,ez,hd⟩;have z6:=ez.size;rw[im,aO hc];have hv:∃(k n:Int) (s:aH) (op:Int) (sl:Sl) (a:Int),v=ah (kD k n s op sl a).toArray:=by
  cases r with
  | error e=>exact hd.2.1
  | ok q=>
   obtain⟨cs,rfl,hx,_⟩:=hd;obtain⟨sl,rfl,_⟩:=hx.cells;exact⟨_,_,_,_,_,_,rfl⟩
 obtain⟨vk,vn,vs,vo,vsl,va,rfl⟩:=hv;refine⟨_,_,_,_,_,_,rfl,ez.same aae,λk8 w7 hk8 Rv gD=>?_⟩;have z7:=gD.size;have key:∀{j:Nat} {fc fa:Int},Rd F G ts w6 b l sn j fc fa ((d+1:Nat):Int)->∃i7:Int,aB w7 (Addr.add ⟨b,0,none⟩ 4) [O U i7]/\∃k9 sF:Nat,∃z4:aI,∃oC:Nat,(Addr.add ⟨b,0,none⟩ 4)=⟨k9,sF,none⟩/\aF w7 k9 oC z4/\(sF+1)<=z4.length/\k0≠k9/\k8≠k9/\
   ∀w8:av,ay [k9] w7 w8->aF w8 k9 oC (bZ z4 sF [O U (ar U (i7-1))])->∀w9:av,ay [k0] w8 w9->ay [b] w w9/\ay [b,k0] w6 w9/\Rd F G ts w9 b l sn j fc fa (d:Int):=fun{j fc fa} h6=>by
  have h7:=h6.only gD;refine⟨((d+1:Nat):Int),Blk.eo h7.blk 4 rfl,b,4,_,_,rfl,h7.blk,aM,aE,aE,λw8 gp wy w9 gr=>?_⟩;have ed:((d+1:Nat):Int)-1=d:=aE
  rw[ed,fS aE aE]at wy;have h8:Rd F G ts w8 b l sn j fc fa (d:Int):=h7.j5 gp wy h7.lt;have aaH:ay [b,k0] w6 w9:=((gD.weaken (bs':=[b,k0]) λ_ h=>aah).trans gp λx hx=>.inl aag).trans gr λx hx=>.inl aag;exact⟨(rC.trans ez λx hx=>.inl hx).trans aaH (λx hx=>by
   simp only[aX,be,ca]at hx;rcases hx with rfl | rfl
   ·exact .inl aM
   exact .inr hk),aaH,h8.own gr aae⟩
 have W9:=hd;cases r with
 | error e=>
  obtain⟨h1,h2,j,h3⟩:=W9;obtain⟨i7,k1,k9,sF,z,oC,k2,k3,k4,k5,k6,k7⟩:=key h3;refine⟨i7,k1,k9,sF,z,oC,k2,k3,k4,k5,k6,λw8 gp wy w9 gr=>?_⟩;obtain⟨a1,a2,a3⟩:=k7 w8 gp wy w9 gr;exact⟨a1,h1,h2,j,a3⟩
 | ok q=>
  obtain⟨x,j⟩:=q;obtain⟨cs,h1,h2,h3⟩:=W9;obtain⟨i7,k1,k9,sF,z,oC,k2,k3,k4,k5,k6,k7⟩:=key h3;refine⟨i7,k1,k9,sF,z,oC,k2,k3,k4,k5,k6,λw8 gp wy w9 gr=>?_⟩;obtain⟨a1,a2,a3⟩:=k7 w8 gp wy w9 gr;have z9:=a2.size;exact⟨a1,cs,h1,(h2.only a2 λk hk=>.inl (by simp only[aX,be,ca]at hk;omega)).wide aE z9,a3⟩
end
section
variable {F G:aJ} {ts:List Tk} {w w':av} {b:Nat} {l sn:Sl} {i:Nat} {fc fa d:Int}
theorem og.nB{w w':av}{d:Nat}{r:Pr}{v:aw}(h:og F G ts w w' b l sn d r v):Y1 v:=by
 obtain⟨_,h⟩:=h;cases r with
 | error e=>exact h.2.1
 | ok q=>
  obtain⟨cs,rfl,hx,_⟩:=h;obtain⟨sl,rfl,_⟩:=hx.cells;exact⟨_,_,_,_,_,_,rfl⟩
theorem og.yO{w0 w1 w2 w3:av}{d:Nat}{r:Pr}{v:aw}(h:og F G ts w1 w2 b l sn d r v)(cw:ay [b] w0 w1){bs:List Nat}(cO:ay bs w2 w3)(hb:∀x,x∈bs->b<x/\w0.heap.size<=x/\x<w1.heap.size):og F G ts w0 w3 b l sn d r v:=by
 obtain⟨hO,h⟩:=h;have z0:=cw.size;have z1:=hO.size;have z2:=cO.size;refine⟨(cw.trans hO λx hx=>.inl hx).trans cO λx hx=>.inr (hb x hx).2.1,?_⟩;cases r with
 | error e=>
  obtain⟨h1,h2,j,h3⟩:=h;exact⟨h1,h2,j,h3.own cO λx hx=>(hb x hx).1⟩
 | ok q=>
  obtain⟨cs,h1,h2,h3⟩:=h;exact⟨cs,h1,(h2.only cO λx hx=>.inl (hb x hx).2.2).wide z0 z2,h3.own cO λx hx=>(hb x hx).1⟩
theorem Y2{d:Nat}{r:Pr}{k0:Nat}(h:Rd F G ts w b l sn i 0 0 (d:Int))(hk:b<k0)(hB:aF w k0 276 [ae (some ⟨b,0,none⟩)])
  (hE:∀w1,ay [] w w1->az aq 225 #[ae (some ⟨b,0,none⟩),O U 0] w1 λe w'=>∃v,e=ak v/\og F G ts w1 w' b l sn d r v):
  az aq 262 #[ae (some ⟨k0,0,none⟩)] w λe w'=>∃v,e=ak v/\og F G ts w w' b l sn d (pN ts r) v:=by
 refine adK ⟨k0,0,none⟩ (λv w'=>og F G ts w w' b l sn d (pN ts r) v) w ?_;intro k1 w0 ku jK cw;have hb:=h.lb;have AB:aF w0 k0 276 [ae (some ⟨b,0,none⟩)]:=cw.blk hB aM;have N2:=hB.lt;refine⟨_,Blk.eo AB 0 rfl,(hE w0 cw).mono ?_⟩;rintro _ w1 ⟨v,rfl,hd⟩;obtain⟨k,n,s,op,sl,a,rfl⟩:=hd.nB;have z1:=hd.1.size;refine⟨_,_,_,_,_,_,rfl,hd.1.same aae,λk2 w2 qw vS cO=>?_⟩;have z2:=cO.size;have kQ:aF w2 k0 276 [ae (some ⟨b,0,none⟩)]:=cO.blk (hd.1.blk AB aae) aM;refine⟨_,Blk.eo kQ 0 rfl,_,rfl,?_⟩;obtain⟨cA,hd⟩:=hd;have j6:ay [b] w w2:=((cw.weaken λ_ h=>aah).trans cA λx hx=>.inl hx).cn cO;cases r with
 | error e=>
  obtain⟨h1,h2,j,h3⟩:=hd;have h3:=h3.only cO;refine(ym h3 [41]).mono ?_;rintro _ w3 ⟨rfl,da,hR⟩;rw[aO acK,aO h1,aO h1]at hR;refine⟨rfl,da.same aae,λw4 dR=>⟨((j6.trans da λx hx=>.inl hx).new dR ku),h1,⟨_,_,_,_,_,_,rfl⟩,j,hR.own dR aae⟩⟩
 | ok q=>
  obtain⟨x,j⟩:=q;obtain⟨cs,h1,h2,h3⟩:=hd;have h3:=h3.only cO;refine(ym h3 [41]).mono ?_;rintro _ w3 ⟨rfl,da,hR⟩;have z3:=da.size;refine⟨rfl,da.same aae,λw4 dR=>⟨((j6.trans da λx hx=>.inl hx).new dR ku),?_⟩⟩;have z4:=dR.size;by_cases hs:sg ts j [41]=true
  ·rw[aR (by simp[hs])]at hR;simp only[pN,hs,wQ];exact⟨cs,h1,(((h2.only cO aM).only da λk hk=>.inl aaS).only dR λk hk=>.inl aaS).wide aE aE,hR.own dR aae⟩
  rw[aO (by simp[hs]),aR rfl,aR rfl]at hR;simp only[pN,hs,iM];exact⟨ff,⟨_,_,_,_,_,_,rfl⟩,j,hR.own dR aae⟩
theorem T8{f d:Nat}(hd:d<=20)(h:Rd F G ts w b l sn i 0 0 (d:Int))
  (hE:d≠20->∀w i,Rd F G ts w b l sn i 0 0 ((d+1:Nat):Int)->az aq 225 #[ae (some ⟨b,0,none⟩),O U 0] w λe w'=>∃v,e=ak v/\og F G ts w w' b l sn (d+1) (cK ts f 0 (d+1) i) v)
  (Vo:d≠20->∀w i,Rd F G ts w b l sn i 0 0 ((d+1:Nat):Int)->az aq 246 #[ae (some ⟨b,0,none⟩)] w λe w'=>∃v,e=ak v/\og F G ts w w' b l sn (d+1) (cK ts f 6 (d+1) i) v):
  az aq 246 #[ae (some ⟨b,0,none⟩)] w λe w'=>∃v,e=ak v/\og F G ts w w' b l sn d (cK ts (f+1) 6 d i) v:=by
 have eR:cK ts (f+1) 6 d i=mP ts (cK ts f 0 (d+1)) (cK ts f 6 (d+1)) d i:=by rw[cK,aR rfl]
 rw[eR];generalize hgE:cK ts f 0 (d+1)=E0 at*
 generalize hgO:cK ts f 6 (d+1)=One at*
 generalize hR:mP ts E0 One d i=R;rw[mP]at hR;refine adG ⟨b,0,none⟩ (λv w'=>og F G ts w w' b l sn d R v) w ?_;intro k0 k1 w0 iJ dV ku jK cw;have hb:=h.lb;refine(Dy (h.only cw)).mono ?_;rintro _ w1 ⟨rfl,cA⟩;have z1:=cA.size;have gK:=cw.cn cA;refine⟨_,_,_,_,rfl,cA.same aae,λk2 k3 w2 qw vS J9 zA cO=>?_⟩;have z2:=cO.size;have z0:=cw.size;have j6:=gK.cn cO;have h2:=h.only j6;have N1:=h.big;have sm:∀{u u':av},w2.heap.size<=u.heap.size->ay [b] u u'->cb [k0,k1,k2,k3] u u':=λhu hO=>hO.same aaA;have Ph:∀{u u':av},w2.heap.size<=u.heap.size->ay [] u u'->cb [k0,k1,k2,k3] u u':=λhu hO=>hO.same (by intro x hx;simp only[aX,be,ca]at hx;exact⟨aE,aM⟩);refine⟨λq _ _ _ _ _ _ vk vn vs vo vl va w'=>q=some ⟨b,0,none⟩/\ay [] w w'/\(tk ts i).k≠5/\∃t,vs=T t/\vl=Sl.nil/\R=.ok (.mk vk vn t vo [] va,i+1),?_,?_⟩
 ·rintro _ _ _ _ _ _ _ vk vn _ vo _ va w3 ⟨rfl,da,ia,t,rfl,rfl,yR⟩;have h3:=h.only da;have hn:=h.en.next h.lt ia;refine⟨_,rfl,(i:Int),Blk.eo h3.blk 1 rfl,_,rfl,b,1,_,_,rfl,h3.blk,aM,aE,aE,aE,aE,λw4 dR rD w5 fe=>?_⟩;rw[fS aE aE]at rD;have h4:Rd F G ts w4 b l sn (i+1) 0 0 (d:Int):=h3.j5 dR rD hn;rw[yR];refine⟨((da.weaken (bs':=[b]) λ_ h=>aah).trans dR λx hx=>.inl hx).new fe aE,_,rfl,.leaf ..,h4.own fe aae⟩
 refine(zT h2).mono ?_;rintro _ w6 ⟨rfl,ez⟩;have z6:=ez.size;have h6:=h2.only ez;refine⟨_,rfl,Ph aE ez,λhc=>(by simp at hc),λ_=>?_⟩;obtain⟨s8,w8,k8,gp,hc8⟩:=is2 h6;have z8:=gp.size;refine⟨s8,w8,k8,Ph aE gp,hc8.mono ?_⟩;rintro _ w9 ⟨rfl,gr⟩;have z9:=gr.size;have rF:=ez.cn (gp.cn gr);have h9:=h2.only rF;rw[show((0:Int)==0)=true from rfl,bS];have N3:=j6.cn rF;refine⟨_,rfl,Ph aE gr,λhc dz dL=>?_,λhc=>?_⟩
 ·rw[aR hc]at hR;have ia:(tk ts i).k≠5:=by
   rcases ci _ _▸hc with e | e<;>exact sK e
  have hn:=h.en.next h.lt ia;have key:∀op:Int,op=(if(tk ts i).t=[33]then 15 else 14)->∀dJ,ay [] w dJ->w2.heap.size<=dJ.heap.size->_:=λop nI dJ dW Vp=>Dz hd (h.only dW) hn (g:=246) (z1:=[ae (some ⟨b,0,none⟩)]) (z2:=[]) (ky (by kernel_rfl)) ⟨.func (.func 246) #[ae (some ⟨b,0,none⟩)] #[],rfl⟩ rfl (r:=One (i+1)) λVq w1 _ h1=>Vo Vq w1 (i+1) h1;refine⟨λk n s op sl a w'=>k=4/\n=0/\s=T []/\op=(if(tk ts i).t=[33]then 15 else 14)/\sl=Sl.nil/\a=(tk ts i).a/\ay [] w w'/\w2.heap.size<=w'.heap.size,?_,?_,?_⟩
  ·rintro _ _ _ _ _ _ dJ ⟨rfl,rfl,rfl,nI,rfl,rfl,dW,Vp⟩;refine(key _ nI dJ dW Vp).mono ?_;rintro _ eM ⟨v,rfl,hD⟩;obtain⟨vk,vn,vs,vo,vl,va,rfl⟩:=hD.nB;have z12:=hD.1.size;obtain⟨eW,tt,rG,dD⟩:=Bp eM [kD vk vn vs vo vl va] aM aM aM (parts:=#[(0,ah (kD vk vn vs vo vl va).toArray)]) rfl;refine⟨_,_,_,_,_,_,rfl,sm Vp hD.1,⟨some ⟨eM.heap.size,0,none⟩,1,1⟩,eW,tt,Ph aE dD,λfJ eF=>?_⟩;have S8:=dD.size;have Xa:=eF.size;have hOf:ay [b] w fJ:=(((dW.weaken (bs':=[b]) λ_ h=>aah).trans hD.1 λx hx=>.inl hx).cn dD).trans eF λx hx=>.inr aaj;have Z8:∀x,x∈[k1,k3]->b<x:=aae
   have hoo:∀x,x∈[k1,k3]->x<dJ.heap.size:=aae
   refine⟨hOf,?_⟩;obtain⟨_,hD⟩:=hD;rw[<-hR];cases hN:im d (tk ts i).a (One (i+1))with
   | error e=>
    rw[hN]at hD;obtain⟨a1,a2,j,a3⟩:=hD;exact⟨a1,⟨_,_,_,_,_,_,rfl⟩,j,(a3.only dD).own eF Z8⟩
   | ok q=>
    obtain⟨x,j⟩:=q;rw[hN]at hD;obtain⟨cs,a1,a2,a3⟩:=hD;refine⟨_,rfl,?_,(a3.only dD).own eF Z8⟩;have mq:(kD vk vn vs vo vl va)=cs:=br Array.toList (Value.agg.inj a1);rw[nI];have agh:RX fJ dJ.heap.size eM.heap.size x cs:=(a2.only dD aM).only eF λk hk=>.inl (hoo k hk);have EC:aF fJ eM.heap.size 40 cs:=by
     have:=eF.blk rG λhm=>by have:=hoo _ hm;omega
     rw[dw,List.flatten_nil,bL]at this;rw[<-mq];exact this
    exact .one w.heap.size eM.heap.size eM.heap.size _ _ _ _ _ _ x cs (agh.wide aE (aY _)) aE (aY _) ab7 id EC
  ·rw[show(ao #[33])=T [33]from rfl,ju];intro he ir j7;have he:=aV he;exact⟨rfl,rfl,rfl,by rw[aR he],rfl,rfl,(N3.new dL aE).new j7 aE,by have:=j7.size;have:=dL.size;omega⟩
  rw[show(ao #[33])=T [33]from rfl,ju];intro he;have he:=aW he;exact⟨rfl,rfl,rfl,by rw[aO he],rfl,rfl,N3.new dL aE,by have:=dL.size;omega⟩
 rw[aO (by rw[hc];decide)]at hR;obtain⟨S4,jD,EB,jQ,agi⟩:=is1 h9 [40];have z16:=jQ.size;refine⟨S4,jD,EB,Ph aE jQ,agi.mono ?_⟩;rintro _ iK ⟨rfl,jf⟩;have z17:=jf.size;have IQ:=N3.cn (jQ.cn jf);have Pj:=h.only IQ;have Gp:ay [b] w iK:=IQ.weaken λ_ h=>aah
 rw[show((0:Int)==0)=true from rfl,bS];refine⟨_,rfl,Ph aE jf,λhp hB _ _ _=>?_,λhp=>?_⟩
 ·rw[aR hp]at hR;have hn:=h.en.next h.lt (sK hp);subst hR;refine(Dz hd Pj hn (g:=262) (z1:=[]) (z2:=[ae (some ⟨k0,0,none⟩)]) (ky (by kernel_rfl)) ⟨.func (.func 262) #[] #[ae (some ⟨k0,0,none⟩)],rfl⟩ rfl (r:=pN ts (E0 (i+1))) λVq w1 cA h1=>Y2 h1 aE (cA.blk hB aae) λw1' agk=>hE Vq w1' (i+1) (h1.only agk)).mono ?_;rintro _ jt ⟨v,rfl,hD⟩;obtain⟨vk,vn,vs,vo,vl,va,rfl⟩:=hD.nB;have z18:=hD.1.size;refine⟨_,_,_,_,_,_,rfl,hD.1.same aae,_,hD.1.blk hB aae,λjS kZ _=>?_⟩;exact hD.yO Gp kZ aae
 rw[aO acF]at hR;have hp':(tk ts i).k≠5->i+1<ts.length:=h.en.next h.lt;refine⟨λhi js kO _ _ _ _ _ ia=>⟨λk=>k=k2,rfl,λe=>ia e.symm,λe=>ia e.symm,λmr iL=>?_⟩,λhi=>⟨λhv qc qx _ _ _ _ _ ia=>⟨λk=>k=k2,rfl,λe=>ia e.symm,λe=>ia e.symm,λql rH=>?_⟩,λhv=>⟨λhw=>?_,λhw=>?_⟩⟩⟩
 ·have hi:(tk ts i).k=3:=aaC
  rw[aR hi]at hR;exact⟨rfl,(IQ.cn kO).new iL aE,by rw[hi];decide,[],rfl,rfl,hR.symm⟩
 ·have hi:¬(tk ts i).k=3:=aaC
  have hv:(tk ts i).k=1:=abG
  rw[aO hi,aR hv]at hR;exact⟨rfl,(IQ.cn qx).new rH aE,by rw[hv];decide,_,rfl,rfl,hR.symm⟩
 ·have hi:¬(tk ts i).k=3:=aaC
  have hv:¬(tk ts i).k=1:=abG
  rw[show(ao #[105,110])=T [105,110]from rfl,ju]at hw;have hw:(tk ts i).k=2/\(tk ts i).t=[105,110]:=by simpa using hw
  rw[aO hi,aO hv,aR hw]at hR;have hn:=hp' (by rw[hw.1];decide);refine⟨(i:Int),Blk.eo Pj.blk 1 rfl,b,1,_,_,rfl,Pj.blk,aM,aE,aE,aE,aE,λsE zC aaI=>?_⟩;rw[fS aE aE]at aaI;have h24:Rd F G ts sE b l sn (i+1) 0 0 (d:Int):=Pj.j5 zC aaI hn;have z24:=zC.size;refine(ym h24 [40]).mono ?_;rintro _ ow ⟨rfl,Cf,Rw⟩;have z25:=Cf.size;refine⟨rfl,sm aE Cf,?_⟩;have S9:ay [b] w ow:=(Gp.trans zC λx hx=>.inl hx).trans Cf λx hx=>.inl hx;have bad:∀{j:Nat} {c a:Int},Rd F G ts ow b l sn j c a (d:Int)->c≠0->az aq 264 #[ae (some ⟨b,0,none⟩)] ow λe w'=>e=ak (ab (T []))/\ay [b] ow w'/\Rd F G ts w' b l sn j c a (d:Int):=fun{j c a} Rx hc=>by
   refine(Hj Rx).mono ?_;rintro e qd ⟨jp,hh⟩;rw[aO (λhh=>hc hh.1),aO hc,aO hc]at hh;exact⟨hh.1,jp,hh.2⟩
  have aaK:∀{qd sS:av} {j:Nat} {c a:Int},ay [b] ow qd->ay [k3] qd sS->Rd F G ts qd b l sn j c a (d:Int)->c≠0->R=.error (c,a)->∀s6:aK,az aq 263 #[ae (some (Addr.add ⟨b,0,none⟩ 0)),ab (ao #[41])] sS λe8 vR=>e8=(ak (ai #[]))/\cb [k0,k1,k2,k3] sS vR/\∀zx:av,ay [k1] vR zx->og F G ts w zx b l sn d R (ah #[O U 3,O U 0,ab s6,O U 0,Sl.nil.v,O U (tk ts i).a]):=fun{qd sS j c a} jp pr h26 hc yR s6=>by
   have z26:=jp.size;have z27:=pr.size;refine(ym (h26.own pr aae) [41]).mono ?_;rintro _ vR ⟨rfl,sU,Gq⟩;rw[aO (by simp[hc]),aO hc,aO hc]at Gq;refine⟨rfl,sm aE sU,λzx rF=>?_⟩;rw[yR];refine⟨((((S9.trans jp λx hx=>.inl hx).new pr aE).trans sU λx hx=>.inl hx).new rF aE),hc,⟨3,0,s6.data.toList,0,Sl.nil,_,by unfold kD;rw[<-CU]⟩,j,Gq.own rF aae⟩
  by_cases h1:sg ts (i+1) [40]=true
  ·rw[aR acK]at Rw;rw[yi,aR h1]at hR;refine(Hj Rw).mono ?_;rintro _ qd ⟨jp,hh⟩;have z26:=jp.size;by_cases h2:(tk ts (i+2)).k=1
   ·rw[aR ⟨rfl,h2⟩]at hh;obtain⟨rfl,N4⟩:=hh;rw[aR h2]at hR;refine⟨_,rfl,sm aE jp,λsS pr=>?_⟩;have z27:=pr.size;have h27:=N4.own pr aae;refine(ym h27 [41]).mono ?_;rintro _ vR ⟨rfl,sU,Gq⟩;refine⟨rfl,sm aE sU,λzx rF=>?_⟩;have hOf:ay [b] w zx:=(((S9.trans jp λx hx=>.inl hx).new pr aE).trans sU λx hx=>.inl hx).new rF aE;refine⟨hOf,?_⟩;by_cases h3:sg ts (i+3) [41]=true
    ·rw[aR (by simp[h3])]at Gq;rw[aR h3]at hR;rw[<-hR];exact⟨_,rfl,.leaf ..,Gq.own rF aae⟩
    rw[aO (by simp[h3]),aR rfl,aR rfl]at Gq;rw[aO h3]at hR;rw[<-hR];exact⟨ff,⟨_,_,_,_,_,_,rfl⟩,_,Gq.own rF aae⟩
   rw[aO (λhh=>h2 hh.2),aR rfl,aR rfl]at hh;obtain⟨rfl,N4⟩:=hh;rw[aO h2]at hR;exact⟨_,rfl,sm aE jp,λsS pr=>aaK jp pr N4 ff hR.symm _⟩
  rw[aO acK,aR rfl,aR rfl]at Rw;rw[yi,aO h1]at hR;refine(bad Rw ff).mono ?_;rintro _ qd ⟨rfl,jp,N4⟩;exact⟨_,rfl,sm aE jp,λsS pr=>aaK jp pr N4 ff hR.symm _⟩
 have hi:¬(tk ts i).k=3:=aaC
 have hv:¬(tk ts i).k=1:=abG
 rw[show(ao #[105,110])=T [105,110]from rfl,ju]at hw;rw[aO hi,aO hv,aO (λhh=>by rw[hh.1,hh.2]at hw;simp at hw)]at hR;refine(Bo Pj).mono ?_;rintro _ KE ⟨rfl,aaN,aaO⟩;rw[aR rfl,aR rfl]at aaO;refine⟨rfl,sm aE aaN,λPf N5=>⟨(Gp.trans aaN λx hx=>.inl hx).new N5 aE,?_⟩⟩;rw[<-hR];exact⟨ff,⟨0,0,[],0,Sl.nil,_,rfl⟩,i,aaO.own N5 aae⟩
end
section
variable {F G:aJ} {ts:List Tk} {w w':av} {b:Nat} {l sn:Sl} {i:Nat} {fc fa d:Int}
theorem zU{E}{k}{g}{x}{j}(h:iU ts k j=0):gU ts E k g x j=.ok (x,j):=by
 cases g with
 | zero=>rfl
 | succ g=>rw[gU,aR h]
def At5(F G:aJ)(ts:List Tk)(w:av)(b:Nat)(l sn:Sl)(d:Nat)(N:aJ)(E:Nat->Pr)(k:Int)(R:Pr)(nv:Nat)(op:Int)(cs:aI)(w':av):Prop:=ay [b] w w'/\
 ((∃(c a:Int) (j:Nat),op=0/\c≠0/\R=.error (c,a)/\Rd F G ts w' b l sn j c a d)∨
  (∃(x:Ex) (j:Nat),op=iU ts k j/\RXN w' N w.heap.size w'.heap.size x cs/\Rd F G ts w' b l sn j 0 0 d/\R=gU ts E k nv x j/\ts.length-j<=nv))
theorem Jl{f k d:Nat}(Vs:k<6)(h:Rd F G ts w b l sn i 0 0 (d:Int))
  (hE:∀w i,Rd F G ts w b l sn i 0 0 (d:Int)->az aq 225 #[ae (some ⟨b,0,none⟩),O U ((k+1:Nat):Int)] w λe w'=>∃v,e=ak v/\og F G ts w w' b l sn d (cK ts f (k+1) d i) v):
  az aq 225 #[ae (some ⟨b,0,none⟩),O U (k:Int)] w λe w'=>∃v,e=ak v/\og F G ts w w' b l sn d (cK ts (f+1) k d i) v:=by
 have eR:cK ts (f+1) k d i=yh (cK ts f (k+1) d i) λx j=>gU ts (cK ts f (k+1) d) (k:Int) (ts.length-j) x j:=by rw[cK,aO aE]
 rw[eR];have N6:∀i x j,cK ts f (k+1) d i=.ok (x,j)->i<j:=λi x j h=>jx f _ _ i h;generalize hgE:cK ts f (k+1) d=E at*
 generalize hR:(yh (E i) λx j=>gU ts E (k:Int) _ x j)=R;refine YJ _ _ _ w ?_;have ek:ar U ((k:Int)+1)=((k+1:Nat):Int):=aad
 refine⟨λhc=>absurd aaf (by omega:¬(k:Int)=6),λ_ k1 w3 ku jK da=>?_⟩;have hb:=h.lb;rw[ek];refine(hE w3 i (h.only da)).mono ?_;rintro _ w4 ⟨v,rfl,hD⟩;obtain⟨vk,vn,vs,vo,vl,va,rfl⟩:=hD.nB;have z3:=da.size;have z4:=hD.1.size;refine⟨_,_,_,_,_,_,rfl,hD.1.same aae,λk2 w5 qw vS fe=>?_⟩;have yS:=((da.weaken (bs':=[b]) λ_ h=>aah).trans hD.1 λx hx=>.inl hx).cn fe;have sm:∀{u u':av},w5.heap.size<=u.heap.size->ay [b] u u'->cb [k1,k2] u u':=λhu hO=>hO.same (by intro x hx;simp at hx⊢;omega);have N1:=h.big;have kP:∃(j:Nat) (c a:Int),Rd F G ts w4 b l sn j c a (d:Int)/\∀w6,ay [] w4 w6->∃nv,At5 F G ts w b l sn d (λq=>q=k1∨q=k2) E (k:Int) R nv (if c=0 then iU ts (k:Int) j else 0) (kD vk vn vs vo vl va) w6:=by
  obtain⟨dR,Cg⟩:=hD;have rC:=(da.weaken (bs':=[b]) λ_ h=>aah).trans dR λx hx=>.inl hx;cases Ay:E i with
  | error e=>
   rw[Ay]at Cg hR;obtain⟨c,a⟩:=e;obtain⟨a1,a2,j,a3⟩:=Cg;exact⟨j,c,a,a3,λw6 ez=>⟨0,rC.cn ez,.inl ⟨c,a,j,aO a1,a1,hR.symm,a3.only ez⟩⟩⟩
  | ok q=>
   obtain⟨x,j⟩:=q;rw[Ay]at Cg hR;obtain⟨cs,a1,a2,a3⟩:=Cg;have mq:(kD vk vn vs vo vl va)=cs:=br Array.toList (Value.agg.inj a1);rw[mq];exact⟨j,0,0,a3,λw6 ez=>⟨ts.length-j,rC.cn ez,.inr ⟨x,j,aR rfl,((a2.only ez aM).Ax λq h1 h2 _=>aE).wide z3 ez.size,a3.only ez,hR.symm,aY _⟩⟩⟩
 obtain⟨j0,c0,a0,hR4,kP⟩:=kP;refine(yp (hR4.only fe) (k:Int)).mono ?_;rintro _ w6 ⟨rfl,ez⟩;have z6:=ez.size;obtain⟨nv0,hA0⟩:=kP w6 (fe.cn ez);refine⟨_,rfl,ez.same aae,λnv op i10 i11 s2 i12 l2 i13 w'=>w5.heap.size<=w'.heap.size/\At5 F G ts w b l sn d _ E (k:Int) R nv op [O U i10,O U i11,ab s2,O U i12,l2.v,O U i13] w',nv0,⟨z6,hA0⟩,?_⟩;rintro nv op i10 i11 s2 i12 l2 i13 w7 ⟨z7,gD,hA⟩;refine⟨λnI=>?_,λnI fJ eF=>?_⟩
 ·have nI:op≠0:=acs
  rcases hA with⟨_,_,_,e,_⟩ | ⟨x,j,rfl,hX,zw,yR,hnv⟩
  ·exact absurd e nI
  have hn:=zw.en.next zw.lt (mT _ _ nI);obtain⟨g,rfl⟩:∃g,nv=g+1:=⟨nv-1,aE⟩
  rw[gU,aO nI]at yR;refine⟨(j:Int),Blk.eo zw.blk 1 rfl,b,1,_,_,rfl,zw.blk,aM,aE,aE,λw8 gp wy=>?_⟩;rw[fS aE aE]at wy;have h8:=zw.j5 gp wy hn;have z8:=gp.size;refine(hE w8 (j+1) h8).mono ?_;rintro _ w9 ⟨v,rfl,N7⟩;obtain⟨yk,yn,ys,yo,yl,ya,rfl⟩:=N7.nB;have z9:=N7.1.size;refine⟨_,_,_,_,_,_,rfl,sm aE N7.1,λk8 dz hk8 Rv dL=>?_⟩;have IL:=dL.size;obtain⟨dJ,oC,zD,dW⟩:=Bp dz [[O U i10,O U i11,ab s2,O U i12,l2.v,O U i13],kD yk yn ys yo yl ya] aM aM aM (parts:=#[_,_]) rfl;have ED:=dW.size;refine⟨⟨some _,2,2⟩,dJ,oC,dW.same aae,λeM eJ=>?_⟩;have z12:=eJ.size;have EF:ay [b] w eM:=((((gD.trans gp λx hx=>.inl hx).trans N7.1 λx hx=>.inl hx).cn dL).cn dW).new eJ aE;have rI:ay [k2] w9 eM:=((dL.cn dW).weaken (bs':=[k2]) λ_ h=>aah).trans eJ λx hx=>.inl hx;have Gr:∃(j':Nat) (c a:Int),Rd F G ts w9 b l sn j' c a (d:Int)/\∀eW,ay [] eM eW->∃nv,nv<g+1/\At5 F G ts w b l sn d (λq=>q=k1∨q=k2) E (k:Int) R nv (if c=0 then iU ts (k:Int) j' else 0) (kD 5 0 [] (iU ts (k:Int) j) ⟨some ⟨dz.heap.size,0,none⟩,2,2⟩ i13) eW:=by
   obtain⟨gr,Cg⟩:=N7;cases Ay:E (j+1)with
   | error e=>
    rw[Ay]at Cg yR;obtain⟨c,a⟩:=e;obtain⟨a1,a2,j',a3⟩:=Cg;exact⟨j',c,a,a3,λeW dD=>⟨0,aE,EF.cn dD,.inl ⟨c,a,j',aO a1,a1,yR,(a3.own rI aae).only dD⟩⟩⟩
   | ok q=>
    obtain⟨y,j'⟩:=q;rw[Ay]at Cg yR;obtain⟨cs,a1,a2,a3⟩:=Cg;have mq:_=cs:=br Array.toList (Value.agg.inj a1);have Xb:=N6 _ _ _ Ay;obtain⟨xl,JR,_⟩:=hX.cells;have hxa:=by
     simp only[kD,qz,Value.int.injEq]at JR;exact JR.2.2.2.2.2.1.2
    refine⟨j',0,0,a3,λeW dD=>⟨g,aE,EF.cn dD,.inr ⟨.mk 5 0 [] (iU ts (k:Int) j) [x,y] x.a,j',aR rfl,?_,(a3.own rI aae).only dD,yR,?_⟩⟩⟩
    ·have N8:=(((((gp.weaken (bs':=[b,k2]) λx hx=>.inl aag).trans gr λx hx=>.inl aag).trans rI λx hx=>.inl aag).cn dD))
     have N9:=rI.cn dD;have rG:aF eW dz.heap.size 40 ([O U i10,O U i11,ab s2,O U i12,l2.v,O U i13]++cs):=by
      have:=dD.blk (eJ.blk zD aae) aM;rw[<-mq];simpa using this
     have Oa:RXN eW (λq=>q=k1∨q=k2) w.heap.size w7.heap.size x [O U i10,O U i11,ab s2,O U i12,l2.v,O U i13]:=by
      exact hX.only N8 λq hq=>by
       simp only[aX,be,ca]at hq;rcases hq with rfl | rfl
       ·exact .inl hb
       exact .inr (.inr (.inr rfl))
     have Vt:RXN eW (λq=>q=k1∨q=k2) w8.heap.size w9.heap.size y cs:=(a2.only N9 λq hq=>.inl ab1).Ax λq h1 h2 _=>aE
     rw[hxa];exact .two w.heap.size w7.heap.size w8.heap.size w9.heap.size dz.heap.size _ _ _ _ _ _ x y _ cs Oa z8 Vt aE aE aE aE ab7 aE rG
    omega
  obtain⟨j',c',a',hR9,Gr⟩:=Gr;refine(yp (hR9.own rI aae) (k:Int)).mono ?_;rintro _ eW ⟨rfl,dD⟩;obtain⟨nv',Vu,Xc⟩:=Gr eW dD;exact⟨_,rfl,dD.same aae,nv',Vu,by have:=dD.size;omega,Xc⟩
 have nI:op=0:=acs
 refine⟨gD.new eF aE,?_⟩;rcases hA with⟨c,a,j,_,hc,yR,zw⟩ | ⟨x,j,O6,hX,zw,yR,hnv⟩
 ·rw[yR];exact⟨hc,⟨i10,i11,s2.data.toList,i12,l2,i13,rfl⟩,j,zw.own eF aae⟩
 rw[yR,zU (by rw[<-O6,nI])];exact⟨_,rfl,((hX.only eF λq hq=>.inr (.inr (.inl (by simpa using hq)))).Ax λ_ _ _ _ h=>h).wide (aY _) eF.size,zw.own eF aae⟩
theorem DA : ∀ f, (∀ k d i w, k <= 6 -> d <= 20 -> fj k d <= f -> Rd F G ts w b l sn i 0 0 d ->
      az aq 225 #[ae (some ⟨b, 0, none⟩), O U k] w λe w' => ∃ v, e = ak v /\ og F G ts w w' b l sn d (cK ts f k d i) v) /\
    (∀ d i w, d <= 20 -> fj 6 d <= f -> Rd F G ts w b l sn i 0 0 d ->
      az aq 246 #[ae (some ⟨b, 0, none⟩)] w λe w' => ∃ v, e = ak v /\ og F G ts w w' b l sn d (cK ts f 6 d i) v)
  | 0 => ⟨λk d i w hk hd hn => abo, λd i w hd hn => abo⟩
  | f + 1 => by
    obtain ⟨zy, CE⟩ := DA f
    have one : ∀ (d i) w, d <= 20 -> fj 6 d <= f + 1 -> Rd F G ts w b l sn i 0 0 d ->
      az aq 246 #[ae _] w λe w' => ∃ v, e = ak v /\ og F G ts w w' b l sn d _ v := λd i w hd hn h => by
      unfold fj at hn
      exact T8 hd h (λxq w i h => zy 0 _ i w aE aE abe h) (λxq w i h => CE _ i w aE abe h)
    refine ⟨λk d i w hk hd hn h => ?_, one⟩
    by_cases h6 : k = 6
    · subst h6
      refine YJ _ _ _ w ?_
      refine ⟨λ_ k0 w0 iJ dV cw => ?_, λhc => absurd hc aL⟩
      refine (one d i w0 hd hn (h.only cw)).mono ?_
      rintro _ w1 ⟨v, rfl, hD⟩
      obtain ⟨vk, vn, vs, vo, vl, va, rfl⟩ := hD.nB
      have hb := h.lb
      exact ⟨_, _, _, _, _, _, rfl, hD.1.same (by simp; omega), λw2 cO => hD.yO (cw.weaken λ_ h => aah) cO (by simp; omega)⟩
    · unfold fj at hn
      exact Jl aE h λw i h => zy _ d i w aE hd abe h
end
theorem Jm(w:av):∃(s:Sl) (w':av),(au 41 16 #[.mk 1 (ab (ao #[43])),.mk 2 (ab (ao #[45])),.mk 3 (ab (ao #[42])),.mk 4 (ab (ao #[47])),.mk 5 (ab (ao #[37])),.mk 6 (ab (ao #[60])),.mk 7 (ab (ao #[60,61])),.mk 8 (ab (ao #[62])),.mk 9 (ab (ao #[62,61])),.mk 10 (ab (ao #[61,61])),.mk 11 (ab (ao #[33,61])),.mk 12 (ab (ao #[38,38])),.mk 13 (ab (ao #[124,124])),.mk 14 (ab (ao #[45])),.mk 15 (ab (ao #[33]))]).run aq w=.ok (Sl.v s) w'/\
  aA jR 1 w' (λk=>w.heap.size<=k/\k<w'.heap.size) s qp/\ay [] w w':=by
 have tN:=run_buildSlice (P:=aq) w 41 9 16 #[.mk 1 (ab (ao #[43])),.mk 2 (ab (ao #[45])),.mk 3 (ab (ao #[42])),.mk 4 (ab (ao #[47])),.mk 5 (ab (ao #[37])),.mk 6 (ab (ao #[60])),.mk 7 (ab (ao #[60,61])),.mk 8 (ab (ao #[62])),.mk 9 (ab (ao #[62,61])),.mk 10 (ab (ao #[61,61])),.mk 11 (ab (ao #[33,61])),.mk 12 (ab (ao #[38,38])),.mk 13 (ab (ao #[124,124])),.mk 14 (ab (ao #[45])),.mk 15 (ab (ao #[33]))]
  (qp.map λx=>Value.string (T x)).toArray Tryz.t9 _ (by kernel_rfl) (by kernel_rfl) rfl aL aL (by kernel_rfl)
 refine⟨⟨some ⟨w.heap.size,0,none⟩,16,16⟩,_,tN,⟨rfl,aY _,λh=>aah,(by decide:(16:Nat)<=9223372036854775807),λj x hx=>?_⟩,Only.alloc _ _⟩;have hB:=Blk.alloc w 9 (qp.map λx=>Value.string (T x));have cd:=hB.lt;refine⟨⟨w.heap.size,0,none⟩,[ab (T x)],rfl,⟨aY _,cd⟩,rfl,?_,rfl⟩;rw[tW];exact Blk.eo hB j acE
theorem Sh(w:av):az aq 213 #[] w λe w'=>∃s:Sl,e=ak s.v/\aA jR 1 w' (λk=>w.heap.size<=k/\k<w'.heap.size) s qp/\ay [] w w':=by
 refine(adF (λv w'=>∃s:Sl,v=s.v/\aA jR 1 w' (λk=>w.heap.size<=k/\k<w'.heap.size) s qp/\ay [] w w') w ?_).mono (by
  rintro e w' ⟨v,rfl,s,rfl,h⟩;exact⟨s,rfl,h⟩)
 obtain⟨s,w',h1,h2,h3⟩:=Jm w;exact⟨s,w',h1,s,rfl,h2,h3⟩
def jy(ts:List Tk):Nat:=(ts.takeWhile λt=>t.k !=5).length
theorem wZ(ts:List Tk):jy ts<=ts.length:=by
 unfold jy;exact(List.takeWhile_sublist _).length_le
theorem zV{t:Tk}{ts:List Tk}{i:Nat}:tk (t::ts) (i+1)=tk ts i:=by unfold tk;rw[gL]
theorem zW{t:Tk}{ts:List Tk}:tk (t::ts) 0=t:=rfl
theorem ur:∀(ts:List Tk) (i:Nat),i<jy ts->(tk ts i).k≠5
 | [],_,h=>by simp[jy]at h
 | t::ts,i,h=>by
  unfold jy at h;rw[cT]at h;split at h
  ·rename_i ht;cases i with
   | zero=>rw[zW];simpa using ht
   | succ i=>rw[zV];exact ur ts i (by simpa[jy]using h)
  simp at h
theorem uu:∀(ts:List Tk),jy ts<ts.length->(tk ts (jy ts)).k=5
 | [],h=>aax
 | t::ts,h=>by
  unfold jy at h⊢;rw[cT]at h⊢;split
  ·rename_i ht;rw[aR ht]at h;rw[aU,zV];exact uu ts (by simpa[jy]using h)
  rename_i ht;rw[aZ,zW];simpa using ht
theorem DB{ts:List Tk}(h:jy ts+1=ts.length):od ts:=λi hi=>by
 constructor
 ·intro hk;refine bD λhn=>ur ts i aE hk
 intro hn;have:i=jy ts:=aE
 rw[this];exact uu ts aE
theorem LV{ts:List Tk}(h:od ts)(h0:0<ts.length):jy ts+1=ts.length:=by
 have h1:=wZ ts;rcases lP (jy ts) ts.length with hl | hl
 ·exact(h _ hl).1 (uu ts hl)
 have:=ur ts (ts.length-1) aE;exact absurd ((h (ts.length-1) aE).2 aE) this
theorem Qj(w:av)(t:Tk):az aq 224 #[t.v] w λe w'=>e=ak (aj (t.k==5))/\ay [] w w':=by
 refine ret (v3w t.k (T t.t) t.n t.a (λv w'=>v=aj (t.k==5)/\ay [] w w') w ?_);exact λk0 w0 _ _ hO=>⟨rfl,hO⟩
theorem LW{w:av}{F:aJ}{l:Sl}{ts:List Tk}(h:aA Bl 4 w F l ts):az aq 223 #[l.v,.func (.func 224) #[] #[]] w λe w'=>e=ak (O U (if jy ts<ts.length then(jy ts:Int)else -1))/\ay [] w w':=by
 refine ret (YI l ⟨.func (.func 224) #[] #[],rfl⟩ (λv w'=>v=O U (if jy ts<ts.length then(jy ts:Int)else -1)/\ay [] w w') w ?_);have eu:=h.len;have pq:=h.big;have nD:=h.cap;refine⟨λnv i w'=>∃n:Nat,n<=jy ts/\i=(n:Int)/\nv=ts.length-n/\ay [] w w',ts.length,⟨0,bm _,rfl,rfl,Only.refl _ _⟩,?_⟩;rintro nv _ w0 ⟨n,hn,rfl,rfl,cw⟩;have IE:=wZ ts;refine⟨λhc=>?_,λhc=>?_⟩
 ·have cd:(n:Int)<l.n:=aV hc;obtain⟨ad,x,cs,g1,g2,g3,g4,g5,g6⟩:=(SliceF.only fX aL h cw aM).get (bc n) cd;rw[ba,yg aE]at g2;injection g2 with g2;subst g2;unfold Bl at g6;subst g6;refine⟨ad,g1,_,_,_,_,g5,224,[],[],rfl,ky (by kernel_rfl),?_⟩;refine(Qj w0 (tk ts n)).mono ?_;rintro _ w1 ⟨rfl,cA⟩;refine⟨_,rfl,λhb=>⟨?_,cw.cn cA⟩,λhb=>⟨ts.length-(n+1),aE,n+1,?_,aad,rfl,cw.cn cA⟩⟩
  ·have hb:(tk ts n).k=5:=aap
   have:n=jy ts:=by
    refine bD λia=>ur ts n aE hb
   rw[aR aE,this]
  have hb:¬(tk ts n).k=5:=aap
  refine bD λia=>hb ?_;have:n=jy ts:=aE
  rw[this];exact uu ts aE
 have nE:¬(n:Int)<l.n:=aW hc;rw[aO aE];exact⟨rfl,cw⟩
def tT:Ex:=.mk 0 0 [] 0 [] 0
def bQ(ts:List Tk)(a:Int):Ex×Int×Int×Int:=
 if 0<=a/\a<ts.length/\jy ts+1=ts.length then(match oe ts a.toNat with
  | .error (c,p)=>(tT,0,c,p)
  | .ok (x,j)=>(x,(j:Int),0,0))
 else(tT,0,1, -1)
theorem Qk(w:av)(lo hi:Nat):RX w lo hi tT [O U 0,O U 0,ab (ao #[]),O U 0,Sl.nil.v,O U 0]:=.leaf ..
theorem Hk{w:av}{F:aJ}{l:Sl}{ts:List Tk}(h:aA Bl 4 w F l ts)(a:Int)(ha:wA a):az aq 206 #[l.v,O U a] w λe w'=>
  ∃cs,e=ak (ai #[ah cs.toArray,O U (bQ ts a).2.1,ah #[O U (bQ ts a).2.2.1,O U (bQ ts a).2.2.2]])/\RX w' w.heap.size w'.heap.size (bQ ts a).1 cs/\((bQ ts a).2.2.1=0->0<=(bQ ts a).2.1/\(bQ ts a).2.1<ts.length)/\ay [] w w':=by
 refine(v4w l a (λv w'=>∃cs,v=(ai #[ah cs.toArray,O U (bQ ts a).2.1,ah #[O U (bQ ts a).2.2.1,O U (bQ ts a).2.2.2]])/\RX w' w.heap.size w'.heap.size (bQ ts a).1 cs/\((bQ ts a).2.2.1=0->0<=(bQ ts a).2.1/\(bQ ts a).2.1<ts.length)/\ay [] w w') w ?_).mono (by
  rintro e w' ⟨v,rfl,cs,rfl,h⟩;exact⟨cs,rfl,h⟩)
 intro k0 k1 w0 iJ dV ku jK cw;have eu:=h.len;have nD:=h.cap;have pq:=h.big;have z0:=cw.size;have h:=(h.inHeap fX aL)
 refine(LW (SliceF.only fX aL h cw aM)).mono ?_;rintro _ w1 ⟨rfl,cA⟩;have z1:=cA.size;have gK:=cw.cn cA;have IE:=wZ ts;have hcond:(((decide (a<0))||(decide (a>=(l.n:Int))))||((if jy ts<ts.length then(jy ts:Int)else -1) !=(ar U ((l.n:Int)-1))))=!decide (0<=a/\a<ts.length/\jy ts+1=ts.length):=by
  rw[fS aE aE,eu];by_cases h1:jy ts<ts.length
  ·rw[aR h1,bH];simp;omega
  rw[aO h1,bH];simp;omega
 refine⟨_,rfl,cA.same aae,?_⟩;dsimp only;rw[hcond];refine⟨λhc w2 cO=>?_,λhc=>?_⟩
 ·have hc:¬(0<=a/\a<ts.length/\jy ts+1=ts.length):=by
   rw[cP,fE]at hc;exact hc
  rw[bQ,aO hc];exact⟨_,rfl,Qk _ _ _,λh=>aah,(gK.weaken (bs':=[]) λ_ h=>aah).trans cO λx hx=>.inr aaj⟩
 have hc:0<=a/\a<ts.length/\jy ts+1=ts.length:=by
  rw[gv,bC]at hc;exact hc
 rw[bQ,aR hc];obtain⟨i,rfl⟩:∃i:Nat,a=(i:Int):=⟨a.toNat,aE⟩
 refine(Sh w1).mono ?_;rintro _ w3 ⟨sn,rfl,U5,da⟩;have z3:=da.size;refine⟨sn,rfl,da.same aae,λb w4 hb mH dR rD=>?_⟩;have z4:=dR.size;have nH:=gK.cn da;have hR:Rd (λk=>F k/\k<w.heap.size) (λk=>w1.heap.size<=k/\k<w3.heap.size) ts w4 b l sn i 0 0 ((0:Nat):Int):=
  ⟨rD,SliceF.only fX aL h (nH.cn dR) aM,SliceF.only db aL U5 dR aM,λk hk=>aaP,λk hk=>aaP,DB hc.2.2,aE⟩
 refine((DA (fj 0 0)).1 0 0 i w4 aL aL (aY _) hR).mono ?_;rintro _ w5 ⟨v,rfl,hD⟩;obtain⟨vk,vn,vs,vo,vl,va,rfl⟩:=hD.nB;have z5:=hD.1.size;obtain⟨fe,hD⟩:=hD;rw[ba];have Va:oe ts i=cK ts (fj 0 0) 0 0 i:=rfl;rw[Va];have fin:∀{j:Nat} {c p:Int},Rd (λk=>F k/\k<w.heap.size) (λk=>w1.heap.size<=k/\k<w3.heap.size) ts w5 b l sn j c p ((0:Nat):Int)->∀w8,ay [] w5 w8->∀w9,ay [k1,k0] w8 w9->ay [] w w9:=λhR w8 gp w9 gr=>(((nH.cn dR).trans fe λx hx=>.inr aai).cn gp).trans gr λx hx=>.inr aaj;refine⟨_,_,_,_,_,_,rfl,fe.same aae,?_⟩;cases hE:cK ts (fj 0 0) 0 0 i with
 | error e=>
  rw[hE]at hD;obtain⟨c,p⟩:=e;obtain⟨a1,a2,j,a3⟩:=hD;refine⟨_,_,_,_,_,_,a3.blk,λk3 w6 J9 zA ez KG=>?_⟩;have z6:=ez.size;refine(zT (a3.only ez)).mono ?_;rintro _ w7 ⟨rfl,gD⟩;have h7:=(a3.only ez).only gD;have ia:(c !=0)=true:=by simpa using a1
  refine⟨_,rfl,gD.same aae,_,_,_,_,_,_,h7.blk,λ_ w8 gp wy n1 n2 n3 n4 n5 n6=>⟨λk=>k=b,rfl,λe=>n2 e,λe=>n4 e,λw9 gr _=>⟨_,rfl,Qk _ _ _,λh=>absurd h a1,fin a3 w8 (ez.cn (gD.cn gp)) w9 gr⟩⟩,λhc=>by rw[ia]at hc;cases hc⟩
 | ok q=>
  rw[hE]at hD;obtain⟨x,j⟩:=q;obtain⟨cs,a1,a2,a3⟩:=hD;refine⟨_,_,_,_,_,_,a3.blk,λk3 w6 J9 zA ez KG=>?_⟩;have z6:=ez.size;refine(zT (a3.only ez)).mono ?_;rintro _ w7 ⟨rfl,gD⟩;have z7:=gD.size;have h7:=(a3.only ez).only gD;refine⟨_,rfl,gD.same aae,_,_,_,_,_,_,h7.blk,λhc=>(by simp at hc),λ_ dz dL nG n1 n2 n3 n4 n5 n6=>⟨λk=>k=b,rfl,λe=>n2 e,λe=>n4 e,λdJ dW _=>?_⟩⟩;have IL:=dL.size;have ED:=dW.size;have mq:(kD vk vn vs vo vl va)=cs:=br Array.toList (Value.agg.inj a1);refine⟨kD vk vn vs vo vl va,rfl,?_,λ_=>⟨bc j,by have:=a3.lt;dsimp only;omega⟩,fin a3 dz (ez.cn (gD.cn dL)) dJ dW⟩;rw[mq];exact((a2.only (ez.cn (gD.cn dL)) aM).only dW λq hq=>.inl aaU).wide aE aE
def fi(l:aH):Ex×Int×Int:=
 if(ch l).2.1≠0 then(tT,(ch l).2.1,(ch l).2.2)
 else if(bQ (ch l).1 0).2.2.1≠0 then(tT,(bQ (ch l).1 0).2.2.1,(bQ (ch l).1 0).2.2.2)
 else if(tk (ch l).1 (bQ (ch l).1 0).2.1.toNat).k≠5 then(tT,4,(tk (ch l).1 (bQ (ch l).1 0).2.1.toNat).a)
 else((bQ (ch l).1 0).1,0,(bQ (ch l).1 0).2.2.2)
theorem T9{w:av}(l:aH)(hE:Er w):az aq 215 #[ab (T l)] w λe w'=>
  ∃cs,e=ak (ai #[ah cs.toArray,ah #[O U (fi l).2.1,O U (fi l).2.2]])/\RX w' w.heap.size w'.heap.size (fi l).1 cs/\ay [] w w':=by
 refine(v5w (T l) (λv w'=>∃cs,v=(ai #[ah cs.toArray,ah #[O U (fi l).2.1,O U (fi l).2.2]])/\RX w' w.heap.size w'.heap.size (fi l).1 cs/\ay [] w w') w ?_).mono (by
  rintro e w' ⟨v,rfl,cs,rfl,h⟩;exact⟨cs,rfl,h⟩)
 intro k0 k1 w0 iJ dV ku jK cw;have z0:=cw.size;refine(Dw l (hE.only cw)).mono ?_;rintro _ w1 ⟨l0,rfl,hT,cA⟩;have z1:=cA.size;have gK:=cw.cn cA;generalize ov:ch l=tm at*
 obtain⟨ts,c,p⟩:=tm;dsimp only at hT⊢;have IR:fi l=if c≠0 then(tT,c,p)else if(bQ ts 0).2.2.1≠0 then(tT,(bQ ts 0).2.2.1,(bQ ts 0).2.2.2)else if(tk ts (bQ ts 0).2.1.toNat).k≠5 then(tT,4,(tk ts (bQ ts 0).2.1.toNat).a)else((bQ ts 0).1,0,(bQ ts 0).2.2.2):=by
  unfold fi;rw[ov]
 refine⟨l0,_,_,rfl,cA.same aae,λhc k2 w2 qw vS cO n1 n2 n3=>⟨λk=>k=k2,rfl,λe=>n2 e,λe=>n3 e,λw3 da=>?_⟩,λhc k3 w4 J9 zA dR=>?_⟩
 ·have hc:c≠0:=aaf
  rw[IR,aR hc];exact⟨_,rfl,Qk _ _ _,((gK.cn cO).trans da λx hx=>.inr aaj)⟩
 have hc:c=0:=aaf
 rw[aO (by simp[hc])]at IR;have z4:=dR.size;refine(Hk (hT.only dR).sl 0 ⟨aL,aL⟩).mono ?_;rintro _ w5 ⟨cs,rfl,hX,hj,fe⟩;have z5:=fe.size;generalize Ru:bQ ts 0=pa at*
 obtain⟨x,j,c',p'⟩:=pa;dsimp only at hX hj IR⊢;obtain⟨xl,rfl,_⟩:=hX.cells;refine⟨_,_,_,_,_,_,_,_,_,rfl,fe.same aae,λk4 w6 sV EG ez=>?_⟩;have z6:=ez.size;have h6:=((hT.only (dR.cn fe)).keep (w':=w6) λk hk cd=>ez.block k cd (by
  have:=hT.blk hk.2;simp only[aQ];dsimp only at this;omega))
 have Xd:=h6.len;have Gs:ay [] w w6:=((gK.cn dR).cn fe).new ez aE;have fin:∀{w8 w9:av},ay [k3] w6 w8->ay [k1,k0] w8 w9->ay [] w w9:=λh8 h9=>(Gs.new h8 aE).trans h9 λx hx=>.inr aaj;refine⟨λi9 i10 w7=>ay [k3] w6 w7/\((c'≠0/\i9=c'/\i10=p')∨(c'=0/\(tk ts j.toNat).k≠5/\i9=4/\i10=(tk ts j.toNat).a)∨(c'=0/\(tk ts j.toNat).k=5/\i9=0/\i10=p')),?_,?_⟩
 ·rintro i9 i10 w7 ⟨gD,Ta⟩;have z7:=gD.size;refine⟨λhi w8 gp n1 n2 n3 n4 n5 n6=>⟨λk=>k=k3,rfl,?_,?_,λw9 gr=>?_⟩,λhi dz dL n1 n2 n3 n4 n5 n6=>⟨λk=>k=k3,rfl,?_,?_,λdJ dW=>?_⟩⟩
  ·intro e;omega
  ·intro e;omega
  ·have hi:i9≠0:=aaC
   have hr:fi l=(tT,i9,i10):=by
    rw[IR];rcases Ta with⟨a1,rfl,rfl⟩ | ⟨a1,a2,rfl,rfl⟩ | ⟨a1,a2,rfl,rfl⟩
    ·rw[aR a1]
    ·rw[aO (by simp[a1]),aR a2]
    exact absurd rfl hi
   rw[hr];exact⟨_,rfl,Qk _ _ _,fin (gD.cn gp) gr⟩
  ·intro e;omega
  ·intro e;omega
  have hi:i9=0:=aaC
  have hr:fi l=(x,i9,i10):=by
   rw[IR];rcases Ta with⟨a1,rfl,rfl⟩ | ⟨a1,a2,rfl,rfl⟩ | ⟨a1,a2,rfl,rfl⟩
   ·exact absurd hi a1
   ·exact absurd hi aL
   rw[aO (by simp[a1]),aO (by simp[a2])]
  rw[hr];have wN:ay [k3,k1,k0] w5 dJ:=(((ez.trans gD λx hx=>.inl hx).cn dL).weaken (bs':=[k3,k1,k0]) λx hx=>.inl aag).trans dW λx hx=>.inl aaF;have ED:=wN.size;exact⟨_,rfl,(hX.only wN λq hq=>.inl aaU).wide aE ED,fin (gD.cn dL) dW⟩
 by_cases xn:c'=0
 ·obtain⟨Pm,EV⟩:=hj xn;obtain⟨n,rfl⟩:∃n:Nat,j=(n:Int):=⟨j.toNat,aE⟩
  obtain⟨ad,t,cs,g1,g2,g3,g4,g5,g6⟩:=h6.sl.get Pm aE;rw[ba,yg aE]at g2;injection g2 with g2;subst g2;unfold Bl at g6;subst g6;rw[ba];refine⟨ad,λ_=>g1,(tk ts n).k,λ_=>g5.eo 0 _ rfl,λhh=>⟨ad,g1,(tk ts n).a,g5.eo 3 _ rfl,λeM eJ=>⟨eJ,.inr (.inl ⟨xn,?_,rfl,rfl⟩)⟩⟩,λhh=>⟨Only.refl _ _,.inr (.inr ⟨xn,?_,xn,rfl⟩)⟩⟩
  ·simpa[xn]using hh
  simpa[xn]using hh
 have hb:(c'==0)=false:=by simpa using xn
 refine⟨⟨0,0,none⟩,λhh=>acj,0,λhh=>acj,λhh=>acj,λ_=>⟨Only.refl _ _,.inl ⟨xn,rfl,rfl⟩⟩⟩
def rX:Nat->Rp Ex
 | 0=>λ_ _ _ _=>False
 | d+1=>λw F x cs=>∃sl:Sl,cs=kD x.k x.n x.s x.op sl x.a/\aA (rX d) 6 w F sl x.dq
theorem ig:∀d,(rX d).Ok
 | 0=>⟨λh _=>h.elim,λh=>h.elim,λh _=>h.elim,λh=>h.elim⟩
 | d+1=>⟨λ⟨sl,h1,h2⟩ hk=>⟨sl,h1,SliceF.keep (ig d) h2 aL hk⟩,λ⟨sl,h1,h2⟩=>⟨sl,h1,SliceF.inHeap (ig d) h2 aL⟩,λ⟨sl,h1,h2⟩ hk=>⟨sl,h1,SliceF.mono (ig d) h2 hk⟩,λ⟨sl,h1,h2⟩=>by
  subst h1;intro v hv;simp only[aX,be,ca]at hv;rcases hv with rfl | rfl | rfl | rfl | rfl | rfl<;>rfl⟩
theorem DC{α:Type}{r q:Rp α}{size:Nat}{w:av}{F:aJ}{s:Sl}{xs:List α}(h:aA r size w F s xs)(hi:∀x cs,x∈xs->r w F x cs->q w F x cs):aA q size w F s xs:=
 ⟨h.len,h.cap,h.nil0,h.big,λj x hx=>by
  obtain⟨base,cs,h1,h2,h3,h4,h5⟩:=h.at_ j x hx;exact⟨base,cs,h1,h2,h3,h4,hi x cs (bF hx) h5⟩⟩
section
variable {w w':av} {F:aJ} {x y:Ex} {cs ds:aI}
theorem LX:∀{d:Nat} {x:Ex} {cs:aI},rX d w F x cs->rX (d+1) w F x cs
 | 0,_,_,h=>h.elim
 | d+1,x,cs,⟨sl,h1,h2⟩=>⟨sl,h1,DC h2 λx cs _ h=>LX h⟩
theorem LY{d e:Nat}(h:d<=e)(hx:rX d w F x cs):rX e w F x cs:=by
 induction e with
 | zero=>have:d=0:=aE;subst this;exact hx
 | succ e ih=>
  by_cases he:d=e+1
  ·subst he;exact hx
  exact LX (ih aE)
theorem fy{d:Nat}(h:rX d w F x cs)(hO:ay [] w w'):rX d w' F x cs:=(ig d).only h hO aM
theorem RXN.ex{N:aJ}{lo hi:Nat}(h:RXN w N lo hi x cs):∃d,rX d w (λk=>lo<=k/\k<hi) x cs:=by
 induction h with
 | leaf lo hi k n s op a=>exact⟨1,Sl.nil,rfl,SliceF.nil _ _ _ _⟩
 | one lo m g hi k n s op a x cs h1 h2 h3 h4 hn h5 ih=>
  obtain⟨d,ih⟩:=ih;obtain⟨sl,mq,_⟩:=h1.cells;refine⟨d+1,_,rfl,rfl,aY _,λh=>aah,(by decide:(1:Nat)<=9223372036854775807),λj y hj=>?_⟩;have Pm:j=0:=by
   have:=(bd.1 hj).1;simp only[Ex.dq,bp]at this;omega
  subst Pm;simp only[Ex.dq,cW,bg]at hj;subst hj;exact⟨⟨g,0,none⟩,cs,rfl,⟨h2,h4⟩,by rw[mq];rfl,by rw[rK];exact h5.cells 0 cs λj v hv=>by rw[bI];exact hv,(ig d).mono ih λk hk=>⟨hk.1,aE⟩⟩
 | two lo m m' m2 g hi k n s op a x y cs ds h1 h2 h3 h4 h5 h6 h7 h8 hn h9 zy CE=>
  obtain⟨d1,zy⟩:=zy;obtain⟨d2,CE⟩:=CE;obtain⟨sl,mq,_⟩:=h1.cells;obtain⟨Ob,NX,_⟩:=h3.cells;have e1:cs.length=6:=by rw[mq];rfl
  have e2:ds.length=6:=by rw[NX];rfl
  refine⟨max d1 d2+1,_,rfl,rfl,aY _,λh=>aah,(by decide:(2:Nat)<=9223372036854775807),λj y hj=>?_⟩;rcases j with _ | _ | j
  ·simp only[Ex.dq,cW,bg]at hj;subst hj;exact⟨⟨g,0,none⟩,cs,rfl,⟨aaq,h8⟩,e1,by rw[rK];exact h9.cells 0 cs λj v hv=>by rw[bI,bT (bd.1 hv).1];exact hv,(ig _).mono (LY (xv _ _) zy) λk hk=>⟨hk.1,aE⟩⟩
  ·simp only[Ex.dq,gL,cW,bg]at hj;subst hj;exact⟨⟨g,0,none⟩,ds,rfl,⟨aaq,h8⟩,e2,by
    rw[gM];exact h9.cells 6 ds λj v hv=>by rw[dE aE,e1,dI];exact hv,(ig _).mono (LY (vV _ _) CE) λk hk=>⟨aE,aE⟩⟩
  simp[Ex.dq]at hj
end
def Bq(f:Ex->Ex->Bool):List Ex->List Ex->Bool
 | x::xs,y::ys=>f x y&&Bq f xs ys
 | _,_=>true
def DD(t:Bool)(x y:Ex):Bool:=(((((x.k !=y.k)||(x.n !=y.n))||(!decide (x.s=y.s)))||(x.op !=y.op))||(t&&(x.a !=y.a)))||((x.dq.length:Int) !=(y.dq.length:Int))
def nc(t:Bool):Nat->Ex->Ex->Bool
 | 0,_,_=>true
 | d+1,x,y=>if DD t x y then false else Bq (nc t d) x.dq y.dq
theorem Jn{f:Ex->Ex->Bool}{xs ys:List Ex}{n:Nat}{x y:Ex}(hx:xs[n]? =some x)(hy:ys[n]? =some y):Bq f (xs.drop n) (ys.drop n)=(f x y&&Bq f (xs.drop (n+1)) (ys.drop (n+1))):=by
 have e:∀{l:List Ex} {z:Ex},l[n]? =some z->l.drop n=z::l.drop (n+1):=λh=>by
  rw[fU (bd.1 h).1,(bd.1 h).2]
 rw[e hx,e hy,Bq]
theorem ju(l m:aH):((T l).toList==(T m).toList)=decide (l=m):=RR l m
end Go.Proofs.YtmgndgpgngcgpaaGreatDoor.Con
