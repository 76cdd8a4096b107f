import Derived.Test.YtmhoiicofhlgbaaGreatDoorQl3
set_option linter.unusedSectionVars false
namespace Go.Proofs
open Go.Shelf
def Tryz.u4:Go.Shelf.Ren:=⟨fun | 156=>149 | 165=>148 | 166=>82 | 169=>43 | 240=>145 | 241=>215 | 276=>211 | 277=>257 | n=>n,fun | 31=>52 | 9=>9 | 3=>3 | 4=>4 | 0=>0 | 20=>20 | 72=>70 | 76=>146 | 70=>67 | 37=>68 | 75=>145 | 127=>153 | 164=>248 | 5=>5 | 80=>82 | n=>n,fun | n=>n⟩
theorem Tryz.Ie:Go.Proofs.Lays.n156 Tryz.prog Tryz.u4:={
 mixed:=by kernel_rfl
 f156:=Tryz.func149.trans (aU some (by kernel_rfl))
 f165:=Tryz.func148.trans (aU some (by kernel_rfl))
 f166:=Tryz.func82.trans (aU some (by kernel_rfl))
 f169:=Tryz.func43.trans (aU some (by kernel_rfl))
 f240:=Tryz.func145.trans (aU some (by kernel_rfl))
 f241:=Tryz.func215.trans (aU some (by kernel_rfl))
 f276:=Tryz.func211.trans (aU some (by kernel_rfl))
 f277:=Tryz.func257.trans (aU some (by kernel_rfl))
 t0:=Tryz.underlying0
 a0:=Tryz.isAgg0
 z0:=Tryz.sizeOf0
 v0:=Tryz.zeroValue0
 t3:=Tryz.underlying3
 a3:=Tryz.isAgg3
 z3:=Tryz.sizeOf3
 v3:=Tryz.zeroValue3
 t4:=Tryz.underlying4
 a4:=Tryz.isAgg4
 z4:=Tryz.sizeOf4
 v4:=Tryz.zeroValue4
 t9:=Tryz.underlying9
 a9:=Tryz.isAgg9
 z9:=Tryz.sizeOf9
 v9:=Tryz.zeroValue9
 t20:=Tryz.underlying20
 a20:=Tryz.isAgg20
 z20:=Tryz.sizeOf20
 v20:=Tryz.zeroValue20
 t31:=Tryz.underlying52
 a31:=Tryz.isAgg52
 z31:=Tryz.sizeOf52
 v31:=Tryz.zeroValue52
 t37:=Tryz.underlying68
 a37:=Tryz.isAgg68
 z37:=Tryz.sizeOf68
 v37:=Tryz.zeroValue68
 t70:=Tryz.underlying67
 a70:=Tryz.isAgg67
 z70:=Tryz.sizeOf67
 v70:=Tryz.zeroValue67
 t72:=Tryz.underlying70
 a72:=Tryz.isAgg70
 z72:=Tryz.sizeOf70
 v72:=Tryz.zeroValue70
 t75:=Tryz.underlying145
 a75:=Tryz.isAgg145
 z75:=Tryz.sizeOf145
 v75:=Tryz.zeroValue145
 t76:=Tryz.underlying146
 a76:=Tryz.isAgg146
 z76:=Tryz.sizeOf146
 v76:=Tryz.zeroValue146
 t127:=Tryz.underlying153
 a127:=Tryz.isAgg153
 z127:=Tryz.sizeOf153
 v127:=Tryz.zeroValue153
 t164:=Tryz.underlying248
 a164:=Tryz.isAgg248
 z164:=Tryz.sizeOf248
 v164:=Tryz.zeroValue248}
theorem Tryz.mE:Builder.Extra Tryz.prog Tryz.u4:={
 sizeBuilder:=by kernel_rfl
 liesBuilder:=by kernel_rfl
 t5:=Tryz.underlying5
 a5:=Tryz.isAgg5
 z5:=Tryz.sizeOf5
 v5:=Tryz.zeroValue5
 infoByte:=by kernel_rfl
 cellsByte:=by kernel_rfl
 sizeByte:=by kernel_rfl
 neB5:=by decide}
open Go.RowKit in
theorem Tryz.strings_Join_none (a:Option Addr) (c:Nat) (sep:ByteArray) (w:World):
 Calls Tryz.prog 149 #[.slice a 0 c,.string sep] w fun e w'=>e=.returned (.string ⟨#[]⟩)/\w'=w:=Any.strings_Join_none Tryz.Ie Tryz.mE a c sep w
open Go.RowKit in
theorem Tryz.strings_Join (bk o c:Nat) (xs:List ByteArray) (sep:ByteArray) (w:World) (rT:∀(j:Nat) x,xs[j]? =some x->w.cell? ⟨bk,o+j,none⟩=some (.string x)) (JX:bk<w.heap.size) (hN:xs.length<=140737488355328) (nT:xs.length<=c) (dN:(Lib.join (xs.map (·.data.toList)) sep.data.toList).length<=140737488355328):
 Calls Tryz.prog 149 #[.slice (some ⟨bk,o,none⟩) xs.length c,.string sep] w fun e w'=>e=.returned (.string ⟨(Lib.join (xs.map (·.data.toList)) sep.data.toList).toArray⟩)/\Below w.heap.size w w':=Any.strings_Join Tryz.Ie Tryz.mE bk o c xs sep w rT JX hN nT dN
def Tryz.Bk:Go.Shelf.Ren:=⟨fun | 171=>86 | 243=>155 | 246=>217 | 283=>258 | 284=>259 | 285=>260 | 286=>261 | 129=>248 | 317=>289 | 318=>290 | 319=>291 | 320=>292 | 337=>308 | 338=>309 | n=>n,fun | 3=>3 | 9=>9 | 2=>2 | 4=>4 | 171=>282 | 0=>0 | 53=>161 | 37=>68 | 5=>5 | 173=>284 | 212=>313 | 51=>250 | 20=>20 | 213=>314 | 46=>210 | 232=>340 | 233=>341 | n=>n,fun | 17=>3 | 18=>4 | 19=>5 | n=>n⟩
theorem Tryz.Nv:Go.Proofs.LaysM.n171 Tryz.prog Tryz.Bk:={
 mixed:=by kernel_rfl
 f129:=Tryz.func248.trans (aU some (by kernel_rfl))
 f171:=Tryz.func86.trans (aU some (by kernel_rfl))
 f243:=Tryz.func155.trans (aU some (by kernel_rfl))
 f246:=Tryz.func217.trans (aU some (by kernel_rfl))
 f283:=Tryz.func258.trans (aU some (by kernel_rfl))
 f284:=Tryz.func259.trans (aU some (by kernel_rfl))
 f285:=Tryz.func260.trans (aU some (by kernel_rfl))
 f286:=Tryz.func261.trans (aU some (by kernel_rfl))
 f317:=Tryz.func289.trans (aU some (by kernel_rfl))
 f318:=Tryz.func290.trans (aU some (by kernel_rfl))
 f319:=Tryz.func291.trans (aU some (by kernel_rfl))
 f320:=Tryz.func292.trans (aU some (by kernel_rfl))
 f337:=Tryz.func308.trans (aU some (by kernel_rfl))
 f338:=Tryz.func309.trans (aU some (by kernel_rfl))
 t0:=Tryz.underlying0
 a0:=Tryz.isAgg0
 z0:=Tryz.sizeOf0
 v0:=Tryz.zeroValue0
 t2:=Tryz.underlying2
 a2:=Tryz.isAgg2
 z2:=Tryz.sizeOf2
 v2:=Tryz.zeroValue2
 t3:=Tryz.underlying3
 a3:=Tryz.isAgg3
 z3:=Tryz.sizeOf3
 v3:=Tryz.zeroValue3
 t4:=Tryz.underlying4
 a4:=Tryz.isAgg4
 z4:=Tryz.sizeOf4
 v4:=Tryz.zeroValue4
 t5:=Tryz.underlying5
 a5:=Tryz.isAgg5
 z5:=Tryz.sizeOf5
 v5:=Tryz.zeroValue5
 t9:=Tryz.underlying9
 a9:=Tryz.isAgg9
 z9:=Tryz.sizeOf9
 v9:=Tryz.zeroValue9
 t20:=Tryz.underlying20
 a20:=Tryz.isAgg20
 z20:=Tryz.sizeOf20
 v20:=Tryz.zeroValue20
 t37:=Tryz.underlying68
 a37:=Tryz.isAgg68
 z37:=Tryz.sizeOf68
 v37:=Tryz.zeroValue68
 t46:=Tryz.underlying210
 a46:=Tryz.isAgg210
 z46:=Tryz.sizeOf210
 v46:=Tryz.zeroValue210
 t51:=Tryz.underlying250
 a51:=Tryz.isAgg250
 z51:=Tryz.sizeOf250
 v51:=Tryz.zeroValue250
 t53:=Tryz.underlying161
 a53:=Tryz.isAgg161
 z53:=Tryz.sizeOf161
 v53:=Tryz.zeroValue161
 t171:=Tryz.underlying282
 a171:=Tryz.isAgg282
 z171:=Tryz.sizeOf282
 v171:=Tryz.zeroValue282
 t173:=Tryz.underlying284
 a173:=Tryz.isAgg284
 z173:=Tryz.sizeOf284
 v173:=Tryz.zeroValue284
 t212:=Tryz.underlying313
 a212:=Tryz.isAgg313
 z212:=Tryz.sizeOf313
 v212:=Tryz.zeroValue313
 t213:=Tryz.underlying314
 a213:=Tryz.isAgg314
 z213:=Tryz.sizeOf314
 t232:=Tryz.underlying340
 a232:=Tryz.isAgg340
 z232:=Tryz.sizeOf340
 v232:=Tryz.zeroValue340
 t233:=Tryz.underlying341
 a233:=Tryz.isAgg341
 z233:=Tryz.sizeOf341
 v233:=Tryz.zeroValue341
 g17:=by kernel_rfl
 g18:=by kernel_rfl
 g19:=by kernel_rfl
 i0:=by kernel_rfl
 i2:=by kernel_rfl
 i3:=by kernel_rfl
 i4:=by kernel_rfl
 i5:=by kernel_rfl
 i9:=by kernel_rfl
 i20:=by kernel_rfl
 i37:=by kernel_rfl
 i46:=by kernel_rfl
 i51:=by kernel_rfl
 i53:=by kernel_rfl
 i171:=by kernel_rfl
 i173:=by kernel_rfl
 i212:=by kernel_rfl
 i232:=by kernel_rfl
 i233:=by kernel_rfl
 m17:=by kernel_rfl
 m18:=by kernel_rfl
 m19:=by kernel_rfl}
open Go.RowKit Go.Sort Go.Lib in
theorem Tryz.strconv_Itoa (n:Int) (h0: -9223372036854775808<=n) (h1:n<=9223372036854775807) (w:World) (ahj:Lib.TabIs Tryz.prog w "internal/strconv.uint64pow10" .u64 Lib.pow10Tab):
 Calls Tryz.prog 86 #[.int .i64 n] w fun e w'=>e=.returned (.string ⟨(Lib.itoa n).toArray⟩)/\∃k os,w'=grow (w.drewN k) os:=Any.strconv_Itoa Tryz.Nv n h0 h1 w ahj
def Tryz.Bl:Go.Shelf.Ren:=⟨fun | 316=>285 | n=>n,fun | 9=>9 | 3=>3 | 4=>4 | 37=>68 | 0=>0 | 127=>153 | 5=>5 | n=>n,fun | n=>n⟩
theorem Tryz.Nw:Go.Proofs.LaysM.n316 Tryz.prog Tryz.Bl:={
 mixed:=by kernel_rfl
 f316:=Tryz.func285.trans (aU some (by kernel_rfl))
 t0:=Tryz.underlying0
 a0:=Tryz.isAgg0
 z0:=Tryz.sizeOf0
 v0:=Tryz.zeroValue0
 t3:=Tryz.underlying3
 a3:=Tryz.isAgg3
 z3:=Tryz.sizeOf3
 v3:=Tryz.zeroValue3
 t4:=Tryz.underlying4
 a4:=Tryz.isAgg4
 z4:=Tryz.sizeOf4
 v4:=Tryz.zeroValue4
 t9:=Tryz.underlying9
 a9:=Tryz.isAgg9
 z9:=Tryz.sizeOf9
 v9:=Tryz.zeroValue9
 t37:=Tryz.underlying68
 a37:=Tryz.isAgg68
 z37:=Tryz.sizeOf68
 v37:=Tryz.zeroValue68
 t127:=Tryz.underlying153
 a127:=Tryz.isAgg153
 z127:=Tryz.sizeOf153
 v127:=Tryz.zeroValue153
 t5:=Tryz.underlying5
 a5:=Tryz.isAgg5
 z5:=Tryz.sizeOf5
 v5:=Tryz.zeroValue5
 i0:=by kernel_rfl
 i3:=by kernel_rfl
 i4:=by kernel_rfl
 i5:=by kernel_rfl
 i9:=by kernel_rfl
 i37:=by kernel_rfl
 i127:=by kernel_rfl}
open Go.RowKit in
theorem Tryz.stringslite_Clone (s:ByteArray) (w:World) (Vu:s.size<=281474976710656):
 Calls Tryz.prog 285 #[.string s] w fun e w'=>e=.returned (.string s)/\Below w.heap.size w w':=Any.stringslite_Clone Tryz.Nw s w Vu
def Tryz.Bm:Go.Shelf.Ren:=⟨fun | 174=>287 | 247=>302 | 245=>303 | 287=>313 | 279=>314 | 280=>315 | 281=>316 | 282=>317 | 321=>325 | 322=>326 | 316=>285 | 171=>86 | 205=>327 | 243=>155 | 246=>217 | 283=>258 | 284=>259 | 285=>260 | 286=>261 | 129=>248 | 317=>289 | 318=>290 | 319=>291 | 320=>292 | 337=>308 | 338=>309 | n=>n,fun | 9=>9 | 3=>3 | 2=>2 | 75=>145 | 85=>310 | 4=>4 | 167=>333 | 5=>5 | 53=>161 | 175=>334 | 46=>210 | 168=>336 | 37=>68 | 0=>0 | 210=>344 | 21=>21 | 127=>153 | 145=>351 | 143=>349 | 171=>282 | 173=>284 | 212=>313 | 51=>250 | 20=>20 | 213=>314 | 232=>340 | 233=>341 | 80=>82 | n=>n,fun | 15=>6 | 16=>7 | 17=>3 | 18=>4 | 19=>5 | n=>n⟩
theorem Tryz.DV:Go.Proofs.LaysC.n174 Tryz.prog Tryz.Bm:={
 mixed:=by kernel_rfl
 f129:=Tryz.func248.trans (aU some (by kernel_rfl))
 f171:=Tryz.func86.trans (aU some (by kernel_rfl))
 f174:=Tryz.func287.trans (aU some (by kernel_rfl))
 f205:=Tryz.func327.trans (aU some (by kernel_rfl))
 f243:=Tryz.func155.trans (aU some (by kernel_rfl))
 f245:=Tryz.func303.trans (aU some (by kernel_rfl))
 f246:=Tryz.func217.trans (aU some (by kernel_rfl))
 f247:=Tryz.func302.trans (aU some (by kernel_rfl))
 f279:=Tryz.func314.trans (aU some (by kernel_rfl))
 f280:=Tryz.func315.trans (aU some (by kernel_rfl))
 f281:=Tryz.func316.trans (aU some (by kernel_rfl))
 f282:=Tryz.func317.trans (aU some (by kernel_rfl))
 f283:=Tryz.func258.trans (aU some (by kernel_rfl))
 f284:=Tryz.func259.trans (aU some (by kernel_rfl))
 f285:=Tryz.func260.trans (aU some (by kernel_rfl))
 f286:=Tryz.func261.trans (aU some (by kernel_rfl))
 f287:=Tryz.func313.trans (aU some (by kernel_rfl))
 f316:=Tryz.func285.trans (aU some (by kernel_rfl))
 f317:=Tryz.func289.trans (aU some (by kernel_rfl))
 f318:=Tryz.func290.trans (aU some (by kernel_rfl))
 f319:=Tryz.func291.trans (aU some (by kernel_rfl))
 f320:=Tryz.func292.trans (aU some (by kernel_rfl))
 f321:=Tryz.func325.trans (aU some (by kernel_rfl))
 f322:=Tryz.func326.trans (aU some (by kernel_rfl))
 f337:=Tryz.func308.trans (aU some (by kernel_rfl))
 f338:=Tryz.func309.trans (aU some (by kernel_rfl))
 t0:=Tryz.underlying0
 a0:=Tryz.isAgg0
 z0:=Tryz.sizeOf0
 v0:=Tryz.zeroValue0
 t2:=Tryz.underlying2
 a2:=Tryz.isAgg2
 z2:=Tryz.sizeOf2
 v2:=Tryz.zeroValue2
 t3:=Tryz.underlying3
 a3:=Tryz.isAgg3
 z3:=Tryz.sizeOf3
 v3:=Tryz.zeroValue3
 t4:=Tryz.underlying4
 a4:=Tryz.isAgg4
 z4:=Tryz.sizeOf4
 v4:=Tryz.zeroValue4
 t5:=Tryz.underlying5
 a5:=Tryz.isAgg5
 z5:=Tryz.sizeOf5
 v5:=Tryz.zeroValue5
 t9:=Tryz.underlying9
 a9:=Tryz.isAgg9
 z9:=Tryz.sizeOf9
 v9:=Tryz.zeroValue9
 t20:=Tryz.underlying20
 a20:=Tryz.isAgg20
 z20:=Tryz.sizeOf20
 v20:=Tryz.zeroValue20
 t21:=Tryz.underlying21
 a21:=Tryz.isAgg21
 z21:=Tryz.sizeOf21
 v21:=Tryz.zeroValue21
 t37:=Tryz.underlying68
 a37:=Tryz.isAgg68
 z37:=Tryz.sizeOf68
 v37:=Tryz.zeroValue68
 t46:=Tryz.underlying210
 a46:=Tryz.isAgg210
 z46:=Tryz.sizeOf210
 v46:=Tryz.zeroValue210
 t51:=Tryz.underlying250
 a51:=Tryz.isAgg250
 z51:=Tryz.sizeOf250
 v51:=Tryz.zeroValue250
 t53:=Tryz.underlying161
 a53:=Tryz.isAgg161
 z53:=Tryz.sizeOf161
 v53:=Tryz.zeroValue161
 t75:=Tryz.underlying145
 a75:=Tryz.isAgg145
 z75:=Tryz.sizeOf145
 v75:=Tryz.zeroValue145
 t85:=Tryz.underlying310
 a85:=Tryz.isAgg310
 z85:=Tryz.sizeOf310
 v85:=Tryz.zeroValue310
 t127:=Tryz.underlying153
 a127:=Tryz.isAgg153
 z127:=Tryz.sizeOf153
 v127:=Tryz.zeroValue153
 t143:=Tryz.underlying349
 a143:=Tryz.isAgg349
 z143:=Tryz.sizeOf349
 v143:=Tryz.zeroValue349
 t145:=Tryz.underlying351
 a145:=Tryz.isAgg351
 z145:=Tryz.sizeOf351
 v145:=Tryz.zeroValue351
 t167:=Tryz.underlying333
 a167:=Tryz.isAgg333
 z167:=Tryz.sizeOf333
 v167:=Tryz.zeroValue333
 t168:=Tryz.underlying336
 a168:=Tryz.isAgg336
 z168:=Tryz.sizeOf336
 v168:=Tryz.zeroValue336
 t171:=Tryz.underlying282
 a171:=Tryz.isAgg282
 z171:=Tryz.sizeOf282
 v171:=Tryz.zeroValue282
 t173:=Tryz.underlying284
 a173:=Tryz.isAgg284
 z173:=Tryz.sizeOf284
 v173:=Tryz.zeroValue284
 t175:=Tryz.underlying334
 a175:=Tryz.isAgg334
 z175:=Tryz.sizeOf334
 v175:=Tryz.zeroValue334
 t210:=Tryz.underlying344
 a210:=Tryz.isAgg344
 z210:=Tryz.sizeOf344
 v210:=Tryz.zeroValue344
 t212:=Tryz.underlying313
 a212:=Tryz.isAgg313
 z212:=Tryz.sizeOf313
 v212:=Tryz.zeroValue313
 t213:=Tryz.underlying314
 a213:=Tryz.isAgg314
 z213:=Tryz.sizeOf314
 t232:=Tryz.underlying340
 a232:=Tryz.isAgg340
 z232:=Tryz.sizeOf340
 v232:=Tryz.zeroValue340
 t233:=Tryz.underlying341
 a233:=Tryz.isAgg341
 z233:=Tryz.sizeOf341
 v233:=Tryz.zeroValue341
 g15:=by kernel_rfl
 g16:=by kernel_rfl
 g17:=by kernel_rfl
 g18:=by kernel_rfl
 g19:=by kernel_rfl
 t80:=Tryz.underlying82
 a80:=Tryz.isAgg82
 z80:=Tryz.sizeOf82
 v80:=Tryz.zeroValue82
 i0:=by kernel_rfl
 i2:=by kernel_rfl
 i3:=by kernel_rfl
 i4:=by kernel_rfl
 i5:=by kernel_rfl
 i9:=by kernel_rfl
 i20:=by kernel_rfl
 i21:=by kernel_rfl
 i37:=by kernel_rfl
 i46:=by kernel_rfl
 i51:=by kernel_rfl
 i53:=by kernel_rfl
 i75:=by kernel_rfl
 i80:=by kernel_rfl
 i85:=by kernel_rfl
 i127:=by kernel_rfl
 i143:=by kernel_rfl
 i145:=by kernel_rfl
 i167:=by kernel_rfl
 i168:=by kernel_rfl
 i171:=by kernel_rfl
 i173:=by kernel_rfl
 i175:=by kernel_rfl
 i210:=by kernel_rfl
 i212:=by kernel_rfl
 i232:=by kernel_rfl
 i233:=by kernel_rfl
 m15:=by kernel_rfl
 m16:=by kernel_rfl
 m17:=by kernel_rfl
 m18:=by kernel_rfl
 m19:=by kernel_rfl
 c0:=by kernel_rfl
 c2:=by kernel_rfl
 c3:=by kernel_rfl
 c4:=by kernel_rfl
 c5:=by kernel_rfl
 c9:=by kernel_rfl
 c20:=by kernel_rfl
 c21:=by kernel_rfl
 c37:=by kernel_rfl
 c46:=by kernel_rfl
 c51:=by kernel_rfl
 c53:=by kernel_rfl
 c75:=by kernel_rfl
 c80:=by kernel_rfl
 c85:=by kernel_rfl
 c127:=by kernel_rfl
 c143:=by kernel_rfl
 c145:=by kernel_rfl
 c167:=by kernel_rfl
 c168:=by kernel_rfl
 c171:=by kernel_rfl
 c173:=by kernel_rfl
 c175:=by kernel_rfl
 c210:=by kernel_rfl
 c212:=by kernel_rfl
 c213:=by kernel_rfl
 c232:=by kernel_rfl
 c233:=by kernel_rfl}
open Go.RowKit in
theorem Tryz.strconv_ParseInt_10_at64_ok (s:ByteArray) (ahk:s.size<=9223372036854775806) (v:Int) (h:Lib.parseIntB 64 s.data.toList=.ok v) (w:World):
 Calls Tryz.prog 287 #[.string s,.int .i64 10,.int .i64 64] w fun e w'=>e=.returned (.tuple #[.int .i64 v,.nilIface])/\(w'=w∨∃t,w'=Lib.bytesWorld w 5 t):=Any.strconv_ParseInt_10_at64_ok Tryz.DV s ahk v h w
open Go.RowKit in
theorem Tryz.strconv_ParseInt_10_at64_range_var (s:ByteArray) (Vu:s.size<=281474976710656) (h:Lib.parseIntB 64 s.data.toList=.range) (tp:TypeId) (p:Value) (w:World) (Vv:w.var? Tryz.prog "strconv.ErrRange" =some #[.iface tp p]):
 Calls Tryz.prog 287 #[.string s,.int .i64 10,.int .i64 64] w fun e w'=>∃N,e=.returned (.tuple #[.int .i64 (Lib.intSat 64 s.data.toList),.iface 336 (.pointer (some ⟨N,0,none⟩))])/\w.heap.size<=N/\w'.heap[N]? =some (.cells #[.string ⟨#[80,97,114,115,101,73,110,116]⟩,.string s,.iface tp p] 344 (0,0))/\Below w.heap.size w w':=Any.strconv_ParseInt_10_at64_range_var Tryz.DV s Vu h tp p w Vv
def Tryz.DW:Go.Shelf.Ren:=⟨fun | 219=>228 | 217=>266 | 225=>267 | 224=>268 | 267=>269 | 266=>298 | 314=>299 | n=>n,fun | 9=>9 | 3=>3 | 4=>4 | 5=>5 | 46=>210 | 146=>251 | 51=>250 | n=>n,fun | 1=>0 | n=>n⟩
theorem Tryz.QN:Go.Proofs.Lays.n219 Tryz.prog Tryz.DW:={
 mixed:=by kernel_rfl
 f217:=Tryz.func266.trans (aU some (by kernel_rfl))
 f219:=Tryz.func228.trans (aU some (by kernel_rfl))
 f224:=Tryz.func268.trans (aU some (by kernel_rfl))
 f225:=Tryz.func267.trans (aU some (by kernel_rfl))
 f266:=Tryz.func298.trans (aU some (by kernel_rfl))
 f267:=Tryz.func269.trans (aU some (by kernel_rfl))
 f314:=Tryz.func299.trans (aU some (by kernel_rfl))
 t3:=Tryz.underlying3
 a3:=Tryz.isAgg3
 z3:=Tryz.sizeOf3
 v3:=Tryz.zeroValue3
 t4:=Tryz.underlying4
 a4:=Tryz.isAgg4
 z4:=Tryz.sizeOf4
 v4:=Tryz.zeroValue4
 t5:=Tryz.underlying5
 a5:=Tryz.isAgg5
 z5:=Tryz.sizeOf5
 v5:=Tryz.zeroValue5
 t9:=Tryz.underlying9
 a9:=Tryz.isAgg9
 z9:=Tryz.sizeOf9
 v9:=Tryz.zeroValue9
 t46:=Tryz.underlying210
 a46:=Tryz.isAgg210
 z46:=Tryz.sizeOf210
 v46:=Tryz.zeroValue210
 t51:=Tryz.underlying250
 a51:=Tryz.isAgg250
 z51:=Tryz.sizeOf250
 v51:=Tryz.zeroValue250
 t146:=Tryz.underlying251
 a146:=Tryz.isAgg251
 z146:=Tryz.sizeOf251
 v146:=Tryz.zeroValue251
 g1:=by kernel_rfl}
open Go.RowKit Go.Lib in
theorem Tryz.stringslite_Index_one (s:ByteArray) (c:UInt8) (w:World):
 Calls Tryz.prog 228 #[.string s,.string ⟨#[c]⟩] w fun e w'=>e=.returned (.int .i64 (Lib.indexByte s.data.toList c))/\w'=w:=Any.stringslite_Index_one Tryz.QN s c w
def Tryz.u5:Go.Shelf.Ren:=⟨fun | 105=>83 | 212=>146 | 99=>147 | 165=>148 | 166=>82 | 170=>91 | 169=>43 | 263=>212 | 264=>213 | 206=>214 | 240=>145 | 241=>215 | 276=>211 | 277=>257 | n=>n,fun | 9=>9 | 3=>3 | 4=>4 | 20=>20 | 0=>0 | 46=>210 | 109=>211 | 5=>5 | 72=>70 | 76=>146 | 51=>250 | 146=>251 | 53=>161 | 148=>253 | 70=>67 | 37=>68 | 75=>145 | 127=>153 | 164=>248 | 80=>82 | n=>n,fun | n=>n⟩
theorem Tryz.QO:Go.Proofs.Lays.n105 Tryz.prog Tryz.u5:={
 mixed:=by kernel_rfl
 f99:=Tryz.func147.trans (aU some (by kernel_rfl))
 f105:=Tryz.func83.trans (aU some (by kernel_rfl))
 f165:=Tryz.func148.trans (aU some (by kernel_rfl))
 f166:=Tryz.func82.trans (aU some (by kernel_rfl))
 f169:=Tryz.func43.trans (aU some (by kernel_rfl))
 f170:=Tryz.func91.trans (aU some (by kernel_rfl))
 f206:=Tryz.func214.trans (aU some (by kernel_rfl))
 f212:=Tryz.func146.trans (aU some (by kernel_rfl))
 f240:=Tryz.func145.trans (aU some (by kernel_rfl))
 f241:=Tryz.func215.trans (aU some (by kernel_rfl))
 f263:=Tryz.func212.trans (aU some (by kernel_rfl))
 f264:=Tryz.func213.trans (aU some (by kernel_rfl))
 f276:=Tryz.func211.trans (aU some (by kernel_rfl))
 f277:=Tryz.func257.trans (aU some (by kernel_rfl))
 t0:=Tryz.underlying0
 a0:=Tryz.isAgg0
 z0:=Tryz.sizeOf0
 v0:=Tryz.zeroValue0
 t3:=Tryz.underlying3
 a3:=Tryz.isAgg3
 z3:=Tryz.sizeOf3
 v3:=Tryz.zeroValue3
 t4:=Tryz.underlying4
 a4:=Tryz.isAgg4
 z4:=Tryz.sizeOf4
 v4:=Tryz.zeroValue4
 t5:=Tryz.underlying5
 a5:=Tryz.isAgg5
 z5:=Tryz.sizeOf5
 v5:=Tryz.zeroValue5
 t9:=Tryz.underlying9
 a9:=Tryz.isAgg9
 z9:=Tryz.sizeOf9
 v9:=Tryz.zeroValue9
 t20:=Tryz.underlying20
 a20:=Tryz.isAgg20
 z20:=Tryz.sizeOf20
 v20:=Tryz.zeroValue20
 t37:=Tryz.underlying68
 a37:=Tryz.isAgg68
 z37:=Tryz.sizeOf68
 v37:=Tryz.zeroValue68
 t46:=Tryz.underlying210
 a46:=Tryz.isAgg210
 z46:=Tryz.sizeOf210
 v46:=Tryz.zeroValue210
 t51:=Tryz.underlying250
 a51:=Tryz.isAgg250
 z51:=Tryz.sizeOf250
 v51:=Tryz.zeroValue250
 t53:=Tryz.underlying161
 a53:=Tryz.isAgg161
 z53:=Tryz.sizeOf161
 v53:=Tryz.zeroValue161
 t70:=Tryz.underlying67
 a70:=Tryz.isAgg67
 z70:=Tryz.sizeOf67
 v70:=Tryz.zeroValue67
 t72:=Tryz.underlying70
 a72:=Tryz.isAgg70
 z72:=Tryz.sizeOf70
 v72:=Tryz.zeroValue70
 t75:=Tryz.underlying145
 a75:=Tryz.isAgg145
 z75:=Tryz.sizeOf145
 v75:=Tryz.zeroValue145
 t76:=Tryz.underlying146
 a76:=Tryz.isAgg146
 z76:=Tryz.sizeOf146
 v76:=Tryz.zeroValue146
 t109:=Tryz.underlying211
 a109:=Tryz.isAgg211
 z109:=Tryz.sizeOf211
 v109:=Tryz.zeroValue211
 t127:=Tryz.underlying153
 a127:=Tryz.isAgg153
 z127:=Tryz.sizeOf153
 v127:=Tryz.zeroValue153
 t146:=Tryz.underlying251
 a146:=Tryz.isAgg251
 z146:=Tryz.sizeOf251
 v146:=Tryz.zeroValue251
 t148:=Tryz.underlying253
 a148:=Tryz.isAgg253
 z148:=Tryz.sizeOf253
 v148:=Tryz.zeroValue253
 t164:=Tryz.underlying248
 a164:=Tryz.isAgg248
 z164:=Tryz.sizeOf248
 v164:=Tryz.zeroValue248}
theorem Tryz.tG:Builder.Extra Tryz.prog Tryz.u5:={
 sizeBuilder:=by kernel_rfl
 liesBuilder:=by kernel_rfl
 t5:=Tryz.underlying5
 a5:=Tryz.isAgg5
 z5:=Tryz.sizeOf5
 v5:=Tryz.zeroValue5
 infoByte:=by kernel_rfl
 cellsByte:=by kernel_rfl
 sizeByte:=by kernel_rfl
 neB5:=by decide}
open Go.RowKit Go.Lib in
theorem Tryz.strings_Repeat (s:ByteArray) (c:Nat) (w:World) (hc:c<=9223372036854775807) (dN:s.size*c<=140737488355328):
 Calls Tryz.prog 83 #[.string s,.int .i64 c] w fun e w'=>e=.returned (.string ⟨(Lib.repeatL s.data.toList c).toArray⟩)/\Below w.heap.size w w':=Any.strings_Repeat Tryz.QO Tryz.tG s c w hc dN
end Go.Proofs
namespace Go.Proofs.YtmhoiicofhlgbaaGreatDoor.Con
open Go Go.RowKit Go.Kt Go.Kt.V Go.Proofs.YtmhoiicofhlgbaaGreatDoor.Vc
set_option linter.unusedSimpArgs false
set_option linter.unusedVariables false
theorem ret {P:Program} {f:FuncId} {a:Array Value} {w:World} {r:Value} {Q:World->Prop} (h:Calls P f a w fun e w'=>∃v,e=.returned v/\v=r/\Q w'):Calls P f a w fun e w'=>e=.returned r/\Q w':=
 h.mono (by rintro e w' ⟨v,rfl,rfl,hq⟩;exact⟨rfl,hq⟩)
theorem Blk.eo {w:World} {b:Nat} {t:TypeId} {cs:List Value} (h:Blk w b t cs) (j:Nat) {v:Value} (hv:cs[j]? =some v):aB w ((⟨b,0,none⟩:Addr).add j) [v]:=by
 rw[eV,aJ];exact h.cells j [v] fun k u hk=>by
  cases k with
  | zero=>simp only[bm,ai]at hk;subst hk;exact hv
  | succ k=>simp at hk
def eu (c:UInt8):Bool:=(65<=c.toNat&&c.toNat<=90)||(97<=c.toNat&&c.toNat<=122)||c.toNat==95
def cy (c:UInt8):Bool:=48<=c.toNat&&c.toNat<=57
def dU (c:UInt8):Bool:=eu c||cy c
def mJ (c:UInt8):Bool:=[9,10,13,32].contains c
theorem EW:∀n:Fin 256,(((decide (97<=(bits .or .u8 (n.val:Int) 32)))&&(decide ((bits .or .u8 (n.val:Int) 32)<=122)))||((n.val:Int)==95))=((65<=n.val&&n.val<=90)||(97<=n.val&&n.val<=122)||n.val==95):=by decide+kernel
theorem wY (w:World) (c:UInt8):Calls Tryz.prog 152 #[.int .u8 (c.toNat:Int)] w fun e w'=>e=.returned (.bool (eu c))/\Only [] w w':=by
 refine ret (aeY _ (fun v w'=>v=.bool (eu c)/\Only [] w w') w ?_);unfold Yo;exact⟨by rw[EW ⟨c.toNat,c.toNat_lt⟩];rfl,Only.refl _ _⟩
theorem GK (w:World) (c:UInt8):Calls Tryz.prog 204 #[.int .u8 (c.toNat:Int)] w fun e w'=>e=.returned (.bool (cy c))/\Only [] w w':=by
 refine ret (ae1 _ (fun v w'=>v=.bool (cy c)/\Only [] w w') w ?_);unfold Yr;refine⟨?_,Only.refl _ _⟩;congr 1;rw[br];simp only[cy,ab,bB];omega
theorem Lg (w:World) (c:UInt8):Calls Tryz.prog 286 #[.int .u8 (c.toNat:Int)] w fun e w'=>e=.returned (.bool (cy c))/\Only [] w w':=by
 refine ret (v2w _ (fun v w'=>v=.bool (cy c)/\Only [] w w') w ?_);unfold v2v;refine⟨?_,Only.refl _ _⟩;have h:∀n:Fin 256,decide ((IntKind.wrap .u8 ((n.val:Int)-48))<10)=(decide (48<=n.val)&&decide (n.val<=57)):=by decide+kernel
 rw[h ⟨c.toNat,c.toNat_lt⟩];rfl
theorem Lh {w:World} {F:Nat->Prop} {s:Sl} {l:List UInt8} (h:SliceF gN 1 w F s l) (c:UInt8):
  Calls Tryz.prog 284 #[Sl.v s,.int .u8 (c.toNat:Int)] w fun e w'=>∃i:Int,e=.returned (.int .i64 i)/\decide (i>=0)=l.contains c/\Only [] w w':=by
 refine(Yh s _ (fun v w'=>∃i:Int,v=.int .i64 i/\decide (i>=0)=l.contains c/\Only [] w w') w ?_).mono (by
  rintro e w' ⟨v,rfl,i,rfl,h⟩;exact⟨i,rfl,h⟩)
 unfold Rz;have dN:=h.len;have rU:=h.big;have nT:=h.cap;refine⟨fun nv i w'=>∃n:Nat,n<=l.length/\i=(n:Int)/\nv=l.length-n/\(∀x,x∈l.take n->x≠c)/\w'=w,l.length,⟨0,aF _,rfl,rfl,by simp,rfl⟩,?_⟩;rintro nv _ _ ⟨n,hn,rfl,rfl,hp,rfl⟩;refine⟨fun hc=>?_,fun hc=>?_⟩
 ·have bp:(n:Int)<s.n:=aj hc;obtain⟨ad,x,cs,g1,g2,g3,g4,g5,g6⟩:=h.get (aG n) bp;rw[az]at g2;unfold gN eN at g6;subst g6;refine⟨ad,g1,_,g5,fun he=>⟨_,rfl,?_,Only.refl _ _⟩,fun he=>⟨l.length-(n+1),by omega,n+1,by omega,by rw[gV (by omega) (by omega)];rfl,rfl,?_,rfl⟩⟩
  ·have he:c=x:=Oi.1 (by have:=aj he;omega);rw[aZ (by omega)];symm;rw[nj,he];exact aE g2
  ·intro y hy;rw[aY,g2]at hy;simp only[rc,bJ,ae]at hy;rcases hy with hy | rfl
   ·exact hp y hy
   ·rintro rfl;simp at he
 ·have yg:¬((n:Int)<s.n):=ar hc;rw[aO (by omega)]at hp;refine⟨_,rfl,?_,Only.refl _ _⟩;rw[aK (by omega)];symm;rw[gL];intro hh;exact hp c (nj.1 hh) rfl
theorem CA {w:World} {F:Nat->Prop} {s:Sl} {l:List UInt8} (h:SliceF gN 1 w F s l) (c:UInt8):
  Calls Tryz.prog 249 #[Sl.v s,.int .u8 (c.toNat:Int)] w fun e w'=>e=.returned (.bool (l.contains c))/\Only [] w w':=by
 refine ret (aeT s _ (fun v w'=>v=.bool (l.contains c)/\Only [] w w') w ?_);unfold Yg;refine(Lh h c).mono ?_;rintro _ w1 ⟨i,rfl,hi,hO⟩;exact⟨i,rfl,by rw[hi],hO⟩
theorem CB {w:World} {F:Nat->Prop} {s:Sl} {l:List UInt8} (h:SliceF gN 1 w F s l) (c:UInt8):
  Calls Tryz.prog 200 #[.int .u8 (c.toNat:Int),Sl.v s] w fun e w'=>e=.returned (.bool (l.contains c))/\Only [] w w':=by
 refine ret (aeS _ s (fun v w'=>v=.bool (l.contains c)/\Only [] w w') w ?_);unfold Yf;refine(CA h c).mono ?_;rintro _ w1 ⟨rfl,hO⟩;exact⟨_,rfl,rfl,hO⟩
def jJ:Rp (List UInt8):=fun _ _ l cs=>cs=[.string (T l)]
theorem cL:jJ.Ok where
 keep h _:=h
 inHeap h:=h
 mono h _:=h
 one:=by
  rintro w F x cs h v hv;unfold jJ at h;subst h;simp only[ae]at hv;subst hv;rfl
theorem Li {w:World} {F:Nat->Prop} {s:Sl} {l:List (List UInt8)} (h:SliceF jJ 1 w F s l) (c:List UInt8):
  Calls Tryz.prog 207 #[Sl.v s,.string (T c)] w fun e w'=>∃i:Int,e=.returned (.int .i64 i)/\decide (i>=0)=l.contains c/\Only [] w w':=by
 refine(RC s _ (fun v w'=>∃i:Int,v=.int .i64 i/\decide (i>=0)=l.contains c/\Only [] w w') w ?_).mono (by
  rintro e w' ⟨v,rfl,i,rfl,h⟩;exact⟨i,rfl,h⟩)
 unfold K8;have dN:=h.len;have rU:=h.big;have nT:=h.cap;refine⟨fun nv i w'=>∃n:Nat,n<=l.length/\i=(n:Int)/\nv=l.length-n/\(∀x,x∈l.take n->x≠c)/\w'=w,l.length,⟨0,aF _,rfl,rfl,by simp,rfl⟩,?_⟩;rintro nv _ _ ⟨n,hn,rfl,rfl,hp,rfl⟩;refine⟨fun hc=>?_,fun hc=>?_⟩
 ·have bp:(n:Int)<s.n:=aj hc;obtain⟨ad,x,cs,g1,g2,g3,g4,g5,g6⟩:=h.get (aG n) bp;rw[az]at g2;unfold jJ at g6;subst g6;refine⟨ad,g1,_,g5,?_⟩;rw[jW];refine⟨fun he=>⟨_,rfl,?_,Only.refl _ _⟩,fun he=>⟨l.length-(n+1),by omega,n+1,by omega,by rw[gV (by omega) (by omega)];rfl,rfl,?_,rfl⟩⟩
  ·have he:c=x:=aj he;rw[aZ (by omega)];symm;rw[nj,he];exact aE g2
  ·intro y hy;rw[aY,g2]at hy;simp only[rc,bJ,ae]at hy;rcases hy with hy | rfl
   ·exact hp y hy
   ·rintro rfl;simp at he
 ·have yg:¬((n:Int)<s.n):=ar hc;rw[aO (by omega)]at hp;refine⟨_,rfl,?_,Only.refl _ _⟩;rw[aK (by omega)];symm;rw[gL];intro hh;exact hp c (nj.1 hh) rfl
theorem pw {w:World} {F:Nat->Prop} {s:Sl} {l:List (List UInt8)} (h:SliceF jJ 1 w F s l) (c:List UInt8):
  Calls Tryz.prog 154 #[Sl.v s,.string (T c)] w fun e w'=>e=.returned (.bool (l.contains c))/\Only [] w w':=by
 refine ret (ae2 s _ (fun v w'=>v=.bool (l.contains c)/\Only [] w w') w ?_);unfold Ys;refine(Li h c).mono ?_;rintro _ w1 ⟨i,rfl,hi,hO⟩;exact⟨i,rfl,by rw[hi],hO⟩
abbrev PN (w:World) (b:Nat) (t:TypeId) (l:List UInt8) (i:Nat) (r:List Value):Prop:=Blk w b t (.string (T l)::.int .i64 (i:Int)::r)
theorem R8 {w:World} {b:Nat} {t:TypeId} {l:List UInt8} {i:Nat} {r:List Value} (h:PN w b t l i r):
  Calls Tryz.prog 135 #[.pointer (some ⟨b,0,none⟩)] w fun e w'=>e=.returned (.bool (decide (l.length<=i)))/\Only [] w w':=by
 refine ret (aeR ⟨b,0,none⟩ (fun v w'=>v=.bool (decide (l.length<=i))/\Only [] w w') w ?_);unfold Ye;refine⟨i,Blk.eo h 1 rfl,T l,Blk.eo h 0 rfl,fun w0 hO=>⟨?_,hO⟩⟩;rw[cK];congr 1;rw[decide_eq_decide];omega
theorem wZ {w:World} {b:Nat} {t:TypeId} {l:List UInt8} {i:Nat} {r:List Value} (h:PN w b t l i r) (hi:i<=l.length):
  Calls Tryz.prog 201 #[.pointer (some ⟨b,0,none⟩)] w fun e w'=>e=.returned (.string (T (l.drop i)))/\Only [] w w':=by
 refine ret (aeU ⟨b,0,none⟩ (fun v w'=>v=.string (T (l.drop i))/\Only [] w w') w ?_);unfold Yi;refine⟨T l,Blk.eo h 0 rfl,i,Blk.eo h 1 rfl,i,⟨rfl,by rw[cK];exact hi⟩,fun w0 hO=>⟨?_,hO⟩⟩;rw[wB,cK,aO (by rw[bK];exact aq _)]
theorem rD {p:UInt8->Bool}:∀{l:List UInt8} {n:Nat},n<=l.length->(∀x,x∈l.take n->p x=true)->(∀x,l[n]? =some x->p x=false)->l.takeWhile p=l.take n
 | [],n,_,_,_=>by simp
 | c::r,0,_,_,h=>by
  have:=h c rfl;simp[this]
 | c::r,n+1,hn,h1,h2=>by
  have hc:=h1 c (by simp);rw[cn,if_pos hc,fJ,rD (n:=n) (by simpa using hn) (fun x hx=>h1 x (by simp[hx])) (fun x hx=>h2 x (by simpa using hx))]
theorem Lj {w:World} {b:Nat} {t:TypeId} {l:List UInt8} {i:Nat} {r:List Value} (h:PN w b t l i r) (hi:i<=l.length) (hl:l.length<9223372036854775807):
  Calls Tryz.prog 153 #[.pointer (some ⟨b,0,none⟩)] w fun e w'=>e=.returned (.string (T ((l.drop i).takeWhile dU)))/\Only [] w w':=by
 refine ret (ae0 ⟨b,0,none⟩ (fun v w'=>v=.string (T ((l.drop i).takeWhile dU))/\Only [] w w') w ?_);unfold Yq;refine(wZ h hi).mono ?_;rintro _ w0 ⟨rfl,cd⟩;have hlr:(l.drop i).length<=l.length:=by rw[bK];omega
 generalize l.drop i=m at*
 refine⟨T m,rfl,fun nv j w'=>∃n:Nat,n<=m.length/\j=(n:Int)/\nv=m.length-n/\(∀x,x∈m.take n->dU x=true)/\Only [] w w',m.length,⟨0,aF _,rfl,rfl,by simp,cd⟩,?_⟩;rintro nv _ w1 ⟨n,hn,rfl,rfl,hp,bR⟩;rw[cK];refine⟨fun b w'=>(b=true->∃x,m[n]? =some x/\dU x=true)/\(b=false->∀x,m[n]? =some x->dU x=false)/\Only [] w w',?_,fun hc=>?_,fun hc=>⟨fun e=>(by cases e),fun _ x hx=>?_,bR⟩⟩
 ·rintro b w2 ⟨h1,h2,cO⟩;refine⟨fun hb=>?_,fun hb=>⟨n,⟨rfl,hn⟩,?_,cO⟩⟩
  ·obtain⟨x,hx,hw⟩:=h1 hb;have bp:=(au.1 hx).1;refine⟨m.length-(n+1),by omega,n+1,by omega,by rw[gV (by omega) (by omega)];rfl,rfl,fun y hy=>?_,cO⟩;rw[aY,hx]at hy;simp only[rc,bJ,ae]at hy;rcases hy with hy | rfl
   ·exact hp y hy
   ·exact hw
  ·rw[wB,eL,qm,rD hn hp (h2 hb)]
 ·have bp:(n:Int)<m.length:=aj hc;have hx:m[n]? =some (m[n]'(by omega)):=bn (by omega);generalize m[n]'(by omega)=x at hx;have hg:(T m)[Int.toNat (n:Int)]? =some x:=by rw[uO,az,hx]
  refine⟨x,⟨aG n,hg⟩,(wY w1 x).mono ?_⟩;rintro _ w3 ⟨rfl,cU⟩;refine⟨_,rfl,fun hb=>⟨fun _=>⟨x,hx,by unfold dU;rw[hb];rfl⟩,fun e=>(by cases e),bR.cf cU⟩,fun hb=>⟨x,⟨aG n,hg⟩,(GK w3 x).mono ?_⟩⟩;rintro _ w4 ⟨rfl,cZ⟩;refine⟨_,rfl,fun hd=>⟨x,hx,by unfold dU;rw[hd,mh]⟩,fun hd y hy=>?_,bR.cf (cU.cf cZ)⟩;rw[hx]at hy;injection hy with hy;subst hy;unfold dU;rw[hb,hd];rfl
 ·have yg:¬(n:Int)<m.length:=ar hc;have:=(au.1 hx).1;omega
theorem CD (w:World) (l p:List UInt8) (hl:l.length<9223372036854775807) (hp:p.length<9223372036854775807):Calls Tryz.prog 147 #[.string (T l),.string (T p)] w fun e w'=>e=.returned (.bool (decide (l.take p.length=p)))/\Only [] w w':=by
 refine ret (Yj _ _ (fun v w'=>v=.bool (decide (l.take p.length=p))/\Only [] w w') w ?_);unfold RA;refine(ret (aeV (T l) (T p) (fun v w'=>v=.bool (decide (l.take p.length=p))/\Only [] w w') w ?_)).mono ?_
 ·unfold Yk;rw[cK,cK];refine⟨p.length,fun h=>⟨rfl,by have:=aj h;omega⟩,?_,Only.refl _ _⟩;rw[wB,jW,eL,qm];congr 1;rw[br];simp only[ab,bB];constructor
  ·exact fun h=>h.2
  ·intro h;refine⟨?_,h⟩;have:=aU List.length h;rw[ck]at this;omega
 ·rintro _ w1 ⟨rfl,hO⟩;exact⟨_,rfl,rfl,hO⟩
theorem oE:∀(l:List UInt8) (c:UInt8),Lib.indexByte l c=if c∈l then((l.takeWhile (· !=c)).length:Int)else -1
 | [],c=>by simp[Lib.indexByte]
 | b::l,c=>by
  rw[Lib.indexByte,oE l c];by_cases hbc:b=c
  ·subst hbc;simp
  ·by_cases hm:c∈l
   ·have h1:(b==c)=false:=by simpa using hbc
    have h2:(b !=c)=true:=by simpa using hbc
    have h3:c∈b::l:=by simp[hm]
    rw[h1,if_pos hm,if_pos h3,cn,if_pos h2];simp
   ·have h1:(b==c)=false:=by simpa using hbc
    have h3:¬c∈b::l:=by simp[hm];exact fun e=>hbc e.symm
    rw[h1,if_neg hm,if_neg h3];simp
theorem xa {c:UInt8}:∀{l:List UInt8},¬c∈l->l.takeWhile (· !=c)=l
 | [],_=>rfl
 | b::l,h=>by
  simp only[ak,not_or]at h;rw[cn,if_pos (by simpa using fun e=>h.1 e.symm),xa h.2]
theorem ot {p:UInt8->Bool}:∀{l:List UInt8},l.takeWhile p=l.take (l.takeWhile p).length
 | []=>rfl
 | b::l=>by
  rw[cn];split
  ·rw[ao,fJ,<-ot]
  ·rfl
theorem Z9 (w:World) (l:List UInt8) (c:UInt8) (hl:l.length<9223372036854775807):Calls Tryz.prog 202 #[.string (T l),.string (T [c])] w fun e w'=>∃(s:ByteArray) (b:Bool),e=.returned (.tuple #[.string (T (l.takeWhile (· !=c))),.string s,.bool b])/\Only [] w w':=by
 refine(Yl _ _ (fun v w'=>∃(s:ByteArray) (b:Bool),v=(.tuple #[.string (T (l.takeWhile (· !=c))),.string s,.bool b])/\Only [] w w') w ?_).mono (by
  rintro e w' ⟨v,rfl,s,b,rfl,h⟩;exact⟨s,b,rfl,h⟩)
 unfold RB;refine(aeW (T l) (T [c]) (fun v w'=>∃(s:ByteArray) (b:Bool),v=(.tuple #[.string (T (l.takeWhile (· !=c))),.string s,.bool b])/\Only [] w w') w ?_).mono ?_
 ·unfold Ym;refine(Tryz.stringslite_Index_one (T l) c w).mono ?_;rintro _ _ ⟨rfl,rfl⟩;have e:(T l).data.toList=l:=rfl;rw[e,oE];refine⟨_,rfl,fun h=>?_,fun h=>?_⟩
  ·by_cases hm:c∈l
   ·rw[if_pos hm];have bp:(l.takeWhile (· !=c)).length<l.length:=by
     have h1:=List.takeWhile_append_dropWhile (p:=(· !=c)) (l:=l);have h2:=aU List.length h1;rw[ah]at h2;have h3:l.dropWhile (· !=c)≠[]:=by
      intro h3;rw[h3,aN]at h1;rw[<-h1]at hm;have:=List.all_takeWhile (p:=(· !=c)) (l:=l);rw[cJ]at this;have:=this c (by rw[h1]at hm⊢;exact hm);simp at this
     have h4:=o8.2 h3;omega
    have hk:(T l).extract 0 (l.takeWhile (· !=c)).length=T (l.takeWhile (· !=c)):=by
     rw[wB,eL,qm,<-ot]
    refine⟨(l.takeWhile (· !=c)).length,⟨rfl,by rw[cK];omega⟩,(l.takeWhile (· !=c)).length+1,⟨by rw[cK,gV (by simp;omega) (by simp;omega)];rfl,by rw[cK];omega⟩,fun w1 hO=>⟨(T l).extract ((l.takeWhile (· !=c)).length+1) (T l).size,true,?_,hO⟩⟩;rw[hk]
   ·rw[if_neg hm]at h;exact absurd (aj h) (by omega)
  ·by_cases hm:c∈l
   ·rw[if_pos hm]at h;exact absurd (ar h) (by omega)
   ·rw[xa hm];exact⟨_,_,rfl,Only.refl _ _⟩
 ·rintro _ w1 ⟨v,rfl,s,b,rfl,hO⟩;exact⟨_,s,b,rfl,s,b,rfl,hO⟩
end Go.Proofs.YtmhoiicofhlgbaaGreatDoor.Con
namespace Go.Proofs.YtmhoiicofhlgbaaGreatDoor.Con
open Go Go.RowKit Go.Kt Go.Kt.V Go.Proofs.YtmhoiicofhlgbaaGreatDoor.Vc
set_option linter.unusedSimpArgs false
set_option linter.unusedVariables false
set_option maxHeartbeats 4000000
theorem ud (w:World) (l:List UInt8) {n:Nat} {parts:Array (Nat×Value)} (hp:parts=(((l.map eN).zipIdx 0).map fun x=>(x.2,x.1)).toArray) (hn:l.length=n) (h0:0<n) (zK:n*1<=16777216):
  ∃s w',(Instr.buildSlice 68 n parts).run Tryz.prog w=.ok (Sl.v s) w'/\Own gN 1 5 w.heap.size w' (fun _=>True) s l/\Only [] w w'/\s.a=some ⟨w.heap.size,0,none⟩:=by
 obtain⟨s,w',h1,h2,h3,h4,_⟩:=jf (P:=Tryz.prog) (t:=68) (e:=5) (i:=Tryz.t5) (w:=w) (F:=fun _=>True) (r:=gN) (size:=1) (vs:=l.map eN) (xs:=l) (len:=n) (by kernel_rfl) (by kernel_rfl) rfl rfl (by decide) hp (by rw[aQ];exact hn) h0 zK su (by
  clear hp hn
  induction l with
  | nil=>exact trivial
  | cons a l ih=>exact⟨⟨rfl,rfl⟩,ih⟩)
 exact⟨s,w',h1,h2,h3,h4⟩
theorem PO (l:List (List UInt8)) (w:World):kY jJ 1 w (fun _=>True) l ((l.map fun x=>Value.string (T x)).map fun v=>v.cells.toList):=by
 induction l with
 | nil=>exact trivial
 | cons a l ih=>exact⟨⟨rfl,rfl⟩,ih⟩
theorem lI (w:World) (l:List (List UInt8)) {n:Nat} {parts:Array (Nat×Value)} (hp:parts=(((l.map fun x=>Value.string (T x)).zipIdx 0).map fun x=>(x.2,x.1)).toArray) (hn:l.length=n) (h0:0<n) (zK:n*1<=16777216):
  ∃s w',(Instr.buildSlice 52 n parts).run Tryz.prog w=.ok (Sl.v s) w'/\Own jJ 1 9 w.heap.size w' (fun _=>True) s l/\Only [] w w':=by
 obtain⟨s,w',h1,h2,h3,_⟩:=jf (P:=Tryz.prog) (t:=52) (e:=9) (i:=Tryz.t9) (w:=w) (F:=fun _=>True) (r:=jJ) (size:=1) (vs:=l.map fun x=>Value.string (T x)) (xs:=l) (len:=n) (by kernel_rfl) (by kernel_rfl) rfl rfl (by decide) hp (by rw[aQ];exact hn) h0 zK cL (PO l w);exact⟨s,w',h1,h2,h3⟩
theorem Lk {α:Type} {r:Rp α} {size:Nat} {e:TypeId} {B:Nat} {w:World} {F:Nat->Prop} {s:Sl} {xs:List α} (hr:r.Ok) (hf:∀w F G x cs,r w F x cs->r w G x cs) (h:Own r size e B w F s xs):SliceF r size w (fun k=>B<=k/\s.a=some ⟨k,0,none⟩) s xs:=by
 rcases h with⟨rfl,rfl⟩ | ⟨g,css,tail,a1,a2,a4,a5,a6,a7,a9,a8⟩
 ·exact SliceF.nil _ _ _ _
 ·have h':Own r size e B w (fun _=>False) s xs:=.inr ⟨g,css,tail,a1,a2,a4,a5,a6,a7,a9,ey.imp (fun _ _ h=>⟨h.1,hf _ _ _ _ _ h.2⟩) a8⟩;exact(h'.slice hr).mono hr fun k hk=>hk.elim False.elim id
theorem y9 {e:TypeId} {B:Nat} {w:World} {F:Nat->Prop} {s:Sl} {xs:List UInt8} (h:Own gN 1 e B w F s xs):SliceF gN 1 w (fun k=>B<=k/\s.a=some ⟨k,0,none⟩) s xs:=Lk su (fun _ _ _ _ _ h=>h) h
theorem sJ {e:TypeId} {B:Nat} {w:World} {F:Nat->Prop} {s:Sl} {xs:List (List UInt8)} (h:Own jJ 1 e B w F s xs):SliceF jJ 1 w (fun k=>B<=k/\s.a=some ⟨k,0,none⟩) s xs:=Lk cL (fun _ _ _ _ _ h=>h) h
def iG:Bool->List UInt8->Nat
 | _,[]=>0
 | true,c::r=>1+iG (c !=10) r
 | false,c::r=>if mJ c then 1+iG false r else if c==47&&r.head? ==some 47 then 1+iG true r else 0
theorem AB:∀{b:Bool} {l:List UInt8},iG b l<=l.length
 | b,[]=>by simp[iG]
 | true,c::r=>by
  rw[iG,ao];have:=AB (b:=c !=10) (l:=r);omega
 | false,c::r=>by
  rw[iG,ao];have h1:=AB (b:=false) (l:=r);have h2:=AB (b:=true) (l:=r);split
  ·omega
  ·split<;>omega
theorem CE:∀(l:List UInt8),iG true l=(l.takeWhile (· !=10)).length+iG false (l.drop (l.takeWhile (· !=10)).length)
 | []=>rfl
 | c::r=>by
  by_cases hc:c=10
  ·subst hc;rw[iG];simp[iG,mJ]
  ·have h:(c !=10)=true:=by simpa using hc
   rw[iG,h,CE r,cn,if_pos h,ao,im];omega
theorem IR {l:List UInt8} (h:l.take 2=[47,47]):iG false l=(l.takeWhile (· !=10)).length+iG false (l.drop (l.takeWhile (· !=10)).length):=by
 match l,h with
 | a::b::r,h=>
  simp only[fJ,cQ,wo,and_true]at h;obtain⟨rfl,rfl⟩:=h;have e:iG false (47::47::r)=1+iG true (47::r):=by
   conv=>lhs;rw[iG]
   rw[if_neg (by decide),if_pos (by simp)]
  have e2:=CE (47::r);have e3:(47::47::r:List UInt8).takeWhile (· !=10)=47::(47::r:List UInt8).takeWhile (· !=10):=by
   rw[cn,if_pos (by decide)]
  rw[e,e2,e3,ao,im];omega
theorem za {l:List UInt8} {j:Nat} {x:UInt8} (h:l[j]? =some x):l.drop j=x::l.drop (j+1):=by
 obtain⟨h1,h2⟩:=au.1 h;rw[rX h1,h2]
theorem Ll {w:World} {b:Nat} {t:TypeId} {l:List UInt8} {i:Nat} {r:List Value} (h:PN w b t l i r) (hi:i<=l.length) (hl:l.length<9223372036854775807):
  Calls Tryz.prog 134 #[.pointer (some ⟨b,0,none⟩)] w fun e w'=>e=.returned (.tuple #[])/\Only [b] w w'/\PN w' b t l (i+iG false (l.drop i)) r:=by
 refine ret (aeQ ⟨b,0,none⟩ (fun v w'=>v=.tuple #[]/\Only [b] w w'/\PN w' b t l (i+iG false (l.drop i)) r) w ?_);unfold Yd;refine⟨fun nv w'=>∃j:Nat,j<=l.length/\nv=l.length-j/\i+iG false (l.drop i)=j+iG false (l.drop j)/\Only [b] w w'/\PN w' b t l j r,l.length-i,⟨i,hi,rfl,rfl,Only.refl _ _,h⟩,?_⟩;rintro nv w0 ⟨j,hj,rfl,hjs,cd,h0⟩;have kp:∀{u u':World} {n:Nat},Only [] u u'->PN u b t l n r->PN u' b t l n r:=fun hO hC=>(hO.block b hC.lt (by simp)).trans hC;refine(R8 h0).mono ?_;rintro _ w1 ⟨rfl,bR⟩;have h1:=kp bR h0;refine⟨_,rfl,fun hc=>?_,fun hc=>⟨rfl,cd.trans bR (by simp),?_⟩⟩
 ·have bp:j<l.length:=by simpa using hc
  have hx:l[j]? =some l[j]:=bn bp;generalize l[j]=x at hx;have hd:=za hx;refine⟨T l,Blk.eo h1 0 rfl,j,Blk.eo h1 1 rfl,x,⟨aG j,by rw[uO,az,hx]⟩,fun w2 cO=>?_⟩;obtain⟨s,w3,k1,k2,k3,_⟩:=ud w2 [9,10,13,32] (n:=4) (parts:=#[(0,.int .u8 9),(1,.int .u8 10),(2,.int .u8 13),(3,.int .u8 32)]) rfl rfl (by decide) (by decide);refine⟨s,w3,k1,(CB (y9 k2) x).mono ?_⟩;rintro _ w4 ⟨rfl,cZ⟩;have dz:=cO.cf (k3.cf cZ);have h4:=kp dz h1;have Bt:Only [b] w w4:=cd.trans (bR.cf dz) (by simp);refine⟨_,rfl,fun hb=>⟨j,Blk.eo h4 1 rfl,b,1,_,t,by rw[eV],h4,by simp,fun w5 eC yh=>⟨l.length-(j+1),by omega,j+1,by omega,rfl,?_,Bt.trans eC (by simp),?_⟩⟩,fun hb=>(wZ h4 hj).mono ?_⟩
  ·have e:mJ x=true:=hb;rw[hjs,hd,iG,if_pos e];omega
  ·rw[gV (by omega) (by omega)]at yh;exact yh
  rintro _ w6 ⟨rfl,dD⟩;have h6:=kp dD h4;have hlr:(l.drop j).length<=l.length:=by rw[bK];omega
  refine⟨_,rfl,(CD w6 (l.drop j) [47,47] (by omega) (by decide)).mono ?_⟩;rintro _ w7 ⟨rfl,fg⟩;have h7:=kp fg h6;refine⟨_,rfl,fun hs=>(wZ h7 hj).mono ?_,fun hs=>⟨rfl,Bt.trans (dD.cf fg) (by simp),?_⟩⟩
  ·rintro _ w8 ⟨rfl,fy⟩;have h8:=kp fy h7;refine⟨_,rfl,(Z9 w8 (l.drop j) 10 (by omega)).mono ?_⟩;rintro _ w9 ⟨s9,b9,rfl,fG⟩;have h9:=kp fG h8;have zL:(l.drop j).take 2=[47,47]:=aj hs;have hk:=IR zL;have dN:((l.drop j).takeWhile (· !=10)).length<=(l.drop j).length:=by
    rw[ot,ck];exact Nat.min_le_right _ _
   have Q2:0<((l.drop j).takeWhile (· !=10)).length:=by
    match hq:l.drop j,zL with
    | a::r',zL=>
     have:a=47:=by
      match r',zL with
      | b'::r'',zL=>simp at zL;exact zL.1
     subst this;simp
   have hld:(l.drop j).length=l.length-j:=bK;generalize hn:((l.drop j).takeWhile (· !=10)).length=n at*
   refine⟨_,s9,b9,rfl,j,Blk.eo h9 1 rfl,b,1,_,t,by rw[eV],h9,by simp,fun cI dm vK=>⟨l.length-(j+n),by omega,j+n,by omega,rfl,?_,(Bt.trans (dD.cf (fg.cf (fy.cf fG))) (by simp)).trans dm (by simp),?_⟩⟩
   ·rw[hjs,hk,mj];omega
   ·rw[cK,hn,gV (by omega) (by omega)]at vK;exact vK
  ·have hs:¬(l.drop j).take 2=[47,47]:=ar hs;have hb:mJ x=false:=hb;have hz:iG false (l.drop j)=0:=by
    rw[hd,iG,if_neg (by simp[hb]),if_neg];intro hh;apply hs;rw[hd];simp only[ab,iR]at hh;obtain⟨rfl,hh⟩:=hh;cases hr:l.drop (j+1)with
    | nil=>rw[hr]at hh;simp at hh
    | cons y z=>
     rw[hr]at hh;simp only[gA,ai]at hh;rw[hh];rfl
   rw[hjs,hz];exact h7
 ·have yg:l.length<=j:=by simpa using hc
  have hz:l.drop j=[]:=du yg;rw[hjs,hz];exact h1
def Er (w:World):Prop:=∃tp p,w.var? Tryz.prog "strconv.ErrRange" =some #[.iface tp p]
theorem er_num:Tryz.prog.globalNamed "strconv.ErrRange" =some 7:=by kernel_rfl
theorem Er.keep {w w':World} (h:Er w) (hk:7<w.heap.size->w'.heap[7]? =w.heap[7]?):Er w':=by
 obtain⟨tp,p,h⟩:=h;refine⟨tp,p,?_⟩;unfold World.var? at h⊢;rw[er_num]at h⊢;simp only[kj]at h⊢;rw[hk]
 ·exact h
 ·refine aP fun hn=>?_;rw[dP (by omega)]at h;cases h
theorem Er.lt {w:World} (h:Er w):7<w.heap.size:=by
 obtain⟨tp,p,h⟩:=h;unfold World.var? at h;rw[er_num]at h;simp only[kj]at h;refine aP fun hn=>?_;rw[dP (by omega)]at h;cases h
theorem Er.only {w w':World} (h:Er w) (hO:Only [] w w'):Er w':=h.keep fun bp=>hO.block _ bp (by simp)
def oL (a:Nat) (ds:List UInt8):Nat:=ds.foldl (fun a c=>a*10+(c.toNat-48)) a
theorem GL:∀(ds:List UInt8) (a:Nat),a<=oL a ds
 | [],a=>aq _
 | c::r,a=>by
  have:=GL r (a*10+(c.toNat-48));show a<=oL (a*10+(c.toNat-48)) r;omega
theorem pum:∀(ds:List UInt8) (a:Nat),(∀c,c∈ds->cy c=true)->a<=18446744073709551615->
  Lib.parseUintM 18446744073709551615 a ds=if oL a ds<=18446744073709551615 then .ok (oL a ds)else .range
 | [],a,_,h=>by rw[Lib.parseUintM];exact(if_pos h).symm
 | c::r,a,hd,h=>by
  have hc:=hd c (by simp);simp only[cy,ab,bB]at hc;have e:oL a (c::r)=oL (a*10+(c.toNat-48)) r:=rfl;have yg:=GL r (a*10+(c.toNat-48));rw[Lib.parseUintM,if_pos hc,e];split
  ·rw[if_neg (by omega)]
  ·split
   ·rw[if_neg (by omega)]
   ·rw[pum r _ (fun x hx=>hd x (by simp[hx])) (by omega)]
theorem pib {ds:List UInt8} (hd:∀c,c∈ds->cy c=true) (eI:ds≠[]):Lib.parseIntB 64 ds=if oL 0 ds<9223372036854775808 then .ok (oL 0 ds:Int)else .range:=by
 match ds,eI with
 | c::r,_=>
  have hc:=hd c (by simp);simp only[cy,ab,bB]at hc;have h1:¬(c.toNat=43∨c.toNat=45):=by omega
  have h2:¬c.toNat=45:=by omega
  have h3:Lib.parseUintB 64 (c::r)=Lib.parseUintM 18446744073709551615 0 (c::r):=by
   rw[Lib.parseUintB,if_neg (by simp)]
  unfold Lib.parseIntB;dsimp only;rw[if_neg h1,h3,pum _ _ hd (by decide)];by_cases hv:oL 0 (c::r)<=18446744073709551615
  ·rw[if_pos hv];by_cases hw:oL 0 (c::r)<9223372036854775808
   ·rw[if_pos hw];simp[h2];omega
   ·rw[if_neg hw];simp[h2];omega
  ·rw[if_neg hv,if_neg (by omega)]
def eX (l:List UInt8):Nat×Nat×Int:=
 if l=[]then(0,0,3)else if l.takeWhile cy=[]∨(1<(l.takeWhile cy).length/\l.head? =some 48)then(0,0,4)
 else if oL 0 (l.takeWhile cy)<9223372036854775808 then(oL 0 (l.takeWhile cy),(l.takeWhile cy).length,0)else(0,0,20)
theorem uf {p:UInt8->Bool} {l:List UInt8}:∀c,c∈l.takeWhile p->p c=true:=by
 have:=List.all_takeWhile (p:=p) (l:=l);rwa[cJ]at this
theorem Lm {w:World} {l:List UInt8} (hE:Er w) (hl:l.length<281474976710656):
  Calls Tryz.prog 252 #[.string (T l)] w fun e w'=>e=.returned (.tuple #[.int .i64 (eX l).1,.int .i64 (eX l).2.1,.int .i64 (eX l).2.2])/\Only [] w w':=by
 refine ret (v0w (T l) (fun v w'=>v=.tuple #[.int .i64 (eX l).1,.int .i64 (eX l).2.1,.int .i64 (eX l).2.2]/\Only [] w w') w ?_);unfold v0v;refine⟨fun nv j w'=>∃n:Nat,n<=l.length/\j=(n:Int)/\nv=l.length-n/\(∀x,x∈l.take n->cy x=true)/\Only [] w w',l.length,⟨0,aF _,rfl,rfl,by simp,Only.refl _ _⟩,?_⟩;rintro nv _ w0 ⟨n,hn,rfl,rfl,hp,cd⟩;rw[cK];refine⟨fun b w'=>(b=true->∃x,l[n]? =some x/\cy x=true)/\(b=false->∀x,l[n]? =some x->cy x=false)/\Only [] w w',?_,fun hc=>?_,fun hc=>⟨fun e=>(by cases e),fun _ x hx=>?_,cd⟩⟩
 ·rintro b w1 ⟨h1,h2,bR⟩;refine⟨fun hb=>?_,fun hb=>?_⟩
  ·obtain⟨x,hx,hw⟩:=h1 hb;have bp:=(au.1 hx).1;refine⟨l.length-(n+1),by omega,n+1,by omega,by rw[gV (by omega) (by omega)];rfl,rfl,fun y hy=>?_,bR⟩;rw[aY,hx]at hy;simp only[rc,bJ,ae]at hy;rcases hy with hy | rfl
   ·exact hp y hy
   ·exact hw
  have Xa:=rD hn hp (h2 hb);have Ek:(l.takeWhile cy).length=n:=by rw[Xa,ck];omega
  have e0:(ByteArray.mk #[])=T []:=rfl;rw[e0,jW];refine⟨fun h0=>⟨?_,bR⟩,fun h0=>?_⟩
  ·have h0:l=[]:=aj h0;rw[eX,if_pos h0];rfl
  have h0:¬l=[]:=ar h0;refine⟨fun b w'=>b=decide (l.takeWhile cy=[]∨(1<(l.takeWhile cy).length/\l.head? =some 48))/\Only [] w w',?_,fun hz=>?_,fun hz=>?_⟩
  ·rintro b w2 ⟨rfl,cO⟩;refine⟨fun hb=>⟨?_,cO⟩,fun hb=>⟨n,⟨rfl,hn⟩,?_⟩⟩
   ·rw[eX,if_neg h0,if_pos (aj hb)];rfl
   have hb:=ar hb;have hx:(T l).extract 0 n=T (l.takeWhile cy):=by rw[wB,eL,qm,Xa]
   rw[hx];have eI:l.takeWhile cy≠[]:=fun e=>hb (.inl e);have hpi:=pib (uf (p:=cy) (l:=l)) eI;have hsz:(T (l.takeWhile cy)).size<=281474976710656:=by rw[cK];omega
   by_cases hv:oL 0 (l.takeWhile cy)<9223372036854775808
   ·rw[if_pos hv]at hpi;refine(Tryz.strconv_ParseInt_10_at64_ok (T (l.takeWhile cy)) (ay hsz (by decide)) _ hpi w2).mono ?_;rintro _ w3 ⟨rfl,hw⟩;have cU:Only [] w2 w3:=by
     rcases hw with rfl | ⟨s,rfl⟩
     ·exact Only.refl _ _
     ·exact Only.tD (Lib.bytesWorld_below _ _ _)
    refine⟨_,⟨.nilIface,rfl⟩,rfl,.inl rfl,fun e=>(by cases e),fun _=>⟨?_,cO.cf cU⟩⟩;rw[eX,if_neg h0,if_neg hb,if_pos hv,Ek]
   ·rw[if_neg hv]at hpi;obtain⟨tp,p,Vv⟩:=hE.only cO;refine(Tryz.strconv_ParseInt_10_at64_range_var (T (l.takeWhile cy)) hsz hpi tp p w2 Vv).mono ?_;rintro _ w3 ⟨N,rfl,_,_,hw⟩;refine⟨_,⟨.iface _ _,rfl⟩,rfl,.inr ⟨_,_,rfl⟩,fun _=>⟨?_,cO.cf (Only.tD hw)⟩,fun e=>(by cases e)⟩;rw[eX,if_neg h0,if_neg hb,if_neg hv];rfl
  ·have hz:n=0:=by simpa using hz
   subst hz;refine⟨?_,bR⟩;symm;rw[aZ (.inl (aW Ek))];rfl
  ·have hz:n≠0:=by simpa using hz
   obtain⟨x,r,rfl⟩:∃x r,l=x::r:=by
    cases l with
    | nil=>exact absurd rfl h0
    | cons x r=>exact⟨x,r,rfl⟩
   refine⟨x,fun _=>⟨jQ _,by rw[uO];rfl⟩,?_,bR⟩;have eI:(x::r).takeWhile cy≠[]:=fun e=>by rw[e]at Ek;exact hz Ek.symm
   rw[Ek,br];simp only[ab,bB,iR,gA,ai];constructor
   ·rintro⟨h1,h2⟩;exact .inr ⟨by omega,Oi.1 (by show x.toNat=48;omega)⟩
   ·rintro(h | ⟨h1,rfl⟩)
    ·exact absurd h eI
    ·exact⟨by omega,rfl⟩
 ·have bp:(n:Int)<l.length:=aj hc;have hx:l[n]? =some (l[n]'(by omega)):=bn (by omega);generalize l[n]'(by omega)=x at hx;refine⟨x,⟨aG n,by rw[uO,az,hx]⟩,(Lg w0 x).mono ?_⟩;rintro _ w3 ⟨rfl,cU⟩;refine⟨_,rfl,fun hb=>⟨x,hx,hb⟩,fun hd y hy=>?_,cd.cf cU⟩;rw[hx]at hy;injection hy with hy;subst hy;exact hd
 ·have yg:¬(n:Int)<l.length:=ar hc;have:=(au.1 hx).1;omega
structure Tk where
 k:Int
 t:List UInt8
 n:Int
 a:Int
deriving DecidableEq
def Tk.v (x:Tk):Value:=.agg #[.int .i64 x.k,.string (T x.t),.int .i64 x.n,.int .i64 x.a]
def GM:Rp Tk:=fun _ _ x cs=>cs=[.int .i64 x.k,.string (T x.t),.int .i64 x.n,.int .i64 x.a]
theorem hY:GM.Ok where
 keep h _:=h
 inHeap h:=h
 mono h _:=h
 one:=by
  rintro w F x cs h v hv;unfold GM at h;subst h;simp only[ak,aw,bf]at hv;rcases hv with rfl | rfl | rfl | rfl<;>rfl
abbrev kO (B:Nat) (w:World) (s:Sl) (xs:List Tk):Prop:=Own GM 4 141 B w (fun _=>True) s xs
theorem kO.of {B:Nat} {w:World} {F:Nat->Prop} {s:Sl} {xs:List Tk} (h:Own GM 4 141 B w F s xs):kO B w s xs:=h.mono hY fun _ _=>trivial
theorem kO.sl {B:Nat} {w:World} {s:Sl} {xs:List Tk} (h:kO B w s xs):SliceF GM 4 w (fun k=>B<=k/\s.a=some ⟨k,0,none⟩) s xs:=Lk hY (fun _ _ _ _ _ h=>h) h
theorem kO.flat {B:Nat} {w:World} {s:Sl} {xs:List Tk} (h:kO B w s xs):Own GM 4 141 B w (fun _=>False) s xs:=by
 rcases h with h | ⟨g,css,tail,a1,a2,a4,a5,a6,a7,a9,a8⟩
 ·exact .inl h
 ·exact .inr ⟨g,css,tail,a1,a2,a4,a5,a6,a7,a9,ey.imp (fun _ _ h=>h) a8⟩
theorem kO.keep {B:Nat} {w w':World} {s:Sl} {xs:List Tk} (h:kO B w s xs) (hk:∀k,B<=k/\s.a=some ⟨k,0,none⟩->k<w.heap.size->w'.heap[k]? =w.heap[k]?):kO B w' s xs:=
 kO.of (h.flat.keep hY fun k hF bp=>hk k (hF.elim False.elim id) bp)
theorem kO.only {B:Nat} {w w':World} {s:Sl} {xs:List Tk} (h:kO B w s xs) (hO:Only [] w w'):kO B w' s xs:=h.keep fun k _ bp=>hO.block k bp (by simp)
theorem kO.p {B:Nat} {w w':World} {s:Sl} {xs:List Tk} {D:Nat->Prop} (h:kO B w s xs) (hO:OnlyP D w w') (hD:∀k,B<=k->s.a=some ⟨k,0,none⟩->¬D k):kO B w' s xs:=h.keep fun k hk bp=>hO.block k bp (hD k hk.1 hk.2)
theorem TZ {w:World} {B:Nat} {s:Sl} {xs:List Tk} (t:Tk) (hs:kO B w s xs) (hB:B<=w.heap.size) (hm:(xs.length+1)*40<=140737488355328):
  ∃y w1,(Instr.buildSlice 124 1 #[(0,t.v)]).run Tryz.prog w=.ok (Sl.v y) w1/\Only [] w w1/\∃s' w2,(Builtin.append_ #[124,124] 124 #[Sl.v s,Sl.v y]).run Tryz.prog w1=.ok (Sl.v s') w2/\kO B w2 s' (xs++[t])/\OnlyP (fun k=>B<=k/\s.a=some ⟨k,0,none⟩) w1 w2:=by
 obtain⟨y,w1,k1,k2,s',w2,k3,k4,⟨gs,k5,k6⟩,_⟩:=js (P:=Tryz.prog) (t:=124) (ty:=124) (e:=141) (i:=Tryz.t141) (bytes:=40) (size:=4) (v:=t.v) (x:=t) (G:=fun _=>False) (by kernel_rfl) (by kernel_rfl) rfl rfl rfl rfl (by decide) (by decide) (by decide) hY hs hB rfl rfl (fun k hk _=>hk.elim) hm;exact⟨y,w1,k1,k2,s',w2,k3,kO.of k4,k5.p fun g hg=>.inl ⟨(k6 g hg).2.1,(k6 g hg).1⟩⟩
def kP:List (List UInt8):=[[97,102,116,101,114],[97,108,119,97,121,115],[99,104,97,114,116],[100,101,101,112],[101,109,105,116],[101,110,116,101,114],[104,105,115,116,111,114,121],[105,110],[105,110,105,116,105,97,108],[108,101,97,118,101],[111,110],[112,97,114,97,108,108,101,108],[114,97,105,115,101],[115,101,116],[115,116,97,116,101],[118,97,114]]
theorem GN (w:World):Calls Tryz.prog 133 #[] w fun e w'=>∃s:Sl,e=.returned s.v/\Own jJ 1 9 w.heap.size w' (fun _=>True) s kP/\Only [] w w':=by
 refine(aeP (fun v w'=>∃s:Sl,v=s.v/\Own jJ 1 9 w.heap.size w' (fun _=>True) s kP/\Only [] w w') w ?_).mono (by
  rintro e w' ⟨v,rfl,s,rfl,h⟩;exact⟨s,rfl,h⟩)
 unfold Yc;obtain⟨s,w',h1,h2,h3⟩:=lI w kP (n:=16) rfl rfl (by decide) (by decide);exact⟨s,w',h1,s,rfl,h2,h3⟩
structure Cut (w:World) (b:Nat) (l:List UInt8) (i:Nat) (rs:Sl) (acc:List Tk):Prop where
 blk:∃ws:Sl,Blk w b 198 [.string (T l),.int .i64 (i:Int),ws.v,rs.v]/\SliceF jJ 1 w (fun k=>k<b) ws kP
 own:kO (b+1) w rs acc
 er:Er w
 gb:7<b
 il:i<=l.length
 ll:l.length<=16384
theorem Cut.lt {w:World} {b:Nat} {l:List UInt8} {i:Nat} {rs:Sl} {acc:List Tk} (h:Cut w b l i rs acc):b<w.heap.size:=by
 obtain⟨ws,h1,_⟩:=h.blk;exact h1.lt
theorem Cut.only {w w':World} {b:Nat} {l:List UInt8} {i:Nat} {rs:Sl} {acc:List Tk} (h:Cut w b l i rs acc) (hO:Only [] w w'):Cut w' b l i rs acc:=by
 obtain⟨ws,h1,h2⟩:=h.blk;exact⟨⟨ws,(hO.block b h1.lt (by simp)).trans h1,SliceF.only cL (by decide) h2 hO (by simp)⟩,h.own.only hO,h.er.only hO,h.gb,h.il,h.ll⟩
theorem Cut.move {w w':World} {b:Nat} {l:List UInt8} {i j:Nat} {rs:Sl} {acc:List Tk} (h:Cut w b l i rs acc) (hO:Only [b] w w') (hj:j<=l.length) (hB:∀ws:Sl,Blk w b 198 [.string (T l),.int .i64 (i:Int),ws.v,rs.v]->Blk w' b 198 [.string (T l),.int .i64 (j:Int),ws.v,rs.v]):Cut w' b l j rs acc:=by
 obtain⟨ws,h1,h2⟩:=h.blk;exact⟨⟨ws,hB ws h1,SliceF.only cL (by decide) h2 hO (by intro k hk _;simp only[ae];omega)⟩,h.own.keep fun k hk bp=>hO.block k bp (by simp only[ae];omega),h.er.keep fun bp=>hO.block _ bp (by simp only[ae];have:=h.gb;omega),h.gb,hj,h.ll⟩
theorem GP {w:World} {b:Nat} {l:List UInt8} {i:Nat} {rs:Sl} {acc:List Tk} (h:Cut w b l i rs acc) (k:Int) (t:List UInt8) (nn a0:Int) (n:Nat) (hn:i+n<=l.length) (ha:acc.length<=16384):
  Calls Tryz.prog 137 #[.pointer (some ⟨b,0,none⟩),.agg #[.int .i64 k,.string (T t),.int .i64 nn,.int .i64 a0],.int .i64 (n:Int)] w fun e w'=>e=.returned (.tuple #[])/\OnlyP (fun k=>b<=k) w w'/\∃Q3,Cut w' b l (i+n) Q3 (acc++[⟨k,t,nn,i⟩]):=by
 refine ret (ae3 ⟨b,0,none⟩ k (T t) nn a0 n (fun v w'=>v=.tuple #[]/\OnlyP (fun k=>b<=k) w w'/\∃Q3,Cut w' b l (i+n) Q3 (acc++[⟨k,t,nn,i⟩])) w ?_);unfold Yt;intro k0 w0 fQ eE cd;have D0:=h.lt;have Vw:=h.ll;have h0:=h.only cd;obtain⟨ws,BJ,hw0⟩:=h0.blk;refine⟨i,Blk.eo BJ 1 rfl,fun w1 bR=>?_⟩;have zb0:=BJ.lt;have yL:Blk w1 b 198 _:=(bR.block b zb0 (by simp only[ae];omega)).trans BJ;have S0:kO (b+1) w1 rs acc:=h0.own.keep fun q hq bp=>by
  refine bR.block q bp ?_;simp only[ae];rintro rfl;have:=(h.own.blk hq.2).2;dsimp only at this;omega
 have z1:=bR.size;obtain⟨y,w2,c1,c2,s',w3,c3,c4,c5⟩:=TZ ⟨k,t,nn,i⟩ S0 (by omega) (ay (gI 40 (show acc.length+1<=16385 by omega)) (by decide));have z2:=c2.size;have z3:=c5.size;have ahl:∀q,rs.a=some ⟨q,0,none⟩->q≠k0:=fun q hq=>by
  have:=(h.own.blk hq).2;dsimp only at this;omega
 refine⟨fun q=>q=b,rfl,rs,Blk.eo yL 3 rfl,y,w2,c1,c2.same (by simp;omega),be.only c2,s',w3,c3,?_,?_,?_⟩
 ·exact c5.same (by intro x hx;simp only[ae]at hx;subst hx;exact⟨by omega,fun e=>ahl _ e.2 rfl⟩)
 ·intro q hq bp;exact c5.block q bp (by omega)
 have hb3:Blk w3 b 198 [.string (T l),.int .i64 (i:Int),ws.v,rs.v]:=(c5.block b (by omega) (by omega)).trans ((c2.block b (by omega) (by simp)).trans yL);refine⟨b,3,_,198,by rw[eV],hb3,by simp,by omega,fun w4 cZ Q4=>?_⟩;have Q4:Blk w4 b 198 [.string (T l),.int .i64 (i:Int),ws.v,s'.v]:=Q4;refine⟨i,Blk.eo Q4 1 rfl,b,1,_,198,by rw[yW,eV],Q4,by simp,by omega,fun w5 eC Ij=>⟨rfl,?_,s',?_⟩⟩
 ·have e1:OnlyP (fun k=>b<=k) w w1:=cd.p0.trans (bR.p (F:=fun q=>q=k0) fun b hb=>.inl (by simpa using hb)) fun q hq=>by omega
  have e2:OnlyP (fun k=>b<=k) w w3:=(e1.cf c2).trans c5 fun q hq=>.inl (by omega);have e3:OnlyP (fun k=>b<=k) w w4:=e2.trans (cZ.p (F:=fun q=>q=b) fun b hb=>.inl (by simpa using hb)) fun q hq=>.inl (by omega);exact e3.trans (eC.p (F:=fun q=>q=b) fun b hb=>.inl (by simpa using hb)) fun q hq=>.inl (by omega)
 ·have z4:=cZ.size;have Ij:Blk w5 b 198 [.string (T l),.int .i64 (IntKind.i64.wrap ((i:Int)+n)),ws.v,s'.v]:=Ij;rw[gV (by omega) (by omega)]at Ij;have up:OnlyP (fun k=>b<=k) w w5:=by
   have e1:OnlyP (fun k=>b<=k) w w1:=cd.p0.trans (bR.p (F:=fun q=>q=k0) fun b hb=>.inl (by simpa using hb)) fun q hq=>by omega
   have e2:OnlyP (fun k=>b<=k) w w3:=(e1.cf c2).trans c5 fun q hq=>.inl (by omega);have e3:OnlyP (fun k=>b<=k) w w4:=e2.trans (cZ.p (F:=fun q=>q=b) fun b hb=>.inl (by simpa using hb)) fun q hq=>.inl (by omega);exact e3.trans (eC.p (F:=fun q=>q=b) fun b hb=>.inl (by simpa using hb)) fun q hq=>.inl (by omega)
  have hgb:=h.gb;obtain⟨Jz,kH,WO⟩:=h.blk;have hwe:Jz=ws:=by
   have:Blk w0 b 198 [.string (T l),.int .i64 (i:Int),Jz.v,rs.v]:=(cd.block b D0 (by simp)).trans kH;unfold Blk at this BJ;rw[this]at BJ;simp[Sl.v]at BJ;cases ws;cases Jz;simp_all
  subst hwe;refine⟨⟨Jz,Ij,SliceF.tE cL (by decide) WO up fun q hq _ hd=>by omega⟩,?_,h.er.keep fun bp=>up.block _ bp (by omega),hgb,hn,Vw⟩;have e4:kO (b+1) w4 s' _:=c4.keep fun q hq bp=>cZ.block q bp (by simp only[ae];omega);exact e4.keep fun q hq bp=>eC.block q bp (by simp only[ae];omega)
abbrev Tq:=Int×List UInt8×Int×Nat
def kE (m:List UInt8):Except Int Tq:=
 if 24<(m.takeWhile dU).length then .error 2 else .ok (if kP.contains (m.takeWhile dU)then 2 else 1,m.takeWhile dU,0,(m.takeWhile dU).length)
def pz (m:List UInt8):Except Int Tq:=
 if(eX m).2.2≠0 then .error (eX m).2.2 else if(eX m).2.1<(m.takeWhile dU).length then .error 4 else .ok (3,[],(eX m).1,(eX m).2.1)
def rF:List UInt8:=[123,125,40,41,91,93,59,44,61,43,45,42,47,37,60,62,33]
def xb (m:List UInt8):Bool:=match m with
 | c::d::_=>(d==61&&[60,62,61,33].contains c)||(d==c&&[38,124].contains c)||(c==45&&d==62)
 | _=>false
def jS (m:List UInt8):Nat:=if xb m then 2 else match m with
 | c::_=>if rF.contains c then 1 else 0
 | []=>0
def lJ (m:List UInt8):Except Int Tq:=if jS m=0 then .error 4 else .ok (4,m.take (jS m),0,jS m)
def j8 (m:List UInt8):Except Int Tq:=match m with
 | []=>.error 4
 | c::_=>if eu c then kE m else if cy c then pz m else lJ m
def JR (w':World) (b:Nat) (l:List UInt8) (i:Nat) (acc:List Tk) (r:Except Int Tq) (v:Value):Prop:=match r with
 | .error e=>v=.int .i64 e/\∃rs,Cut w' b l i rs acc
 | .ok q=>v=.int .i64 0/\∃rs,Cut w' b l (i+q.2.2.2) rs (acc++[⟨q.1,q.2.1,q.2.2.1,i⟩])
theorem qy {p:UInt8->Bool} {l:List UInt8}:(l.takeWhile p).length<=l.length:=by
 rw[ot,ck];exact Nat.min_le_right _ _
theorem T0 {w:World} {b:Nat} {l:List UInt8} {i:Nat} {rs:Sl} {acc:List Tk} (h:Cut w b l i rs acc) (ha:acc.length<=16384):
  Calls Tryz.prog 203 #[.pointer (some ⟨b,0,none⟩)] w fun e w'=>∃v,e=.returned v/\OnlyP (fun k=>b<=k) w w'/\JR w' b l i acc (kE (l.drop i)) v:=by
 refine aeZ ⟨b,0,none⟩ (fun v w'=>OnlyP (fun k=>b<=k) w w'/\JR w' b l i acc (kE (l.drop i)) v) w ?_;unfold Yp;obtain⟨ws,hb,hw⟩:=h.blk;have Vw:=h.ll;refine(Lj hb h.il (by omega)).mono ?_;rintro _ w0 ⟨rfl,cd⟩;have hwl:((l.drop i).takeWhile dU).length<=l.length-i:=by
  have:=qy (p:=dU) (l:=l.drop i);rwa[bK]at this
 have Jx:=h.il;refine⟨_,rfl,fun hc=>⟨cd.p0,?_⟩,fun hc=>?_⟩
 ·rw[cK]at hc;rw[kE,if_pos (by have:=aj hc;omega)];exact⟨rfl,rs,h.only cd⟩
 rw[cK]at hc;have hc:¬24<((l.drop i).takeWhile dU).length:=by have:=ar hc;omega
 rw[kE,if_neg hc];generalize hm:(l.drop i).takeWhile dU=m at*
 have h0:=h.only cd;obtain⟨Jz,kH,WO⟩:=h0.blk;refine⟨fun k w'=>k=(if kP.contains m then 2 else 1)/\Only [] w w',?_,Jz,Blk.eo kH 2 rfl,(pw WO m).mono ?_⟩
 ·rintro _ w1 ⟨rfl,bR⟩;refine(ret (RD (T m) (fun v w'=>v=.string (T m)/\Only [] w1 w') w1 ?_)).mono ?_
  ·unfold K9;refine(Tryz.stringslite_Clone (T m) w1 (by rw[cK];omega)).mono ?_;rintro _ w2 ⟨rfl,hw⟩;exact⟨_,rfl,rfl,Only.tD hw⟩
  rintro _ w2 ⟨rfl,cO⟩;rw[cK];refine⟨_,rfl,(GP (h.only (bR.cf cO)) _ m 0 0 m.length (by omega) ha).mono ?_⟩;rintro _ w3 ⟨rfl,cU,Q3,hC⟩;exact⟨rfl,(bR.cf cO).BH cU,rfl,Q3,hC⟩
 ·rintro _ w4 ⟨rfl,cZ⟩;refine⟨_,rfl,fun hb=>⟨by rw[if_pos hb],cd.cf cZ⟩,fun hb=>⟨by rw[hb];rfl,cd.cf cZ⟩⟩
theorem Lp {w:World} {b:Nat} {l:List UInt8} {i:Nat} {rs:Sl} {acc:List Tk} (h:Cut w b l i rs acc) (ha:acc.length<=16384):
  Calls Tryz.prog 205 #[.pointer (some ⟨b,0,none⟩)] w fun e w'=>∃v,e=.returned v/\OnlyP (fun k=>b<=k) w w'/\JR w' b l i acc (pz (l.drop i)) v:=by
 refine ae4 ⟨b,0,none⟩ (fun v w'=>OnlyP (fun k=>b<=k) w w'/\JR w' b l i acc (pz (l.drop i)) v) w ?_;unfold Yu;obtain⟨ws,hb,hw⟩:=h.blk;have Vw:=h.ll;have Jx:=h.il;refine(wZ hb h.il).mono ?_;rintro _ w0 ⟨rfl,cd⟩;have Ek:(l.drop i).length=l.length-i:=bK;refine⟨_,rfl,(Lm (h.er.only cd) (by omega)).mono ?_⟩;rintro _ w1 ⟨rfl,bR⟩;have gX:=cd.cf bR;refine⟨_,_,_,rfl,fun he=>⟨gX.p0,?_⟩,fun he=>?_⟩
 ·rw[pz,if_pos (by simpa using he)];exact⟨rfl,rs,h.only gX⟩
 have he:¬(eX (l.drop i)).2.2≠0:=by simpa using he
 have hk:(eX (l.drop i)).2.1<=(l.drop i).length:=by
  have:=qy (p:=cy) (l:=l.drop i);unfold eX;split
  ·exact aF _
  ·split
   ·exact aF _
   ·split
    ·exact this
    ·exact aF _
 obtain⟨Jz,kH,WO⟩:=(h.only gX).blk;refine(Lj kH h.il (by omega)).mono ?_;rintro _ w2 ⟨rfl,cO⟩;have mS:=gX.cf cO;refine⟨_,rfl,?_⟩;rw[cK];refine⟨fun hc=>⟨mS.p0,?_⟩,fun hc=>?_⟩
 ·rw[pz,if_neg he,if_pos (by have:=aj hc;omega)];exact⟨rfl,rs,h.only mS⟩
 ·rw[pz,if_neg he,if_neg (by have:=ar hc;omega)];refine(GP (h.only mS) 3 [] _ 0 (eX (l.drop i)).2.1 (by omega) ha).mono ?_;rintro _ w3 ⟨rfl,cU,Q3,hC⟩;exact⟨rfl,mS.BH cU,rfl,Q3,hC⟩
theorem pA (w:World) (p:Addr) (n:Nat) (a:Addr):(w.freeze p n).cell? a=w.cell? a:=by
 unfold World.freeze;split
 ·rfl
 ·unfold World.cell?;simp only[yu];by_cases S1:p.block=a.block
  ·rw[if_pos S1];cases h:w.heap[a.block]? with
   | none=>rfl
   | some o=>
    cases o with
    | cells c e f=>obtain⟨lo,hi⟩:=f;rfl
    | _=>rfl
  ·rw[if_neg S1]
theorem pB (w:World) (p:Addr) (n:Nat):OnlyP (fun k=>k=p.block) w (w.freeze p n):=by
 unfold World.freeze;split
 ·exact OnlyP.refl _ _
 ·exact⟨rfl,rfl,rfl,by simp,fun k hk hn=>by
   simp only[yu];rw[if_neg fun e=>hn e.symm]⟩
theorem T1 {w:World} {F:Nat->Prop} {s:Sl} {g B:Nat} {l:List UInt8} (ha:s.a=some ⟨g,0,none⟩) (h:Own gN 1 5 B w F s l) (bp:g<w.heap.size):
  ∃w',(convert 68 68 (Sl.v s)).run Tryz.prog w=.ok (Sl.v s) w'/\SliceF gN 1 w' (fun _=>True) s l/\OnlyP (fun k=>k=g) w w':=by
 have hs:=y9 h;obtain⟨g',css,tail,a1,a2,a4,_⟩:=h.resolve_left (fun e=>by rw[e.1]at ha;cases ha);rw[ha]at a1;injection a1 with a1;injection a1 with a1;subst a1;have tJ:w.shape? g=some (5,(css.flatten++tail).toArray.size):=by
  unfold World.shape?;unfold Blk at a4;rw[a4]
 have hu:Tryz.prog.underlying 68=some (.slice 5):=by kernel_rfl
 have Vh:Tryz.prog.underlying 5=some (.int .u8):=by kernel_rfl
 refine⟨w.freeze ⟨g,(css.flatten++tail).toArray.size,none⟩ 1,?_,⟨hs.len,hs.cap,hs.nil0,hs.big,fun j x hj=>?_⟩,pB w ⟨g,(css.flatten++tail).toArray.size,none⟩ 1⟩
 ·unfold Sl.v;rw[ha];simp[convert,run_underlying hu,run_underlying Vh,markStringish,tJ,Result.andThen]
 ·obtain⟨base,cs,g1,g2,g3,g4,g5⟩:=hs.at_ j x hj;exact⟨base,cs,g1,trivial,g3,fun q v hq=>by rw[pA];exact g4 q v hq,g5⟩
theorem u8i {c d:UInt8}:((c.toNat:Int)==(d.toNat:Int))=(c==d):=by
 rw[br];simp only[iR];constructor
 ·intro h;exact Oi.1 (by omega)
 ·rintro rfl;rfl
theorem IT {m:List UInt8} (h:xb m=true):2<=m.length:=by
 match m,h with
 | _::_::_,_=>simp
theorem xd {m:List UInt8}:jS m<=m.length:=by
 unfold jS;split
 ·exact IT (by assumption)
 ·split
  ·split
   ·simp
   ·exact aF _
  ·exact aF _
theorem T2 {w:World} {b:Nat} {l:List UInt8} {i:Nat} {rs:Sl} {acc:List Tk} (h:Cut w b l i rs acc) (ha:acc.length<=16384) (eI:i<l.length):
  Calls Tryz.prog 206 #[.pointer (some ⟨b,0,none⟩)] w fun e w'=>∃v,e=.returned v/\OnlyP (fun k=>b<=k) w w'/\JR w' b l i acc (lJ (l.drop i)) v:=by
 refine ae5 ⟨b,0,none⟩ (fun v w'=>OnlyP (fun k=>b<=k) w w'/\JR w' b l i acc (lJ (l.drop i)) v) w ?_;unfold Yv;obtain⟨ws,hb,hw⟩:=h.blk;have Vw:=h.ll;have Jx:=h.il;refine(wZ hb h.il).mono ?_;rintro _ w0 ⟨rfl,cd⟩;have Ek:(l.drop i).length=l.length-i:=bK;generalize hm:l.drop i=m at*
 obtain⟨c,r,rfl⟩:∃c r,m=c::r:=by
  cases m with
  | nil=>simp at Ek;omega
  | cons c r=>exact⟨c,r,rfl⟩
 have g0:(0:Int)<=0/\(T (c::r))[0]? =some c:=⟨jQ _,by rw[uO];rfl⟩
 refine⟨T (c::r),rfl,fun i0 w'=>i0=(if rF.contains c then 1 else 0:Int)/\Only [] w w',?_,c,g0,?_⟩
 ·rintro _ w1 ⟨rfl,bR⟩;refine⟨fun i1 w'=>i1=(jS (c::r):Int)/\Only [] w w',?_,fun b w'=>b=xb (c::r)/\Only [] w w',?_,?_,?_⟩
  ·rintro _ w2 ⟨rfl,cO⟩;refine⟨fun hz=>⟨cO.p0,?_⟩,fun hz=>⟨jS (c::r),⟨rfl,by rw[cK];exact xd⟩,?_⟩⟩
   ·rw[lJ,if_pos (by have:(jS (c::r):Int)=0:=(by simpa using hz);omega)];exact⟨rfl,rs,h.only cO⟩
   have hz:¬jS (c::r)=0:=by
    intro e;rw[e]at hz;simp at hz
   rw[lJ,if_neg hz,wB,eL,qm];have hn:=xd (m:=c::r);refine(ret (RD (T _) (fun v w'=>v=.string (T ((c::r).take (jS (c::r))))/\Only [] w2 w') w2 ?_)).mono ?_
   ·unfold K9;refine(Tryz.stringslite_Clone (T _) w2 (by rw[cK,ck];omega)).mono ?_;rintro _ w3 ⟨rfl,hw⟩;exact⟨_,rfl,rfl,Only.tD hw⟩
   rintro _ w3 ⟨rfl,cU⟩;refine⟨_,rfl,(GP (h.only (cO.cf cU)) 4 _ 0 0 (jS (c::r)) (by omega) ha).mono ?_⟩;rintro _ w4 ⟨rfl,cZ,Q3,hC⟩;exact⟨rfl,(cO.cf cU).BH cZ,rfl,Q3,hC⟩
  ·rintro _ w5 ⟨rfl,eC⟩;refine⟨fun hs=>⟨by rw[jS,if_pos hs];rfl,eC⟩,fun hs=>⟨?_,eC⟩⟩;have e:jS (c::r)=if rF.contains c then 1 else 0:=by rw[jS,if_neg (by rw[hs];decide)]
   rw[e];split<;>rfl
  ·intro hc;rw[cK]at hc;obtain⟨d,r,rfl⟩:∃d r',r=d::r':=by
    cases r with
    | nil=>simp at hc
    | cons d r=>exact⟨d,r,rfl⟩
   have g1:(0:Int)<=1/\(T (c::d::r))[1]? =some d:=⟨by decide,by rw[uO];rfl⟩
   have ex:(T (c::d::r)).extract 0 2=T [c,d]:=by rw[wB];rfl
   have sz:2<=(T (c::d::r)).size:=by rw[cK];simp
   have lit:(ByteArray.mk #[45,62])=T [45,62]:=rfl;have eqx:((T [c,d]).toList==(T [45,62]).toList)=(c==45&&d==62):=by
    rw[jW,br];simp
   have e61:((d.toNat:Int)==61)=(d==61):=u8i (d:=61);have hs2:xb (c::d::r)=((d==61&&[60,62,61,33].contains c)||(d==c&&[38,124].contains c)||(c==45&&d==62)):=rfl;rw[hs2];generalize Vg:([60,62,61,33]:List UInt8).contains c=p1;generalize hp2:([38,124]:List UInt8).contains c=p2;have OG:((((T (c::d::r)).extract 0 2).toList)==((ByteArray.mk #[45,62]).toList))=(c==45&&d==62):=by rw[ex,lit,eqx]
   refine⟨d,g1,fun Im=>⟨c,g0,fun w6 dD=>?_⟩,fun Im=>⟨d,g1,c,g0,fun JA=>⟨c,g0,fun cS dx=>?_⟩,fun JA=>⟨sz,fun eK dz=>⟨?_,bR.cf dz⟩⟩⟩⟩
   ·rw[e61]at Im;obtain⟨s,w7,k1,k2,k3,_⟩:=ud w6 [60,62,61,33] (n:=4) (parts:=#[(0,.int .u8 60),(1,.int .u8 62),(2,.int .u8 61),(3,.int .u8 33)]) rfl rfl (by decide) (by decide);refine⟨s,w7,k1,(CB (y9 k2) c).mono ?_⟩;rintro _ w8 ⟨rfl,fy⟩;have oU:=bR.cf (dD.cf (k3.cf fy));rw[Vg];refine⟨_,rfl,fun hb=>⟨by rw[Im,hb];rfl,oU⟩,fun hb=>⟨d,g1,c,g0,fun JA=>⟨c,g0,?_⟩,fun JA=>⟨sz,?_,oU⟩⟩⟩
    ·rw[u8i]at JA;obtain⟨s,w9,k1,k2,k3,_⟩:=ud w8 [38,124] (n:=2) (parts:=#[(0,.int .u8 38),(1,.int .u8 124)]) rfl rfl (by decide) (by decide);refine⟨s,w9,k1,(CB (y9 k2) c).mono ?_⟩;rintro _ cI ⟨rfl,dm⟩;have hO:=oU.cf (k3.cf dm);rw[hp2];exact⟨_,rfl,fun x7=>⟨by rw[Im,hb,JA,x7];rfl,hO⟩,fun x7=>⟨sz,by rw[OG,Im,hb,JA,x7];rfl,hO⟩⟩
    ·rw[u8i]at JA;rw[OG,Im,hb,JA];rfl
   ·rw[e61]at Im;rw[u8i]at JA;obtain⟨s,dK,k1,k2,k3,_⟩:=ud cS [38,124] (n:=2) (parts:=#[(0,.int .u8 38),(1,.int .u8 124)]) rfl rfl (by decide) (by decide);refine⟨s,dK,k1,(CB (y9 k2) c).mono ?_⟩;rintro _ dX ⟨rfl,dZ⟩;have hO:=bR.cf (dx.cf (k3.cf dZ));rw[hp2];exact⟨_,rfl,fun x7=>⟨by rw[Im,JA,x7];rfl,hO⟩,fun x7=>⟨sz,by rw[OG,Im,JA,x7];rfl,hO⟩⟩
   ·rw[e61]at Im;rw[u8i]at JA;rw[OG,Im,JA];rfl
  ·intro hc gn jo;rw[cK]at hc;have hr:r=[]:=by
    cases r with
    | nil=>rfl
    | cons d r=>exact absurd (ar hc) (by simp only[ao];omega)
   subst hr;exact⟨rfl,bR.cf jo⟩
 ·obtain⟨s,gR,k1,k2,k3,k4⟩:=ud w0 rF (n:=17) (parts:=#[(0,.int .u8 123),(1,.int .u8 125),(2,.int .u8 40),(3,.int .u8 41),(4,.int .u8 91),(5,.int .u8 93),(6,.int .u8 59),(7,.int .u8 44),(8,.int .u8 61),(9,.int .u8 43),(10,.int .u8 45),(11,.int .u8 42),(12,.int .u8 47),(13,.int .u8 37),(14,.int .u8 60),(15,.int .u8 62),(16,.int .u8 33)]) rfl rfl (by decide) (by decide);obtain⟨fR,c1,c2,c3⟩:=T1 k4 k2 (k2.blk k4).2;have jI:Only [] w0 fR:=((k3.p0 (F:=fun k=>w0.heap.size<=k)).trans c3 fun k hk=>.inl (by omega)).only fun k hk=>hk;refine⟨s,gR,k1,s,fR,c1,(CB c2 c).mono ?_⟩;rintro _ jH ⟨rfl,oU⟩;have hO:=cd.cf (jI.cf oU);exact⟨_,rfl,fun hb=>⟨by rw[if_pos hb],hO⟩,fun hb=>⟨by rw[hb];rfl,hO⟩⟩
theorem JR.int {w':World} {b:Nat} {l:List UInt8} {i:Nat} {acc:List Tk} {r:Except Int Tq} {v:Value} (h:JR w' b l i acc r v):∃k:Int,v=.int .i64 k:=by
 unfold JR at h;split at h
 ·exact⟨_,h.1⟩
 ·exact⟨_,h.1⟩
theorem PQ {w:World} {b:Nat} {l:List UInt8} {i:Nat} {rs:Sl} {acc:List Tk} (h:Cut w b l i rs acc) (ha:acc.length<=16384) (eI:i<l.length):
  Calls Tryz.prog 136 #[.pointer (some ⟨b,0,none⟩)] w fun e w'=>∃v,e=.returned v/\OnlyP (fun k=>b<=k) w w'/\JR w' b l i acc (j8 (l.drop i)) v:=by
 refine aeX ⟨b,0,none⟩ (fun v w'=>OnlyP (fun k=>b<=k) w w'/\JR w' b l i acc (j8 (l.drop i)) v) w ?_;unfold Yn;obtain⟨ws,hb,hw⟩:=h.blk;have hx:l[i]? =some l[i]:=bn eI;generalize l[i]=x at hx;have ht:j8 (l.drop i)=if eu x then kE (l.drop i)else if cy x then pz (l.drop i)else lJ (l.drop i):=by
  rw[za hx];rfl
 rw[ht];refine⟨T l,Blk.eo hb 0 rfl,i,Blk.eo hb 1 rfl,x,⟨aG i,by rw[uO,az,hx]⟩,fun w0 cd=>(wY w0 x).mono ?_⟩;rintro _ w1 ⟨rfl,bR⟩;have gX:=cd.cf bR;refine⟨_,rfl,fun hl=>?_,fun hl=>(GK w1 x).mono ?_⟩
 ·rw[if_pos hl];refine(T0 (h.only gX) ha).mono ?_;rintro _ w2 ⟨v,rfl,cO,hd⟩;obtain⟨k,rfl⟩:=hd.int;exact⟨k,rfl,gX.BH cO,hd⟩
 rintro _ w3 ⟨rfl,cU⟩;have yi:=gX.cf cU;rw[if_neg (by rw[hl];decide)];refine⟨_,rfl,fun hd=>?_,fun hd=>?_⟩
 ·rw[if_pos hd];refine(Lp (h.only yi) ha).mono ?_;rintro _ w2 ⟨v,rfl,cO,hd⟩;obtain⟨k,rfl⟩:=hd.int;exact⟨k,rfl,yi.BH cO,hd⟩
 ·rw[if_neg (by rw[hd];decide)];refine(T2 (h.only yi) ha eI).mono ?_;rintro _ w2 ⟨v,rfl,cO,hd⟩;obtain⟨k,rfl⟩:=hd.int;exact⟨k,rfl,yi.BH cO,hd⟩
theorem sK {m:List UInt8} {q:Tq} (h:j8 m=.ok q):1<=q.2.2.2:=by
 cases m with
 | nil=>cases h
 | cons c r=>
  simp only[j8]at h;split at h
  ·rename_i hc;unfold kE at h;split at h
   ·cases h
   ·injection h with h;subst h;have:dU c=true:=by unfold dU;rw[hc];rfl
    dsimp only;rw[cn,if_pos this,ao];omega
  ·split at h
   ·rename_i hc;unfold pz at h;split at h
    ·cases h
    ·split at h
     ·cases h
     ·rename_i h1 h2;injection h with h;subst h;dsimp only;rw[cn,if_pos (by unfold dU;rw[hc,mh]),ao]at h2;omega
   ·unfold lJ at h;split at h
    ·cases h
    ·injection h with h;subst h;dsimp only;omega
theorem GQ {m:List UInt8} {e:Int} (h:j8 m=.error e):e≠0:=by
 cases m with
 | nil=>injection h with h;omega
 | cons c r=>
  simp only[j8]at h;split at h
  ·unfold kE at h;split at h
   ·injection h with h;omega
   ·cases h
  ·split at h
   ·unfold pz at h;split at h
    ·injection h with h;omega
    ·split at h
     ·injection h with h;omega
     ·cases h
   ·unfold lJ at h;split at h
    ·injection h with h;omega
    ·cases h
def xf (l:List UInt8):Nat->Nat->Except (Int×Nat) (List Tk)
 | 0,_=>.ok []
 | f+1,i=>
  if l.length<=i+iG false (l.drop i)then .ok [⟨5,[],0,(i+iG false (l.drop i):Nat)⟩]
  else match j8 (l.drop (i+iG false (l.drop i)))with
   | .error e=>.error (e,i+iG false (l.drop i))
   | .ok q=>match xf l f (i+iG false (l.drop i)+q.2.2.2)with
    | .error x=>.error x
    | .ok r=>.ok (⟨q.1,q.2.1,q.2.2.1,(i+iG false (l.drop i):Nat)⟩::r)
theorem Lr {l:List UInt8}:(eX l).2.1<=l.length:=by
 have:=qy (p:=cy) (l:=l);unfold eX;split
 ·exact aF _
 ·split
  ·exact aF _
  ·split
   ·exact this
   ·exact aF _
theorem AD {m:List UInt8} {q:Tq} (h:j8 m=.ok q):q.2.2.2<=m.length:=by
 cases m with
 | nil=>cases h
 | cons c r=>
  simp only[j8]at h;split at h
  ·unfold kE at h;split at h
   ·cases h
   ·injection h with h;subst h;exact qy
  ·split at h
   ·unfold pz at h;split at h
    ·cases h
    ·split at h
     ·cases h
     ·injection h with h;subst h;exact Lr
   ·unfold lJ at h;split at h
    ·cases h
    ·injection h with h;subst h;exact xd
theorem Ls {l:List UInt8} {i:Nat} (hi:i<=l.length):i+iG false (l.drop i)<=l.length:=by
 have:=AB (b:=false) (l:=l.drop i);rw[bK]at this;omega
theorem CF (l:List UInt8):∀(f g i:Nat),i<=l.length->l.length<i+f->l.length<i+g->xf l f i=xf l g i
 | 0,_,i,hi,h,_=>by omega
 | _,0,i,hi,_,h=>by omega
 | f+1,g+1,i,hi,h1,h2=>by
  rw[xf,xf];split
  ·rfl
  ·split
   ·rfl
   ·rename_i q hq;have h3:=sK hq;have h4:=AD hq;rw[bK]at h4;rw[CF l f g _ (by omega) (by omega) (by omega)]
def iL (l:List UInt8) (i:Nat):Except (Int×Nat) (List Tk):=xf l (l.length+1) i
theorem ir {l:List UInt8} {i:Nat} (hi:i<=l.length):iL l i=if l.length<=i+iG false (l.drop i)then .ok [⟨5,[],0,(i+iG false (l.drop i):Nat)⟩]
  else match j8 (l.drop (i+iG false (l.drop i)))with
   | .error e=>.error (e,i+iG false (l.drop i))
   | .ok q=>match iL l (i+iG false (l.drop i)+q.2.2.2)with
    | .error x=>.error x
    | .ok r=>.ok (⟨q.1,q.2.1,q.2.2.1,(i+iG false (l.drop i):Nat)⟩::r):=by
 unfold iL;rw[xf];split
 ·rfl
 ·split
  ·rfl
  ·rename_i q hq;have h3:=sK hq;have h4:=AD hq;rw[bK]at h4;rw[CF l l.length (l.length+1) _ (by omega) (by omega) (by omega)]
def bU (l:List UInt8):List Tk×Int×Int:=if 16384<l.length then([],2, -1)else match iL l 0 with
 | .error x=>([],x.1,(x.2:Nat))
 | .ok r=>(r,0,0)
def gp (acc:List Tk):Except (Int×Nat) (List Tk)->Except (Int×Nat) (List Tk)
 | .error x=>.error x
 | .ok r=>.ok (acc++r)
theorem qz (b:Bool):∀(l:List UInt8),iG false (l.drop (iG b l))=0
 | []=>by simp[iG]
 | c::r=>by
  cases b with
  | true=>
   rw[iG,iU,im];exact qz _ r
  | false=>
   rw[iG];split
   ·rw[iU,im];exact qz _ r
   ·split
    ·rw[iU,im];exact qz _ r
    ·rename_i h1 h2;rw[eL,iG,if_neg h1,if_neg h2]
theorem nD {l:List UInt8} {i:Nat} (hi:i<=l.length):iL l i=iL l (i+iG false (l.drop i)):=by
 have h1:=Ls hi;have h2:iG false (l.drop (i+iG false (l.drop i)))=0:=by
  rw[<-mj];exact qz false (l.drop i)
 rw[ir hi,ir h1,h2,db]
theorem PR {a b:List Tk} {x:Except (Int×Nat) (List Tk)}:gp a (gp b x)=gp (a++b) x:=by
 cases x with
 | error _=>rfl
 | ok r=>simp[gp]
theorem CG {w:World} (l:List UInt8) (hE:Er w):
  Calls Tryz.prog 72 #[.string (T l)] w fun e w'=>∃rs:Sl,e=.returned (.tuple #[rs.v,.agg #[.int .i64 (bU l).2.1,.int .i64 (bU l).2.2]])/\kO w.heap.size w' rs (bU l).1/\Only [] w w':=by
 refine(aeO (T l) (fun v w'=>∃rs:Sl,v=(.tuple #[rs.v,.agg #[.int .i64 (bU l).2.1,.int .i64 (bU l).2.2]])/\kO w.heap.size w' rs (bU l).1/\Only [] w w') w ?_).mono (by
  rintro e w' ⟨v,rfl,rs,rfl,h⟩;exact⟨rs,rfl,h⟩)
 unfold Yb;rw[cK];refine⟨fun hc k0 w0 _ _ hO=>⟨Sl.nil,?_,?_,hO⟩,fun hc k1 w1 kJ jp bR=>(GN w1).mono ?_⟩
 ·rw[bU,if_pos (by have:=aj hc;omega)]
 ·rw[bU,if_pos (by have:=aj hc;omega)];exact Own.nil _ _ _ _ _ _
 have Vw:l.length<=16384:=by have:=ar hc;omega
 have htm:bU l=match iL l 0 with
  | .error x=>([],x.1,(x.2:Nat))
  | .ok r=>(r,0,0):=by rw[bU,if_neg (by omega)]
 rintro _ w2 ⟨ws,rfl,hws,cO⟩;refine⟨ws,rfl,cO.same (by simp;omega),fun b w3 hb kH cU NQ=>?_⟩;have dZ:=bR.cf (cO.cf cU);have z1:=bR.size;have z2:=cO.size;have z3:=cU.size;have hC0:Cut w3 b l 0 Sl.nil []:=⟨⟨ws,NQ,(SliceF.only cL (by decide) ((sJ hws).inHeap cL (by decide)) cU (by simp)).mono cL fun k hk=>by omega⟩,Own.nil _ _ _ _ _ _,hE.only dZ,by have:=hE.lt;omega,aF _,Vw⟩
 have sm:∀{u u':World},w2.heap.size<=u.heap.size->OnlyP (fun k=>b<=k) u u'->aD [k1] u u':=fun hu hO=>hO.same (by intro x hx;simp only[ae]at hx;subst hx;omega);refine(Ll NQ (aF _) (by omega)).mono ?_;rintro _ w4 ⟨rfl,cZ,Q4⟩;have p4:OnlyP (fun k=>b<=k) w3 w4:=cZ.p fun x hx=>.inl (by simp only[ae]at hx;omega);have hC4:Cut w4 b l (0+iG false (l.drop 0)) Sl.nil []:=hC0.move cZ (Ls (aF _)) fun Jz h'=>by
  have:Jz=ws:=by
   unfold Blk at h' NQ;rw[h']at NQ;simp[Sl.v]at NQ;cases ws;cases Jz;simp_all
  subst this;exact Q4
 refine⟨rfl,sm (by omega) p4,T l,_,ws,Sl.nil,Q4,fun nv e1 e2 s0 i0 l1 l2 w'=>e1=0/\e2=0/\s0=T l/\∃(i:Nat) (acc:List Tk),i0=(i:Int)/\Cut w' b l i l2 acc/\acc.length<=i/\iG false (l.drop i)=0/\iL l 0=gp acc (iL l i)/\nv=l.length-i/\OnlyP (fun k=>b<=k) w3 w'/\Blk w' b 198 [.string (T l),.int .i64 (i:Int),l1.v,l2.v],l.length-(0+iG false (l.drop 0)),?_,?_⟩
 ·refine⟨rfl,rfl,rfl,_,[],rfl,hC4,aF _,?_,?_,rfl,p4,Q4⟩
  ·rw[<-mj];exact qz false (l.drop 0)
  ·rw[<-nD (aF _)];cases iL l 0<;>rfl
 rintro nv _ _ _ _ l1 rs w5 ⟨rfl,rfl,rfl,i,acc,rfl,hC,dN,hsk,pc,rfl,eC,Ij⟩;have z5:=eC.size;have Jx:=hC.il;refine(R8 Ij).mono ?_;rintro _ w6 ⟨rfl,dD⟩;have hC6:=hC.only dD;have hb6:Blk w6 b 198 [.string (T l),.int .i64 (i:Int),l1.v,rs.v]:=(dD.block b Ij.lt (by simp)).trans Ij;have z6:=dD.size;have oJ:=ir hC.il;rw[hsk,db]at oJ;refine⟨_,rfl,dD.same (by simp;omega),T l,i,l1,rs,hb6,fun hc=>?_,fun hc=>?_⟩
 ·have bp:i<l.length:=by simpa using hc
  rw[if_neg (by omega)]at oJ;refine(PQ hC6 (by omega) bp).mono ?_;rintro _ w7 ⟨v,rfl,fg,hd⟩;have p7:OnlyP (fun k=>b<=k) w3 w7:=(eC.cf dD).trans fg fun k hk=>.inl hk;have z7:=fg.size;unfold JR at hd;cases hq:j8 (l.drop i)with
  | error e=>
   rw[hq]at hd oJ;obtain⟨rfl,rs7,Vx⟩:=hd;obtain⟨Xb,S2,_⟩:=Vx.blk;refine⟨e,rfl,sm (by omega) fg,T l,i,Xb,rs7,S2,fun _ w8 fy _=>⟨Sl.nil,?_,?_,?_⟩,fun he=>absurd (GQ hq) (by simpa using he)⟩
   ·rw[htm,pc,oJ];rfl
   ·rw[htm,pc,oJ];exact Own.nil _ _ _ _ _ _
   ·exact(((dZ.p0 (F:=fun k=>w.heap.size<=k)).trans p7 fun k hk=>.inl (by omega)).trans (fy.p (F:=fun k=>k=k1) fun x hx=>.inl (by simpa using hx)) fun k hk=>.inl (by omega)).only fun k hk=>hk
  | ok q=>
   rw[hq]at hd oJ;obtain⟨rfl,rs7,Vx⟩:=hd;obtain⟨Xb,S2,_⟩:=Vx.blk;have hq1:=sK hq;have h7l:=Vx.il;refine⟨0,rfl,sm (by omega) fg,T l,(i+q.2.2.2:Nat),Xb,rs7,S2,fun he=>(by simp at he),fun _=>(Ll S2 h7l (by omega)).mono ?_⟩;rintro _ w9 ⟨rfl,fG,hb9⟩;have p9:OnlyP (fun k=>b<=k) w7 w9:=fG.p fun x hx=>.inl (by simp only[ae]at hx;omega);have hC9:=Vx.move fG (Ls h7l) fun Jz h'=>by
    have:Jz=Xb:=by
     unfold Blk at h' S2;rw[h']at S2;simp[Sl.v]at S2;cases Xb;cases Jz;simp_all
    subst this;exact hb9
   refine⟨rfl,sm (by omega) p9,T l,_,Xb,rs7,hb9,l.length-(i+q.2.2.2+iG false (l.drop (i+q.2.2.2))),by omega,rfl,rfl,rfl,_,_,rfl,hC9,?_,?_,?_,rfl,p7.trans p9 fun k hk=>.inl hk,hb9⟩
   ·rw[ah,aL];omega
   ·rw[<-mj];exact qz false _
   ·rw[pc,oJ,<-nD h7l,<-PR];dsimp only;cases iL l (i+q.2.2.2)<;>rfl
 ·have yg:l.length<=i:=by simpa using hc
  rw[if_pos yg]at oJ;refine(GP hC6 5 [] 0 0 0 (by omega) (by omega)).mono ?_;rintro _ cI ⟨rfl,dm,Vy,abR⟩;obtain⟨ahs,aht,_⟩:=abR.blk;have Vt:OnlyP (fun k=>b<=k) w3 cI:=(eC.cf dD).trans dm fun k hk=>.inl hk;have htt:bU l=(acc++[⟨5,[],0,(i:Nat)⟩],0,0):=by
   rw[htm,pc,oJ];rfl
  refine⟨rfl,sm (by omega) dm,T l,_,ahs,Vy,aht,fun cS dx _=>⟨Vy,?_,?_,?_⟩⟩
  ·rw[htt]
  ·rw[htt];have:kO (b+1) cS Vy _:=abR.own.keep fun k hk bp=>dx.block k bp (by simp only[ae];omega);exact Own.low this (by omega)
  ·exact(((dZ.p0 (F:=fun k=>w.heap.size<=k)).trans Vt fun k hk=>.inl (by omega)).trans (dx.p (F:=fun k=>k=k1) fun x hx=>.inl (by simpa using hx)) fun k hk=>.inl (by omega)).only fun k hk=>hk
end Go.Proofs.YtmhoiicofhlgbaaGreatDoor.Con
namespace Go.Proofs.YtmhoiicofhlgbaaGreatDoor.Con
open Go Go.RowKit Go.Kt Go.Kt.V
set_option linter.unusedSimpArgs false
set_option linter.unusedVariables false
set_option maxHeartbeats 4000000
inductive Ex where
 | mk (k n:Int) (s:List UInt8) (op:Int) (subs:List Ex) (a:Int)
def Ex.k:Ex->Int | .mk k _ _ _ _ _=>k
def Ex.n:Ex->Int | .mk _ n _ _ _ _=>n
def Ex.s:Ex->List UInt8 | .mk _ _ s _ _ _=>s
def Ex.op:Ex->Int | .mk _ _ _ op _ _=>op
def Ex.cX:Ex->List Ex | .mk _ _ _ _ l _=>l
def Ex.a:Ex->Int | .mk _ _ _ _ _ a=>a
def tk0:Tk:=⟨5,[],0, -1⟩
def tk (ts:List Tk) (i:Nat):Tk:=(ts[i]?).getD tk0
def sg (ts:List Tk) (i:Nat) (s:List UInt8):Bool:=(tk ts i).k==4&&decide ((tk ts i).t=s)
def fj (ts:List Tk) (i:Nat):Int×Int:=(if(tk ts i).k=5 then 3 else 4,(tk ts i).a)
theorem GR {ts:List Tk} {i:Nat} (h:i<ts.length):ts[i]? =some (tk ts i):=by
 unfold tk;rw[bn h];rfl
def oM (ts:List Tk):Prop:=∀i,i<ts.length->((tk ts i).k=5↔i+1=ts.length)
theorem oM.next {ts:List Tk} (h:oM ts) {i:Nat} (hi:i<ts.length) (hk:(tk ts i).k≠5):i+1<ts.length:=by
 have h2:¬(i+1=ts.length):=fun e=>hk ((h i hi).2 e);omega
theorem ug {ts:List Tk} {i:Nat} {s:List UInt8} (h:sg ts i s=true):(tk ts i).k≠5:=by
 simp only[sg,ab,iR]at h;rw[h.1];decide
def yF:List (List UInt8):=[[],[43],[45],[42],[47],[37],[60],[60,61],[62],[62,61],[61,61],[33,61],[38,38],[124,124],[45],[33]]
def eW (op:Int):Int:=if 3<=op/\op<=5 then 5 else if op=1∨op=2 then 4 else if 6<=op/\op<=9 then 3 else if op=10∨op=11 then 2 else if op=12 then 1 else if op=13 then 0 else 6
def de (op:Nat):List UInt8:=(yF[op]?).getD []
def gD (ts:List Tk) (k:Int) (i:Nat):Nat->Nat->Int
 | 0,_=>0
 | f+1,op=>if eW (op:Int)=k/\sg ts i (de op)=true then(op:Int)else gD ts k i f (op+1)
def jy (ts:List Tk) (k:Int) (i:Nat):Int:=gD ts k i 13 1
theorem lu {ts:List Tk} {k:Int} {i:Nat}:∀(f op:Nat),gD ts k i f op≠0->(tk ts i).k≠5
 | 0,_,h=>absurd rfl h
 | f+1,op,h=>by
  rw[gD]at h;split at h
  ·rename_i hc;exact ug hc.2
  ·exact lu f _ h
abbrev Pr:=Except (Int×Int) (Ex×Nat)
def CH (g:Ex->Ex):Pr->Pr
 | .error e=>.error e
 | .ok (x,j)=>.ok (g x,j)
def vq:Pr->(Ex->Nat->Pr)->Pr
 | .error e,_=>.error e
 | .ok (x,j),g=>g x j
def oO (ts:List Tk):Pr->Pr
 | .error e=>.error e
 | .ok (x,j)=>if sg ts j [41]then .ok (x,j+1)else .error (fj ts j)
def fL (d:Nat) (a:Int) (r:Pr):Pr:=if d=20 then .error (21,a)else r
def BF (ts:List Tk) (i:Nat):Pr:=
 if sg ts (i+1) [40]then
  (if(tk ts (i+2)).k=1 then
   (if sg ts (i+3) [41]then .ok (.mk 3 0 (tk ts (i+2)).t 0 [] (tk ts i).a,i+4)else .error (fj ts (i+3)))
  else .error (fj ts (i+2)))
 else .error (fj ts (i+1))
def lh (ts:List Tk) (E0 One:Nat->Pr) (d i:Nat):Pr:=
 if(sg ts i [45]||sg ts i [33])=true then CH (fun x=>.mk 4 0 [] (if(tk ts i).t=[33]then 15 else 14) [x] (tk ts i).a) (fL d (tk ts i).a (One (i+1)))
 else if sg ts i [40]=true then fL d (tk ts i).a (oO ts (E0 (i+1)))
 else if(tk ts i).k=3 then .ok (.mk 1 (tk ts i).n [] 0 [] (tk ts i).a,i+1)
 else if(tk ts i).k=1 then .ok (.mk 2 0 (tk ts i).t 0 [] (tk ts i).a,i+1)
 else if(tk ts i).k=2/\(tk ts i).t=[105,110]then BF ts i
 else .error (fj ts i)
def fC (ts:List Tk) (E:Nat->Pr) (k:Int):Nat->Ex->Nat->Pr
 | 0,x,j=>.ok (x,j)
 | g+1,x,j=>if jy ts k j=0 then .ok (x,j)else vq (E (j+1)) fun y j'=>fC ts E k g (.mk 5 0 [] (jy ts k j) [x,y] x.a) j'
def bX (ts:List Tk):Nat->Nat->Nat->Nat->Pr
 | 0,_,_,_=>.error (1,0)
 | f+1,k,d,i=>if k=6 then lh ts (bX ts f 0 (d+1)) (bX ts f 6 (d+1)) d i else vq (bX ts f (k+1) d i) fun x j=>fC ts (bX ts f (k+1) d) (k:Int) (ts.length-j) x j
theorem vT {g:Ex->Ex} {r:Pr} {x:Ex} {j:Nat} (h:CH g r=.ok (x,j)):∃y,r=.ok (y,j)/\x=g y:=by
 cases r with
 | error e=>cases h
 | ok q=>
  obtain⟨y,j'⟩:=q;simp only[CH,cB,cr]at h;obtain⟨rfl,rfl⟩:=h;exact⟨y,rfl,rfl⟩
theorem nE {d:Nat} {a:Int} {r:Pr} {q:Ex×Nat} (h:fL d a r=.ok q):r=.ok q/\d≠20:=by
 unfold fL at h;split at h
 ·cases h
 ·exact⟨h,by assumption⟩
theorem vU {ts:List Tk} {r:Pr} {x:Ex} {j:Nat} (h:oO ts r=.ok (x,j)):∃j',r=.ok (x,j')/\sg ts j' [41]=true/\j=j'+1:=by
 cases r with
 | error e=>cases h
 | ok q=>
  obtain⟨y,j'⟩:=q;simp only[oO]at h;split at h
  ·simp only[cB,cr]at h;obtain⟨rfl,rfl⟩:=h;exact⟨j',rfl,by assumption,rfl⟩
  ·cases h
theorem qA {r:Pr} {g:Ex->Nat->Pr} {q:Ex×Nat} (h:vq r g=.ok q):∃x j,r=.ok (x,j)/\g x j=.ok q:=by
 cases r with
 | error e=>cases h
 | ok p=>exact⟨p.1,p.2,rfl,h⟩
theorem EX {ts:List Tk} {i:Nat} {x:Ex} {j:Nat} (h:BF ts i=.ok (x,j)):j=i+4/\x=.mk 3 0 (tk ts (i+2)).t 0 [] (tk ts i).a:=by
 unfold BF at h;split at h
 ·split at h
  ·split at h
   ·simp only[cB,cr]at h;exact⟨h.2.symm,h.1.symm⟩
   ·cases h
  ·cases h
 ·cases h
theorem IU {ts:List Tk} {E0 One:Nat->Pr} {d i:Nat} {x:Ex} {j:Nat} (hE:∀i x j,E0 i=.ok (x,j)->i<j) (hO:∀i x j,One i=.ok (x,j)->i<j) (h:lh ts E0 One d i=.ok (x,j)):i<j:=by
 unfold lh at h;split at h
 ·obtain⟨y,h1,_⟩:=vT h;have:=hO _ _ _ (nE h1).1;omega
 ·split at h
  ·obtain⟨j',h1,_,rfl⟩:=vU (nE h).1;have:=hE _ _ _ h1;omega
  ·split at h
   ·simp only[cB,cr]at h;omega
   ·split at h
    ·simp only[cB,cr]at h;omega
    ·split at h
     ·have:=(EX h).1;omega
     ·cases h
theorem xh {ts:List Tk} {E:Nat->Pr} {k:Int} (hE:∀i x j,E i=.ok (x,j)->i<j):∀(g:Nat) (x:Ex) (j:Nat) {x':Ex} {j':Nat},fC ts E k g x j=.ok (x',j')->j<=j'
 | 0,x,j,x',j',h=>by
  simp only[fC,cB,cr]at h;omega
 | g+1,x,j,x',j',h=>by
  rw[fC]at h;split at h
  ·simp only[cB,cr]at h;omega
  ·obtain⟨y,m,h1,h2⟩:=qA h;have:=hE _ _ _ h1;have:=xh hE g _ _ h2;omega
theorem ia {ts:List Tk}:∀(f k d i:Nat) {x:Ex} {j:Nat},bX ts f k d i=.ok (x,j)->i<j
 | 0,_,_,_,_,_,h=>by cases h
 | f+1,k,d,i,x,j,h=>by
  rw[bX]at h;split at h
  ·exact IU (fun i x j h=>ia f _ _ i h) (fun i x j h=>ia f _ _ i h) h
  ·obtain⟨y,m,h1,h2⟩:=qA h;have:=ia f _ _ _ h1;have:=xh (fun i x j h=>ia f _ _ i h) _ _ _ h2;omega
def dL (k d:Nat):Nat:=(20-d)*8+(7-k)
def pC (ts:List Tk) (i:Nat):Pr:=bX ts (dL 0 0) 0 0 i
end Go.Proofs.YtmhoiicofhlgbaaGreatDoor.Con
namespace Go.Proofs.YtmhoiicofhlgbaaGreatDoor.Con
open Go Go.RowKit Go.Kt Go.Kt.V Go.Proofs.YtmhoiicofhlgbaaGreatDoor.Vc
set_option linter.unusedSimpArgs false
set_option linter.unusedVariables false
set_option maxHeartbeats 4000000
structure Rd (F G:Nat->Prop) (ts:List Tk) (w:World) (b:Nat) (l sn:Sl) (i:Nat) (fc fa d:Int):Prop where
 blk:Blk w b 331 [l.v,.int .i64 (i:Int),.int .i64 fc,.int .i64 fa,.int .i64 d,sn.v]
 tok:SliceF GM 4 w F l ts
 sig:SliceF jJ 1 w G sn yF
 hF:∀k,F k->k<b
 hG:∀k,G k->k<b
 en:oM ts
 lt:i<ts.length
section
variable {F G:Nat->Prop} {ts:List Tk} {w w':World} {b:Nat} {l sn:Sl} {i:Nat} {fc fa d:Int}
theorem Rd.only (h:Rd F G ts w b l sn i fc fa d) (hO:Only [] w w'):Rd F G ts w' b l sn i fc fa d:=
 ⟨hO.blk h.blk (by simp),SliceF.only hY (by decide) h.tok hO (by simp),SliceF.only cL (by decide) h.sig hO (by simp),h.hF,h.hG,h.en,h.lt⟩
theorem Rd.lm (h:Rd F G ts w b l sn i fc fa d) (hO:Only [b] w w') {i':Nat} {fc' fa' d':Int} (hB:Blk w' b 331 [l.v,.int .i64 (i':Int),.int .i64 fc',.int .i64 fa',.int .i64 d',sn.v]) (hi:i'<ts.length):Rd F G ts w' b l sn i' fc' fa' d':=
 ⟨hB,SliceF.only hY (by decide) h.tok hO fun k hk _ hm=>by have:=h.hF k hk;simp only[ae]at hm;omega,SliceF.only cL (by decide) h.sig hO fun k hk _ hm=>by have:=h.hG k hk;simp only[ae]at hm;omega,h.hF,h.hG,h.en,hi⟩
theorem Rd.own (h:Rd F G ts w b l sn i fc fa d) {bs:List Nat} (hO:Only bs w w') (hb:∀x,x∈bs->b<x):Rd F G ts w' b l sn i fc fa d:=
 ⟨hO.blk h.blk fun hm=>by have:=hb b hm;omega,SliceF.only hY (by decide) h.tok hO fun k hk _ hm=>(by have:=h.hF k hk;have:=hb k hm;omega),SliceF.only cL (by decide) h.sig hO fun k hk _ hm=>(by have:=h.hG k hk;have:=hb k hm;omega),h.hF,h.hG,h.en,h.lt⟩
theorem Rd.lb (h:Rd F G ts w b l sn i fc fa d):b<w.heap.size:=h.blk.lt
theorem Rd.big (h:Rd F G ts w b l sn i fc fa d):ts.length<=9223372036854775807:=by
 have h1:=h.tok.len;have h2:=h.tok.cap;have h3:=h.tok.big;omega
theorem Rd.now (h:Rd F G ts w b l sn i fc fa d):∃ad,cD l (i:Int) 4 ad/\aB w ad [.int .i64 (tk ts i).k,.string (T (tk ts i).t),.int .i64 (tk ts i).n,.int .i64 (tk ts i).a]:=by
 have hl:=h.tok.len;have bp:=h.lt;obtain⟨ad,x,cs,g1,g2,g3,g4,g5,g6⟩:=h.tok.get (aG i) (by omega);rw[az,GR h.lt]at g2;injection g2 with g2;subst g2;unfold GM at g6;subst g6;exact⟨ad,g1,g5⟩
theorem CI (h:Rd F G ts w b l sn i fc fa d):Calls Tryz.prog 328 #[.pointer (some ⟨b,0,none⟩)] w fun e w'=>e=.returned (tk ts i).v/\Only [] w w':=by
 refine ret (ae9 ⟨b,0,none⟩ (fun v w'=>v=(tk ts i).v/\Only [] w w') w ?_);unfold YR;intro k0 w0 hk wj hO;have h0:=h.only hO;obtain⟨ad,g1,g2⟩:=h0.now;exact⟨l,Blk.eo h0.blk 0 rfl,_,Blk.eo h0.blk 1 rfl,ad,g1,_,_,_,_,g2,fun w1 bR=>⟨rfl,hO.new bR hk⟩⟩
theorem zd (h:Rd F G ts w b l sn i fc fa d):Calls Tryz.prog 307 #[.pointer (some ⟨b,0,none⟩)] w fun e w'=>e=.returned (.bool (fc !=0))/\Only [] w w':=by
 refine ret (v7w ⟨b,0,none⟩ (fun v w'=>v=(.bool (fc !=0))/\Only [] w w') w ?_);unfold v7v;exact⟨fc,Blk.eo h.blk 2 rfl,rfl,Only.refl _ _⟩
theorem AE (h:Rd F G ts w b l sn i fc fa d) (c:Int):Calls Tryz.prog 336 #[.pointer (some ⟨b,0,none⟩),.int .i64 c] w fun e w'=>e=.returned (.tuple #[])/\Only [b] w w'/\
  Rd F G ts w' b l sn i (if fc=0 then c else fc) (if fc=0 then(tk ts i).a else fa) d:=by
 refine ret (afb ⟨b,0,none⟩ c (fun v w'=>v=(.tuple #[])/\Only [b] w w'/\Rd F G ts w' b l sn i (if fc=0 then c else fc) (if fc=0 then(tk ts i).a else fa) d) w ?_);unfold YU;refine(zd h).mono ?_;rintro _ w0 ⟨rfl,cd⟩;have h0:=h.only cd;refine⟨_,rfl,fun hc=>(CI h0).mono ?_,fun hc=>?_⟩
 ·have hc:fc=0:=by simpa using hc
  subst hc;rintro _ w1 ⟨rfl,bR⟩;have h1:=h0.only bR;refine⟨_,_,_,_,rfl,b,2,_,_,rfl,h1.blk,by simp,fun w2 cO ru=>⟨rfl,(cd.cf bR).weaken (fun _ h=>(by cases h)) |>.trans cO (fun x hx=>.inl hx),?_⟩⟩;rw[if_pos rfl,if_pos rfl];exact h1.lm cO ru h.lt
 ·have hc:fc≠0:=by simpa using hc
  rw[if_neg hc,if_neg hc];exact⟨rfl,cd.weaken fun _ h=>(by cases h),h0⟩
theorem AF (h:Rd F G ts w b l sn i fc fa d):Calls Tryz.prog 334 #[.pointer (some ⟨b,0,none⟩)] w fun e w'=>e=.returned (.tuple #[])/\Only [b] w w'/\
  Rd F G ts w' b l sn i (if fc=0 then(fj ts i).1 else fc) (if fc=0 then(fj ts i).2 else fa) d:=by
 refine ret (afd ⟨b,0,none⟩ (fun v w'=>v=(.tuple #[])/\Only [b] w w'/\Rd F G ts w' b l sn i (if fc=0 then(fj ts i).1 else fc) (if fc=0 then(fj ts i).2 else fa) d) w ?_);unfold YW;refine⟨fun w'=>Only [b] w w'/\((tk ts i).k=5->Rd F G ts w' b l sn i (if fc=0 then 3 else fc) (if fc=0 then(tk ts i).a else fa) d)/\((tk ts i).k≠5->Rd F G ts w' b l sn i fc fa d),?_,(CI h).mono ?_⟩
 ·rintro w0 ⟨cd,h1,h2⟩;by_cases hk:(tk ts i).k=5
  ·refine(AE (h1 hk) 4).mono ?_;rintro _ w1 ⟨rfl,bR,hR⟩;refine⟨rfl,rfl,cd.trans bR (fun x hx=>.inl hx),?_⟩;unfold fj;rw[if_pos hk];by_cases hc:fc=0
   ·rw[if_pos hc,if_pos hc,if_neg (by decide),if_neg (by decide)]at hR;rw[if_pos hc,if_pos hc];exact hR
   ·rw[if_neg hc,if_neg hc,if_neg hc,if_neg hc]at hR;rw[if_neg hc,if_neg hc];exact hR
  ·refine(AE (h2 hk) 4).mono ?_;rintro _ w1 ⟨rfl,bR,hR⟩;refine⟨rfl,rfl,cd.trans bR (fun x hx=>.inl hx),?_⟩;unfold fj;rw[if_neg hk];exact hR
 ·rintro _ w2 ⟨rfl,cO⟩;have h2:=h.only cO;refine⟨_,_,_,_,rfl,fun hc=>(AE h2 3).mono ?_,fun hc=>⟨cO.weaken fun _ h=>(by cases h),fun e=>?_,fun _=>h2⟩⟩
  ·rintro _ w3 ⟨rfl,cU,hR⟩;exact⟨rfl,cO.weaken (fun _ h=>(by cases h)) |>.trans cU (fun x hx=>.inl hx),fun _=>hR,fun e=>absurd (by simpa using hc) e⟩
  ·rw[e]at hc;simp at hc
theorem aab (h:Rd F G ts w b l sn i fc fa d) {H:Nat->Prop} {s:Sl} {ss:List (List UInt8)} (hs:SliceF jJ 1 w H s ss):Calls Tryz.prog 329 #[.pointer (some ⟨b,0,none⟩),s.v] w fun e w'=>
  e=.returned (.bool (fc==0&&(tk ts i).k==4&&ss.contains (tk ts i).t))/\Only [] w w':=by
 refine ret (v8w ⟨b,0,none⟩ s (fun v w'=>v=(.bool (fc==0&&(tk ts i).k==4&&ss.contains (tk ts i).t))/\Only [] w w') w ?_);unfold v8v;refine(CI h).mono ?_;rintro _ w0 ⟨rfl,cd⟩;refine⟨_,_,_,_,rfl,fun k0 w1 hk wj bR=>⟨fun c w'=>c=(fc==0&&(tk ts i).k==4&&ss.contains (tk ts i).t)/\Only [] w w',fun c w2 h2=>⟨by rw[h2.1],h2.2⟩,?_⟩⟩;have gX:=cd.cf bR;refine(zd (h.only gX)).mono ?_;rintro _ w3 ⟨rfl,cU⟩;have e:(!(fc !=0))=(fc==0):=by cases h:(fc==0)<;>simp[bne,h]
 refine⟨_,rfl,cU.same (by simp;omega),fun hc=>(pw (SliceF.only cL (by decide) hs (gX.cf cU) (by simp)) _).mono ?_,fun hc=>⟨?_,gX.cf cU⟩⟩
 ·rintro _ w4 ⟨rfl,cZ⟩;rw[e]at hc;have hl:=h.lb;have z3:=cU.size;exact⟨_,rfl,cZ.same (by simp;omega),by rw[hc,dl],gX.cf (cU.cf cZ)⟩
 ·rw[e]at hc;rw[hc,dI]
theorem is1 (h:Rd F G ts w b l sn i fc fa d) (s:List UInt8):∃(s0:Sl) (w0:World),(Instr.buildSlice 52 1 #[.mk 0 (.string (T s))]).run Tryz.prog w=.ok s0.v w0/\Only [] w w0/\
  Calls Tryz.prog 329 #[.pointer (some ⟨b,0,none⟩),s0.v] w0 fun e w'=>e=.returned (.bool (fc==0&&sg ts i s))/\Only [] w0 w':=by
 obtain⟨s0,w0,k1,k2,k3⟩:=lI w [s] (n:=1) (parts:=#[(0,.string (T s))]) rfl rfl (by decide) (by decide);refine⟨s0,w0,k1,k3,(aab (h.only k3) (sJ k2)).mono ?_⟩;rintro _ w1 ⟨rfl,bR⟩;have e:[s].contains (tk ts i).t=decide ((tk ts i).t=s):=by
  by_cases e:(tk ts i).t=s
  ·rw[aZ e,e];simp
  ·rw[aK e];simp[e]
 refine⟨?_,bR⟩;unfold sg;rw[yQ,e]
theorem is2 (h:Rd F G ts w b l sn i fc fa d):∃(s0:Sl) (w0:World),(Instr.buildSlice 52 2 #[.mk 0 (.string (ByteArray.mk #[45])),.mk 1 (.string (ByteArray.mk #[33]))]).run Tryz.prog w=.ok s0.v w0/\Only [] w w0/\
  Calls Tryz.prog 329 #[.pointer (some ⟨b,0,none⟩),s0.v] w0 fun e w'=>e=.returned (.bool (fc==0&&(sg ts i [45]||sg ts i [33])))/\Only [] w0 w':=by
 obtain⟨s0,w0,k1,k2,k3⟩:=lI w [[45],[33]] (n:=2) (parts:=#[(0,.string (T [45])),(1,.string (T [33]))]) rfl rfl (by decide) (by decide);refine⟨s0,w0,k1,k3,(aab (h.only k3) (sJ k2)).mono ?_⟩;rintro _ w1 ⟨rfl,bR⟩;have e:[[45],[33]].contains (tk ts i).t=(decide ((tk ts i).t=[45])||decide ((tk ts i).t=[33])):=by
  rw[br];simp
 refine⟨?_,bR⟩;unfold sg;rw[yQ,<-Bool.and_or_distrib_left,e]
theorem xi (h:Rd F G ts w b l sn i fc fa d) (s:List UInt8):Calls Tryz.prog 332 #[.pointer (some ⟨b,0,none⟩),.string (T s)] w fun e w'=>e=.returned (.tuple #[])/\Only [b] w w'/\
  (if fc==0&&sg ts i s then Rd F G ts w' b l sn (i+1) fc fa d else Rd F G ts w' b l sn i (if fc=0 then(fj ts i).1 else fc) (if fc=0 then(fj ts i).2 else fa) d):=by
 refine ret (v9w ⟨b,0,none⟩ _ (fun v w'=>v=(.tuple #[])/\Only [b] w w'/\(if fc==0&&sg ts i s then Rd F G ts w' b l sn (i+1) fc fa d else Rd F G ts w' b l sn i (if fc=0 then(fj ts i).1 else fc) (if fc=0 then(fj ts i).2 else fa) d)) w ?_);unfold v9v;obtain⟨s0,w0,k1,k2,k3⟩:=is1 h s;refine⟨s0,w0,k1,k3.mono ?_⟩;rintro _ w1 ⟨rfl,bR⟩;have h1:=h.only (k2.cf bR);have gX:Only [b] w w1:=(k2.cf bR).weaken fun _ h=>(by cases h)
 refine⟨_,rfl,fun hc=>(AF h1).mono ?_,fun hc=>?_⟩
 ·rintro _ w2 ⟨rfl,cO,hR⟩;have hc:(fc==0&&sg ts i s)=false:=by rwa[ch]at hc
  rw[hc];exact⟨rfl,rfl,gX.trans cO (fun x hx=>.inl hx),hR⟩
 ·have hc:(fc==0&&sg ts i s)=true:=by rwa[Ee]at hc
  rw[hc];simp only[ab]at hc;have hn:=h.en.next h.lt (ug hc.2);have hb:=h.big;refine⟨(i:Int),Blk.eo h1.blk 1 rfl,b,1,_,_,rfl,h1.blk,by simp,fun w3 cU wk=>⟨rfl,gX.trans cU (fun x hx=>.inl hx),h1.lm cU ?_ hn⟩⟩;rw[gV (by omega) (by omega)]at wk;exact wk
theorem GS (h:Rd F G ts w b l sn i fc fa d):Calls Tryz.prog 333 #[.pointer (some ⟨b,0,none⟩)] w fun e w'=>Only [b] w w'/\
  (if fc=0/\(tk ts i).k=1 then e=.returned (.string (T (tk ts i).t))/\Rd F G ts w' b l sn (i+1) fc fa d else e=.returned (.string (T []))/\Rd F G ts w' b l sn i (if fc=0 then(fj ts i).1 else fc) (if fc=0 then(fj ts i).2 else fa) d):=by
 refine(afe ⟨b,0,none⟩ (fun v w'=>Only [b] w w'/\(if fc=0/\(tk ts i).k=1 then v=(.string (T (tk ts i).t))/\Rd F G ts w' b l sn (i+1) fc fa d else v=(.string (T []))/\Rd F G ts w' b l sn i (if fc=0 then(fj ts i).1 else fc) (if fc=0 then(fj ts i).2 else fa) d)) w ?_).mono (by
  rintro e w' ⟨v,rfl,hO,hv⟩;refine⟨hO,?_⟩;split at hv
  ·rename_i hc;rw[if_pos hc];exact⟨by rw[hv.1],hv.2⟩
  ·rename_i hc;rw[if_neg hc];exact⟨by rw[hv.1],hv.2⟩)
 unfold YX;refine(CI h).mono ?_;rintro _ w0 ⟨rfl,cd⟩;refine⟨_,_,_,_,rfl,fun k0 w1 hk wj bR=>?_⟩;have gX:=cd.cf bR;have z0:=cd.size;have hl:=h.lb;refine(zd (h.only gX)).mono ?_;rintro _ w2 ⟨rfl,cO⟩;have z2:=cO.size;have h2:=h.only (gX.cf cO);have mS:Only [b] w w2:=(gX.cf cO).weaken fun _ h=>(by cases h)
 refine⟨_,rfl,cO.same (by simp;omega),fun hc=>(AF h2).mono ?_,fun hc=>?_⟩
 ·rintro _ w3 ⟨rfl,cU,hR⟩;refine⟨rfl,cU.same (by simp;omega),mS.trans cU (fun x hx=>.inl hx),?_⟩;rw[if_neg (fun hh=>by rw[hh.1,hh.2]at hc;simp at hc)];exact⟨rfl,hR⟩
 ·have hc:fc=0/\(tk ts i).k=1:=by simpa using hc
  have hn:=h.en.next h.lt (by rw[hc.2];decide);have hb:=h.big;refine⟨(i:Int),Blk.eo h2.blk 1 rfl,b,1,_,_,rfl,h2.blk,by simp,by omega,fun w3 cU wk=>⟨mS.trans cU (fun x hx=>.inl hx),?_⟩⟩;rw[if_pos hc];refine⟨rfl,h2.lm cU ?_ hn⟩;rw[gV (by omega) (by omega)]at wk;exact wk
end
theorem EY (w:World) (op:Int):Calls Tryz.prog 293 #[.int .i64 op] w fun e w'=>e=.returned (.int .i64 (eW op))/\w'=w:=by
 refine ret (afg op (fun v w'=>v=.int .i64 (eW op)/\w'=w) w ?_);unfold YZ;have fin:∀{k:Int} {w1:World},eW op=k->(Value.int .i64 k=.int .i64 (eW op)/\w1=w1):=fun e=>⟨by rw[e],rfl⟩
 refine⟨fun h=>fin ?_,fun h=>⟨fun b w'=>b=decide (op=1∨op=2)/\w'=w,?_,fun h1=>⟨?_,rfl⟩,fun h1=>⟨?_,rfl⟩⟩⟩
 ·simp only[ab,bB]at h;unfold eW;rw[if_pos (by omega)]
 ·rintro _ w1 ⟨rfl,rfl⟩;have h:¬(3<=op/\op<=5):=fun hh=>by rw[aZ hh.1,aZ hh.2]at h;cases h
  refine⟨fun h1=>fin ?_,fun h1=>⟨fun h2=>fin ?_,fun h2=>⟨fun b w2=>b=decide (op=10∨op=11)/\w2=w1,?_,fun h3=>⟨?_,rfl⟩,fun h3=>⟨?_,rfl⟩⟩⟩⟩
  ·have h1:=aj h1;unfold eW;rw[if_neg h,if_pos h1]
  ·have h1:=ar h1;simp only[ab,bB]at h2;unfold eW;rw[if_neg h,if_neg h1,if_pos (by omega)]
  ·rintro _ _ ⟨rfl,rfl⟩;have h1:=ar h1;have h2:¬(6<=op/\op<=9):=fun hh=>by rw[aZ hh.1,aZ hh.2]at h2;cases h2
   refine⟨fun h3=>fin ?_,fun h3=>⟨fun h4=>fin ?_,fun h4=>⟨fun h5=>fin ?_,fun h5=>fin ?_⟩⟩⟩
   ·have h3:=aj h3;unfold eW;rw[if_neg h,if_neg h1,if_neg h2,if_pos h3]
   ·have h3:=ar h3;have h4:op=12:=by simpa using h4
    unfold eW;rw[if_neg h,if_neg h1,if_neg h2,if_neg h3,if_pos h4]
   ·have h3:=ar h3;have h4:¬op=12:=by simpa using h4
    have h5:op=13:=by simpa using h5
    unfold eW;rw[if_neg h,if_neg h1,if_neg h2,if_neg h3,if_neg h4,if_pos h5]
   ·have h3:=ar h3;have h4:¬op=12:=by simpa using h4
    have h5:¬op=13:=by simpa using h5
    unfold eW;rw[if_neg h,if_neg h1,if_neg h2,if_neg h3,if_neg h4,if_neg h5]
  ·have h3:op=10:=by simpa using h3
   rw[h3];rfl
  ·have h3:¬op=10:=by simpa using h3
   rw[br];simp[h3]
 ·have h1:op=1:=by simpa using h1
  rw[h1];rfl
 ·have h1:¬op=1:=by simpa using h1
  rw[br];simp[h1]
section
variable {F G:Nat->Prop} {ts:List Tk} {w w':World} {b:Nat} {l sn:Sl} {i:Nat} {fc fa d:Int}
theorem xj (h:Rd F G ts w b l sn i fc fa d) (k:Int):Calls Tryz.prog 319 #[.pointer (some ⟨b,0,none⟩),.int .i64 k] w fun e w'=>e=.returned (.int .i64 (if fc=0 then jy ts k i else 0))/\Only [] w w':=by
 refine ret (aff ⟨b,0,none⟩ k (fun v w'=>v=.int .i64 (if fc=0 then jy ts k i else 0)/\Only [] w w') w ?_);unfold YY;refine⟨fun nv i0 w'=>∃op:Nat,1<=op/\op<=14/\i0=(op:Int)/\nv=14-op/\(if fc=0 then jy ts k i else 0)=(if fc=0 then gD ts k i (14-op) op else 0)/\Only [] w w',13,⟨1,by decide,by decide,rfl,rfl,rfl,Only.refl _ _⟩,?_⟩;rintro nv _ w0 ⟨op,h1,h2,rfl,rfl,hV,cd⟩;refine⟨fun hc=>?_,fun hc=>?_⟩
 ·have hc:(op:Int)<=13:=aj hc;obtain⟨m,hm⟩:∃m,14-op=m+1:=⟨13-op,by omega⟩
  rw[hm,gD]at hV;refine⟨fun c w'=>c=(decide (eW (op:Int)=k)&&(fc==0&&sg ts i (de op)))/\Only [] w w',?_,fun w2 cO=>(EY w2 _).mono ?_⟩
  ·rintro _ w1 ⟨rfl,bR⟩;refine⟨fun hb=>⟨?_,bR⟩,fun hb=>⟨m,by omega,op+1,by omega,by omega,by rw[gV (by omega) (by omega)];rfl,by omega,?_,bR⟩⟩
   ·simp only[ab,bB,iR]at hb;rw[hV,if_pos hb.2.1,if_pos ⟨hb.1,hb.2.2⟩]
   ·rw[hV,show 14-(op+1)=m by omega];by_cases h0:fc=0
    ·rw[if_pos h0,if_pos h0,if_neg];rintro⟨e1,e2⟩;rw[aZ e1,e2,h0]at hb;simp at hb
    ·rw[if_neg h0,if_neg h0]
  ·rintro _ w3 ⟨rfl,rfl⟩;have h3:=h.only (cd.cf cO);refine⟨_,rfl,fun hk=>?_,fun hk=>?_⟩
   ·have hk:eW (op:Int)=k:=by simpa using hk
    have hn:=h3.sig.len;have hol:yF.length=16:=rfl;obtain⟨ad,x,cs,g1,g2,g3,g4,g5,g6⟩:=h3.sig.get (i:=(op:Int)) (by omega) (by omega);unfold jJ at g6;subst g6;rw[az]at g2;have hx:de op=x:=by unfold de;rw[g2];rfl
    subst hx;obtain⟨s0,w4,k1,k2,k3⟩:=is1 h3 (de op);refine⟨sn,Blk.eo h3.blk 5 rfl,ad,g1,_,g5,s0,w4,k1,k3.mono ?_⟩;rintro _ w5 ⟨rfl,eC⟩;exact⟨_,rfl,by rw[aZ hk,dl],cd.cf (cO.cf (k2.cf eC))⟩
   ·have hk:¬eW (op:Int)=k:=by simpa using hk
    exact⟨by rw[aK hk,dI],cd.cf cO⟩
 ·have hc:¬(op:Int)<=13:=ar hc;have:op=14:=by omega
  subst this;rw[hV];refine⟨?_,cd⟩;split<;>rfl
end
abbrev ou (k n:Int) (s:List UInt8) (op:Int) (sl:Sl) (a:Int):List Value:=[.int .i64 k,.int .i64 n,.string (T s),.int .i64 op,sl.v,.int .i64 a]
inductive RXN (w:World) (N:Nat->Prop):Nat->Nat->Ex->List Value->Prop
 | leaf (lo hi:Nat) (k n:Int) (s:List UInt8) (op a:Int):RXN w N lo hi (.mk k n s op [] a) (ou k n s op Sl.nil a)
 | one (lo m g hi:Nat) (k n:Int) (s:List UInt8) (op a:Int) (x:Ex) (cs:List Value):RXN w N lo m x cs->lo<=g->m<=g->g<hi->¬N g->Blk w g 51 cs->RXN w N lo hi (.mk k n s op [x] a) (ou k n s op ⟨some ⟨g,0,none⟩,1,1⟩ a)
 | two (lo m m' m2 g hi:Nat) (k n:Int) (s:List UInt8) (op a:Int) (x y:Ex) (cs ds:List Value):RXN w N lo m x cs->m<=m'->RXN w N m' m2 y ds->lo<=m'->m<=g->m'<=g->m2<=g->g<hi->¬N g->Blk w g 51 (cs++ds)->RXN w N lo hi (.mk k n s op [x,y] a) (ou k n s op ⟨some ⟨g,0,none⟩,2,2⟩ a)
abbrev RX (w:World):Nat->Nat->Ex->List Value->Prop:=RXN w fun _=>False
section
variable {w w':World} {N N':Nat->Prop} {lo hi:Nat} {x:Ex} {cs:List Value}
theorem RXN.keep (h:RXN w N lo hi x cs):(∀k,lo<=k->k<hi->¬N k->k<w.heap.size->w'.heap[k]? =w.heap[k]?)->RXN w' N lo hi x cs:=by
 induction h with
 | leaf lo hi k n s op a=>exact fun _=>.leaf ..
 | one lo m g hi k n s op a x cs h1 h2 h3 h4 hn h5 ih=>
  intro hk;exact .one lo m g hi k n s op a x cs (ih fun j h6 h7 h8=>hk j h6 (by omega) h8) h2 h3 h4 hn ((hk g h2 h4 hn h5.lt).trans h5)
 | two lo m m' m2 g hi k n s op a x y cs ds h1 h2 h3 h4 h5 h6 h7 h8 hn h9 BM En=>
  intro hk;exact .two lo m m' m2 g hi k n s op a x y cs ds (BM fun j a1 a2 a3=>hk j a1 (by omega) a3) h2 (En fun j a1 a2 a3=>hk j (by omega) (by omega) a3) h4 h5 h6 h7 h8 hn ((hk g (by omega) h8 hn h9.lt).trans h9)
theorem RXN.wide (h:RXN w N lo hi x cs):∀{Xc u7:Nat},Xc<=lo->hi<=u7->RXN w N Xc u7 x cs:=by
 induction h with
 | leaf lo hi k n s op a=>exact fun _ _=>.leaf ..
 | one lo m g hi k n s op a x cs h1 h2 h3 h4 hn h5 ih=>
  intro Xc u7 a1 a2;exact .one Xc m g u7 k n s op a x cs (ih a1 (aq _)) (by omega) h3 (by omega) hn h5
 | two lo m m' m2 g hi k n s op a x y cs ds h1 h2 h3 h4 h5 h6 h7 h8 hn h9 BM En=>
  intro Xc u7 a1 a2;exact .two Xc m m' m2 g u7 k n s op a x y cs ds (BM a1 (aq _)) h2 h3 (by omega) h5 h6 h7 (by omega) hn h9
theorem RXN.Nx (h:RXN w N lo hi x cs):(∀k,lo<=k->k<hi->¬N k->¬N' k)->RXN w N' lo hi x cs:=by
 induction h with
 | leaf lo hi k n s op a=>exact fun _=>.leaf ..
 | one lo m g hi k n s op a x cs h1 h2 h3 h4 hn h5 ih=>
  intro hk;exact .one lo m g hi k n s op a x cs (ih fun j h6 h7=>hk j h6 (by omega)) h2 h3 h4 (hk g h2 h4 hn) h5
 | two lo m m' m2 g hi k n s op a x y cs ds h1 h2 h3 h4 h5 h6 h7 h8 hn h9 BM En=>
  intro hk;exact .two lo m m' m2 g hi k n s op a x y cs ds (BM fun j a1 a2=>hk j a1 (by omega)) h2 (En fun j a1 a2=>hk j (by omega) (by omega)) h4 h5 h6 h7 h8 (hk g (by omega) h8 hn) h9
theorem RXN.cells (h:RXN w N lo hi x cs):∃sl:Sl,cs=ou x.k x.n x.s x.op sl x.a/\(sl.n=x.cX.length):=by
 cases h with
 | leaf=>exact⟨_,rfl,rfl⟩
 | one=>exact⟨_,rfl,rfl⟩
 | two=>exact⟨_,rfl,rfl⟩
theorem RXN.only (h:RXN w N lo hi x cs) {bs:List Nat} (hO:Only bs w w') (hb:∀k,k∈bs->k<lo∨hi<=k∨N k):RXN w' N lo hi x cs:=
 h.keep fun k h1 h2 hn h3=>hO.block k h3 fun hm=>by
  rcases hb k hm with e | e | e
  ·omega
  ·omega
  ·exact hn e
end
theorem Lu (w:World) (vs:List (List Value)) (hv:∀v,v∈vs->v.length=6) (h0:0<vs.length) (hm:vs.length<=100) {parts:Array (Nat×Value)} (hp:parts=(((vs.map fun v=>Value.agg v.toArray).zipIdx 0).map fun x=>(x.2,x.1)).toArray):
  ∃w',(Instr.buildSlice 49 vs.length parts).run Tryz.prog w=.ok (Sl.v ⟨some ⟨w.heap.size,0,none⟩,vs.length,vs.length⟩) w'/\Blk w' w.heap.size 51 vs.flatten/\Only [] w w':=by
 have hc:((vs.map fun v=>Value.agg v.toArray).flatMap fun v=>v.cells.toList)=vs.flatten:=by
  clear hv h0 hm hp
  induction vs with
  | nil=>rfl
  | cons v vs ih=>rw[aI,rZ,ih,bT];rfl
 have hs:Tryz.t51.size=6:=rfl;have qc:=run_buildSlice (P:=Tryz.prog) w 49 51 vs.length parts ((vs.map fun v=>Value.agg v.toArray).flatMap fun v=>v.cells.toList).toArray Tryz.t51 _ (by kernel_rfl) (by kernel_rfl) rfl (by rw[hs];omega) (by rw[hs];omega)
  (by
   subst hp;rw[dS,hs];refine Go.Great.fill_whole (s:=6) (by decide) (vs.map fun v=>Value.agg v.toArray) _ (fun v hm=>?_) ?_
   ·obtain⟨x,hx,rfl⟩:=fM.1 hm;have:=hv x hx;simpa[Value.cells]using this
   ·simp)
 rw[hc]at qc;exact⟨_,qc,Blk.alloc w _ _,Only.alloc _ _⟩
def exT (v:Value):Prop:=∃(k n:Int) (s:List UInt8) (op:Int) (sl:Sl) (a:Int),v=.agg (ou k n s op sl a).toArray
def lK (F G:Nat->Prop) (ts:List Tk) (w w':World) (b:Nat) (l sn:Sl) (d:Nat) (r:Pr) (v:Value):Prop:=Only [b] w w'/\match r with
 | .ok (x,j)=>∃cs,v=.agg cs.toArray/\RX w' w.heap.size w'.heap.size x cs/\Rd F G ts w' b l sn j 0 0 (d:Int)
 | .error e=>e.1≠0/\exT v/\∃j,Rd F G ts w' b l sn j e.1 e.2 (d:Int)
section
variable {F G:Nat->Prop} {ts:List Tk} {w w':World} {b:Nat} {l sn:Sl} {i:Nat} {fc fa d:Int}
theorem fU:(fj ts i).1≠0:=by
 unfold fj;dsimp only;split<;>decide
theorem CJ {d:Nat} (hd:d<=20) (h:Rd F G ts w b l sn i 0 0 (d:Int)) (hi:i+1<ts.length) {g:Nat} {z1 z2:List Value} (hg:∀(x:Array Value) (w:World),(callFunc g x).run Tryz.prog w=.ok (.enter g x) w) (f:OV) (hf:f.v=.func (.func g) z1.toArray z2.toArray) {r:Pr}
  (hr:d≠20->∀w1,Only [b] w w1->Rd F G ts w1 b l sn (i+1) 0 0 ((d+1:Nat):Int)->Calls Tryz.prog g (z1++z2).toArray w1 fun e w'=>∃v,e=.returned v/\lK F G ts w1 w' b l sn (d+1) r v):
  Calls Tryz.prog 330 #[.pointer (some ⟨b,0,none⟩),f.v] w fun e w'=>∃v,e=.returned v/\lK F G ts w w' b l sn d (fL d (tk ts i).a r) v:=by
 refine afa ⟨b,0,none⟩ f (fun v w'=>lK F G ts w w' b l sn d (fL d (tk ts i).a r) v) w ?_;unfold YS;intro k0 w0 hk wj cd;have hb:=h.lb;have h0:=h.only cd;refine⟨(d:Int),Blk.eo h0.blk 4 rfl,fun hc=>(AE h0 21).mono ?_,fun hc=>?_⟩
 ·have hc:d=20:=by have:(d:Int)=20:=(by simpa using hc);omega
  rintro _ w1 ⟨rfl,bR,hR⟩;rw[if_pos rfl,if_pos rfl]at hR;have z1:=bR.size;refine⟨rfl,bR.same (by simp;omega),fun w2 cO=>⟨?_,?_⟩⟩
  ·exact((cd.weaken (bs':=[b]) fun _ h=>(by cases h)).trans bR fun x hx=>.inl hx).new cO hk
  ·rw[fL,if_pos hc];exact⟨(by decide:(21:Int)≠0),⟨0,0,[],0,Sl.nil,0,rfl⟩,i,hR.own cO (by simp;omega)⟩
 ·have hc:d≠20:=fun e=>by subst e;simp at hc
  have OS:=h.big;refine⟨(i:Int),Blk.eo h0.blk 1 rfl,b,1,_,_,rfl,h0.blk,by simp,by omega,fun w3 cU wk=>?_⟩;rw[gV (by omega) (by omega)]at wk;have h3:Rd F G ts w3 b l sn (i+1) 0 0 (d:Int):=h0.lm cU wk hi;have z3:=cU.size;refine⟨(d:Int),Blk.eo h3.blk 4 rfl,b,4,_,_,rfl,h3.blk,by simp,by omega,fun w4 cZ tK=>?_⟩;rw[gV (by omega) (by omega)]at tK;have h4:Rd F G ts w4 b l sn (i+1) 0 0 ((d+1:Nat):Int):=h3.lm cZ tK hi;have z4:=cZ.size;have Bt:Only [b] w w4:=((cd.weaken (bs':=[b]) fun _ h=>(by cases h)).trans cU fun x hx=>.inl hx).trans cZ fun x hx=>.inl hx;refine⟨g,z1,z2,hf,hg,?_⟩;have e:vi (vi z1 []) z2=z1++z2:=by unfold vi;rw[aN]
  rw[e];refine(hr hc w4 Bt h4).mono ?_;rintro _ w6 ⟨v,rfl,dD,hd⟩;have z6:=dD.size;rw[fL,if_neg hc];have hv:∃(k n:Int) (s:List UInt8) (op:Int) (sl:Sl) (a:Int),v=.agg (ou k n s op sl a).toArray:=by
   cases r with
   | error e=>exact hd.2.1
   | ok q=>
    obtain⟨cs,rfl,hx,_⟩:=hd;obtain⟨sl,rfl,_⟩:=hx.cells;exact⟨_,_,_,_,_,_,rfl⟩
  obtain⟨vk,vn,vs,vo,vsl,va,rfl⟩:=hv;refine⟨_,_,_,_,_,_,rfl,dD.same (by simp;omega),fun k8 w7 hk8 Vz fg=>?_⟩;have z7:=fg.size;have key:∀{j:Nat} {fc fa:Int},Rd F G ts w6 b l sn j fc fa ((d+1:Nat):Int)->∃i7:Int,aB w7 (Addr.add ⟨b,0,none⟩ 4) [.int .i64 i7]/\∃k9 uE:Nat,∃z4:List Value,∃qX:Nat,(Addr.add ⟨b,0,none⟩ 4)=⟨k9,uE,none⟩/\Blk w7 k9 qX z4/\(uE+1)<=z4.length/\k0≠k9/\k8≠k9/\
    ∀w8:World,Only [k9] w7 w8->Blk w8 k9 qX (bF z4 uE [.int .i64 (IntKind.wrap .i64 (i7-1))])->∀w9:World,Only [k0] w8 w9->Only [b] w w9/\Only [b,k0] w6 w9/\Rd F G ts w9 b l sn j fc fa (d:Int):=fun{j fc fa} h6=>by
   have h7:=h6.only fg;refine⟨((d+1:Nat):Int),Blk.eo h7.blk 4 rfl,b,4,_,_,rfl,h7.blk,by simp,by omega,by omega,fun w8 fy wl w9 fG=>?_⟩;have ed:((d+1:Nat):Int)-1=d:=by omega
   rw[ed,gV (by omega) (by omega)]at wl;have h8:Rd F G ts w8 b l sn j fc fa (d:Int):=h7.lm fy wl h7.lt;have abT:Only [b,k0] w6 w9:=((fg.weaken (bs':=[b,k0]) fun _ h=>(by cases h)).trans fy fun x hx=>.inl (by simp only[ae]at hx;simp[hx])).trans fG fun x hx=>.inl (by simp only[ae]at hx;simp[hx]);exact⟨(Bt.trans dD fun x hx=>.inl hx).trans abT (fun x hx=>by
    simp only[ak,aw,bf]at hx;rcases hx with rfl | rfl
    ·exact .inl (by simp)
    ·exact .inr hk),abT,h8.own fG (by simp;omega)⟩
  have hd2:=hd;cases r with
  | error e=>
   obtain⟨h1,h2,j,h3⟩:=hd2;obtain⟨i7,k1,k9,uE,z,qX,k2,k3,k4,k5,k6,k7⟩:=key h3;refine⟨i7,k1,k9,uE,z,qX,k2,k3,k4,k5,k6,fun w8 fy wl w9 fG=>?_⟩;obtain⟨a1,a2,a3⟩:=k7 w8 fy wl w9 fG;exact⟨a1,h1,h2,j,a3⟩
  | ok q=>
   obtain⟨x,j⟩:=q;obtain⟨cs,h1,h2,h3⟩:=hd2;obtain⟨i7,k1,k9,uE,z,qX,k2,k3,k4,k5,k6,k7⟩:=key h3;refine⟨i7,k1,k9,uE,z,qX,k2,k3,k4,k5,k6,fun w8 fy wl w9 fG=>?_⟩;obtain⟨a1,a2,a3⟩:=k7 w8 fy wl w9 fG;have z9:=a2.size;exact⟨a1,cs,h1,(h2.only a2 fun k hk=>.inl (by simp only[ak,aw,bf]at hk;omega)).wide (by omega) z9,a3⟩
end
section
variable {F G:Nat->Prop} {ts:List Tk} {w w':World} {b:Nat} {l sn:Sl} {i:Nat} {fc fa d:Int}
theorem lK.x6 {w w':World} {d:Nat} {r:Pr} {v:Value} (h:lK F G ts w w' b l sn d r v):exT v:=by
 obtain⟨_,h⟩:=h;cases r with
 | error e=>exact h.2.1
 | ok q=>
  obtain⟨cs,rfl,hx,_⟩:=h;obtain⟨sl,rfl,_⟩:=hx.cells;exact⟨_,_,_,_,_,_,rfl⟩
theorem lK.Ny {w0 w1 w2 w3:World} {d:Nat} {r:Pr} {v:Value} (h:lK F G ts w1 w2 b l sn d r v) (cd:Only [b] w0 w1) {bs:List Nat} (cO:Only bs w2 w3) (hb:∀x,x∈bs->b<x/\w0.heap.size<=x/\x<w1.heap.size):lK F G ts w0 w3 b l sn d r v:=by
 obtain⟨hO,h⟩:=h;have z0:=cd.size;have z1:=hO.size;have z2:=cO.size;refine⟨(cd.trans hO fun x hx=>.inl hx).trans cO fun x hx=>.inr (hb x hx).2.1,?_⟩;cases r with
 | error e=>
  obtain⟨h1,h2,j,h3⟩:=h;exact⟨h1,h2,j,h3.own cO fun x hx=>(hb x hx).1⟩
 | ok q=>
  obtain⟨cs,h1,h2,h3⟩:=h;exact⟨cs,h1,(h2.only cO fun x hx=>.inl (hb x hx).2.2).wide z0 z2,h3.own cO fun x hx=>(hb x hx).1⟩
theorem aac {d:Nat} {r:Pr} {k0:Nat} (h:Rd F G ts w b l sn i 0 0 (d:Int)) (hk:b<k0) (hB:Blk w k0 327 [.pointer (some ⟨b,0,none⟩)])
  (hE:∀w1,Only [] w w1->Calls Tryz.prog 306 #[.pointer (some ⟨b,0,none⟩),.int .i64 0] w1 fun e w'=>∃v,e=.returned v/\lK F G ts w1 w' b l sn d r v):
  Calls Tryz.prog 331 #[.pointer (some ⟨k0,0,none⟩)] w fun e w'=>∃v,e=.returned v/\lK F G ts w w' b l sn d (oO ts r) v:=by
 refine afc ⟨k0,0,none⟩ (fun v w'=>lK F G ts w w' b l sn d (oO ts r) v) w ?_;unfold YV;intro k1 w0 kJ jp cd;have hb:=h.lb;have wm:Blk w0 k0 327 [.pointer (some ⟨b,0,none⟩)]:=cd.blk hB (by simp);have FV:=hB.lt;refine⟨_,Blk.eo wm 0 rfl,(hE w0 cd).mono ?_⟩;rintro _ w1 ⟨v,rfl,hd⟩;obtain⟨k,n,s,op,sl,a,rfl⟩:=hd.x6;have z1:=hd.1.size;refine⟨_,_,_,_,_,_,rfl,hd.1.same (by simp;omega),fun k2 w2 qM yj cO=>?_⟩;have z2:=cO.size;have ru:Blk w2 k0 327 [.pointer (some ⟨b,0,none⟩)]:=cO.blk (hd.1.blk wm (by simp;omega)) (by simp);refine⟨_,Blk.eo ru 0 rfl,_,rfl,?_⟩;obtain⟨bR,hd⟩:=hd;have mS:Only [b] w w2:=((cd.weaken fun _ h=>(by cases h)).trans bR fun x hx=>.inl hx).cf cO;cases r with
 | error e=>
  obtain⟨h1,h2,j,h3⟩:=hd;have h3:=h3.only cO;refine(xi h3 [41]).mono ?_;rintro _ w3 ⟨rfl,cU,hR⟩;rw[if_neg (by simp[h1]),if_neg h1,if_neg h1]at hR;refine⟨rfl,cU.same (by simp;omega),fun w4 cZ=>⟨((mS.trans cU fun x hx=>.inl hx).new cZ kJ),h1,⟨_,_,_,_,_,_,rfl⟩,j,hR.own cZ (by simp;omega)⟩⟩
 | ok q=>
  obtain⟨x,j⟩:=q;obtain⟨cs,h1,h2,h3⟩:=hd;have h3:=h3.only cO;refine(xi h3 [41]).mono ?_;rintro _ w3 ⟨rfl,cU,hR⟩;have z3:=cU.size;refine⟨rfl,cU.same (by simp;omega),fun w4 cZ=>⟨((mS.trans cU fun x hx=>.inl hx).new cZ kJ),?_⟩⟩;have z4:=cZ.size;by_cases hs:sg ts j [41]=true
  ·rw[if_pos (by simp[hs])]at hR;simp only[oO,hs,if_true];exact⟨cs,h1,(((h2.only cO (by simp)).only cU fun k hk=>.inl (by simp only[ae]at hk;omega)).only cZ fun k hk=>.inl (by simp only[ae]at hk;omega)).wide (by omega) (by omega),hR.own cZ (by simp;omega)⟩
  ·rw[if_neg (by simp[hs]),if_pos rfl,if_pos rfl]at hR;simp only[oO,hs,fI];exact⟨fU,⟨_,_,_,_,_,_,rfl⟩,j,hR.own cZ (by simp;omega)⟩
theorem T3 {f d:Nat} (hd:d<=20) (h:Rd F G ts w b l sn i 0 0 (d:Int))
  (hE:d≠20->∀w i,Rd F G ts w b l sn i 0 0 ((d+1:Nat):Int)->Calls Tryz.prog 306 #[.pointer (some ⟨b,0,none⟩),.int .i64 0] w fun e w'=>∃v,e=.returned v/\lK F G ts w w' b l sn (d+1) (bX ts f 0 (d+1) i) v)
  (ahv:d≠20->∀w i,Rd F G ts w b l sn i 0 0 ((d+1:Nat):Int)->Calls Tryz.prog 318 #[.pointer (some ⟨b,0,none⟩)] w fun e w'=>∃v,e=.returned v/\lK F G ts w w' b l sn (d+1) (bX ts f 6 (d+1) i) v):
  Calls Tryz.prog 318 #[.pointer (some ⟨b,0,none⟩)] w fun e w'=>∃v,e=.returned v/\lK F G ts w w' b l sn d (bX ts (f+1) 6 d i) v:=by
 have eR:bX ts (f+1) 6 d i=lh ts (bX ts f 0 (d+1)) (bX ts f 6 (d+1)) d i:=by rw[bX,if_pos rfl]
 rw[eR];generalize hgE:bX ts f 0 (d+1)=E0 at*
 generalize hgO:bX ts f 6 (d+1)=One at*
 generalize hR:lh ts E0 One d i=R;rw[lh]at hR;refine ae8 ⟨b,0,none⟩ (fun v w'=>lK F G ts w w' b l sn d R v) w ?_;unfold YQ;intro k0 k1 w0 fQ eE kJ jp cd;have hb:=h.lb;refine(CI (h.only cd)).mono ?_;rintro _ w1 ⟨rfl,bR⟩;have z1:=bR.size;have gX:=cd.cf bR;refine⟨_,_,_,_,rfl,bR.same (by simp;omega),fun k2 k3 w2 qM yj yp vL cO=>?_⟩;have z2:=cO.size;have z0:=cd.size;have mS:=gX.cf cO;have h2:=h.only mS;have OS:=h.big;have sm:∀{u u':World},w2.heap.size<=u.heap.size->Only [b] u u'->aD [k0,k1,k2,k3] u u':=fun hu hO=>hO.same (by intro x hx;simp only[ak,aw,bf]at hx⊢;omega);have Xd:∀{u u':World},w2.heap.size<=u.heap.size->Only [] u u'->aD [k0,k1,k2,k3] u u':=fun hu hO=>hO.same (by intro x hx;simp only[ak,aw,bf]at hx;exact⟨by omega,by simp⟩);refine⟨fun q _ _ _ _ _ _ vk vn vs vo vl va w'=>q=some ⟨b,0,none⟩/\Only [] w w'/\(tk ts i).k≠5/\∃t,vs=T t/\vl=Sl.nil/\R=.ok (.mk vk vn t vo [] va,i+1),?_,?_⟩
 ·rintro _ _ _ _ _ _ _ vk vn _ vo _ va w3 ⟨rfl,cU,eI,t,rfl,rfl,JB⟩;have h3:=h.only cU;have hn:=h.en.next h.lt eI;refine⟨_,rfl,(i:Int),Blk.eo h3.blk 1 rfl,_,rfl,b,1,_,_,rfl,h3.blk,by simp,by omega,by omega,by omega,by omega,fun w4 cZ tK w5 eC=>?_⟩;rw[gV (by omega) (by omega)]at tK;have h4:Rd F G ts w4 b l sn (i+1) 0 0 (d:Int):=h3.lm cZ tK hn;rw[JB];refine⟨((cU.weaken (bs':=[b]) fun _ h=>(by cases h)).trans cZ fun x hx=>.inl hx).new eC (by omega),_,rfl,.leaf ..,h4.own eC (by simp;omega)⟩
 refine(zd h2).mono ?_;rintro _ w6 ⟨rfl,dD⟩;have z6:=dD.size;have h6:=h2.only dD;refine⟨_,rfl,Xd (by omega) dD,fun hc=>(by simp at hc),fun _=>?_⟩;obtain⟨s8,w8,k8,fy,hc8⟩:=is2 h6;have z8:=fy.size;refine⟨s8,w8,k8,Xd (by omega) fy,hc8.mono ?_⟩;rintro _ w9 ⟨rfl,fG⟩;have z9:=fG.size;have qh:=dD.cf (fy.cf fG);have h9:=h2.only qh;rw[show((0:Int)==0)=true from rfl,dl];have VA:=mS.cf qh;refine⟨_,rfl,Xd (by omega) fG,fun hc cI dm=>?_,fun hc=>?_⟩
 ·rw[if_pos hc]at hR;have eI:(tk ts i).k≠5:=by
   rcases cp _ _▸hc with e | e<;>exact ug e
  have hn:=h.en.next h.lt eI;have key:∀op:Int,op=(if(tk ts i).t=[33]then 15 else 14)->∀cS,Only [] w cS->w2.heap.size<=cS.heap.size->_:=fun op rV cS dx VB=>CJ hd (h.only dx) hn (g:=318) (z1:=[.pointer (some ⟨b,0,none⟩)]) (z2:=[]) (gr (by kernel_rfl)) ⟨.func (.func 318) #[.pointer (some ⟨b,0,none⟩)] #[],rfl⟩ rfl (r:=One (i+1)) fun VC w1 _ h1=>ahv VC w1 (i+1) h1;refine⟨fun k n s op sl a w'=>k=4/\n=0/\s=T []/\op=(if(tk ts i).t=[33]then 15 else 14)/\sl=Sl.nil/\a=(tk ts i).a/\Only [] w w'/\w2.heap.size<=w'.heap.size,?_,?_,?_⟩
  ·rintro _ _ _ _ _ _ cS ⟨rfl,rfl,rfl,rV,rfl,rfl,dx,VB⟩;refine(key _ rV cS dx VB).mono ?_;rintro _ dK ⟨v,rfl,hD⟩;obtain⟨vk,vn,vs,vo,vl,va,rfl⟩:=hD.x6;have z12:=hD.1.size;obtain⟨dX,vI,yq,dZ⟩:=Lu dK [ou vk vn vs vo vl va] (by simp) (by simp) (by simp) (parts:=#[(0,.agg (ou vk vn vs vo vl va).toArray)]) rfl;refine⟨_,_,_,_,_,_,rfl,sm VB hD.1,⟨some ⟨dK.heap.size,0,none⟩,1,1⟩,dX,vI,Xd (by omega) dZ,fun eK dz=>?_⟩;have VD:=dZ.size;have z14:=dz.size;have hOf:Only [b] w eK:=(((dx.weaken (bs':=[b]) fun _ h=>(by cases h)).trans hD.1 fun x hx=>.inl hx).cf dZ).trans dz fun x hx=>.inr (by simp only[ak,aw,bf]at hx;omega);have hob:∀x,x∈[k1,k3]->b<x:=by simp;omega
   have hoo:∀x,x∈[k1,k3]->x<cS.heap.size:=by simp;omega
   refine⟨hOf,?_⟩;obtain⟨_,hD⟩:=hD;rw[<-hR];cases hN:fL d (tk ts i).a (One (i+1))with
   | error e=>
    rw[hN]at hD;obtain⟨a1,a2,j,a3⟩:=hD;exact⟨a1,⟨_,_,_,_,_,_,rfl⟩,j,(a3.only dZ).own dz hob⟩
   | ok q=>
    obtain⟨x,j⟩:=q;rw[hN]at hD;obtain⟨cs,a1,a2,a3⟩:=hD;refine⟨_,rfl,?_,(a3.only dZ).own dz hob⟩;have kK:(ou vk vn vs vo vl va)=cs:=aU Array.toList (Value.agg.inj a1);rw[rV];have ahx:RX eK cS.heap.size dK.heap.size x cs:=(a2.only dZ (by simp)).only dz fun k hk=>.inl (hoo k hk);have D6:Blk eK dK.heap.size 51 cs:=by
     have:=dz.blk yq fun hm=>by have:=hoo _ hm;omega
     rw[bT,List.flatten_nil,aN]at this;rw[<-kK];exact this
    exact .one w.heap.size dK.heap.size dK.heap.size _ _ _ _ _ _ x cs (ahx.wide (by omega) (aq _)) (by omega) (aq _) (by have:=yq.lt;omega) id D6
  ·rw[show(ByteArray.mk #[33])=T [33]from rfl,jW];intro he gn jo;have he:=aj he;exact⟨rfl,rfl,rfl,by rw[if_pos he],rfl,rfl,(VA.new dm (by omega)).new jo (by omega),by have:=jo.size;have:=dm.size;omega⟩
  ·rw[show(ByteArray.mk #[33])=T [33]from rfl,jW];intro he;have he:=ar he;exact⟨rfl,rfl,rfl,by rw[if_neg he],rfl,rfl,VA.new dm (by omega),by have:=dm.size;omega⟩
 ·rw[if_neg (by rw[hc];decide)]at hR;obtain⟨Q0,gR,D3,ix,ahy⟩:=is1 h9 [40];have z16:=ix.size;refine⟨Q0,gR,D3,Xd (by omega) ix,ahy.mono ?_⟩;rintro _ fR ⟨rfl,jI⟩;have z17:=jI.size;have Io:=VA.cf (ix.cf jI);have J7:=h.only Io;have FW:Only [b] w fR:=Io.weaken fun _ h=>(by cases h)
  rw[show((0:Int)==0)=true from rfl,dl];refine⟨_,rfl,Xd (by omega) jI,fun hp hB _ _ _=>?_,fun hp=>?_⟩
  ·rw[if_pos hp]at hR;have hn:=h.en.next h.lt (ug hp);subst hR;refine(CJ hd J7 hn (g:=331) (z1:=[]) (z2:=[.pointer (some ⟨k0,0,none⟩)]) (gr (by kernel_rfl)) ⟨.func (.func 331) #[] #[.pointer (some ⟨k0,0,none⟩)],rfl⟩ rfl (r:=oO ts (E0 (i+1))) fun VC w1 bR h1=>aac h1 (by omega) (bR.blk hB (by simp;omega)) fun w1' ahz=>hE VC w1' (i+1) (h1.only ahz)).mono ?_;rintro _ jH ⟨v,rfl,hD⟩;obtain⟨vk,vn,vs,vo,vl,va,rfl⟩:=hD.x6;have z18:=hD.1.size;refine⟨_,_,_,_,_,_,rfl,hD.1.same (by simp;omega),_,hD.1.blk hB (by simp;omega),fun jK lp _=>?_⟩;exact hD.Ny FW lp (by simp;omega)
  rw[if_neg (by rw[hp];decide)]at hR;have hp':(tk ts i).k≠5->i+1<ts.length:=h.en.next h.lt;refine⟨fun hi jl qi _ _ _ _ _ eI=>⟨fun k=>k=k2,rfl,fun e=>eI e.symm,fun e=>eI e.symm,fun lZ je=>?_⟩,fun hi=>⟨fun hv rq JC _ _ _ _ _ eI=>⟨fun k=>k=k2,rfl,fun e=>eI e.symm,fun e=>eI e.symm,fun rr qj=>?_⟩,fun hv=>⟨fun hw=>?_,fun hw=>?_⟩⟩⟩
  ·have hi:(tk ts i).k=3:=by simpa using hi
   rw[if_pos hi]at hR;exact⟨rfl,(Io.cf qi).new je (by omega),by rw[hi];decide,[],rfl,rfl,hR.symm⟩
  ·have hi:¬(tk ts i).k=3:=by simpa using hi
   have hv:(tk ts i).k=1:=by simpa using hv
   rw[if_neg hi,if_pos hv]at hR;exact⟨rfl,(Io.cf JC).new qj (by omega),by rw[hv];decide,_,rfl,rfl,hR.symm⟩
  ·have hi:¬(tk ts i).k=3:=by simpa using hi
   have hv:¬(tk ts i).k=1:=by simpa using hv
   rw[show(ByteArray.mk #[105,110])=T [105,110]from rfl,jW]at hw;have hw:(tk ts i).k=2/\(tk ts i).t=[105,110]:=by simpa using hw
   rw[if_neg hi,if_neg hv,if_pos hw]at hR;have hn:=hp' (by rw[hw.1];decide);refine⟨(i:Int),Blk.eo J7.blk 1 rfl,b,1,_,_,rfl,J7.blk,by simp,by omega,by omega,by omega,by omega,fun qe yM abV=>?_⟩;rw[gV (by omega) (by omega)]at abV;have h24:Rd F G ts qe b l sn (i+1) 0 0 (d:Int):=J7.lm yM abV hn;have z24:=yM.size;refine(xi h24 [40]).mono ?_;rintro _ mG ⟨rfl,Bw,Q5⟩;have z25:=Bw.size;refine⟨rfl,sm (by omega) Bw,?_⟩;have S3:Only [b] w mG:=(FW.trans yM fun x hx=>.inl hx).trans Bw fun x hx=>.inl hx;have bad:∀{j:Nat} {c a:Int},Rd F G ts mG b l sn j c a (d:Int)->c≠0->Calls Tryz.prog 333 #[.pointer (some ⟨b,0,none⟩)] mG fun e w'=>e=.returned (.string (T []))/\Only [b] mG w'/\Rd F G ts w' b l sn j c a (d:Int):=fun{j c a} Q6 hc=>by
    refine(GS Q6).mono ?_;rintro e oC ⟨ik,hh⟩;rw[if_neg (fun hh=>hc hh.1),if_neg hc,if_neg hc]at hh;exact⟨hh.1,ik,hh.2⟩
   have abX:∀{oC qf:World} {j:Nat} {c a:Int},Only [b] mG oC->Only [k3] oC qf->Rd F G ts oC b l sn j c a (d:Int)->c≠0->R=.error (c,a)->∀s6:ByteArray,Calls Tryz.prog 332 #[.pointer (some (Addr.add ⟨b,0,none⟩ 0)),.string (ByteArray.mk #[41])] qf fun e8 vd=>e8=(.returned (.tuple #[]))/\aD [k0,k1,k2,k3] qf vd/\∀vJ:World,Only [k1] vd vJ->lK F G ts w vJ b l sn d R (.agg #[.int .i64 3,.int .i64 0,.string s6,.int .i64 0,Sl.nil.v,.int .i64 (tk ts i).a]):=fun{oC qf j c a} ik qk h26 hc JB s6=>by
    have z26:=ik.size;have z27:=qk.size;refine(xi (h26.own qk (by simp;omega)) [41]).mono ?_;rintro _ vd ⟨rfl,uF,FX⟩;rw[if_neg (by simp[hc]),if_neg hc,if_neg hc]at FX;refine⟨rfl,sm (by omega) uF,fun vJ qh=>?_⟩;rw[JB];refine⟨((((S3.trans ik fun x hx=>.inl hx).new qk (by omega)).trans uF fun x hx=>.inl hx).new qh (by omega)),hc,⟨3,0,s6.data.toList,0,Sl.nil,_,by unfold ou;rw[<-vg]⟩,j,FX.own qh (by simp;omega)⟩
   by_cases h1:sg ts (i+1) [40]=true
   ·rw[if_pos (by simp[h1])]at Q5;rw[BF,if_pos h1]at hR;refine(GS Q5).mono ?_;rintro _ oC ⟨ik,hh⟩;have z26:=ik.size;by_cases h2:(tk ts (i+2)).k=1
    ·rw[if_pos ⟨rfl,h2⟩]at hh;obtain⟨rfl,NR⟩:=hh;rw[if_pos h2]at hR;refine⟨_,rfl,sm (by omega) ik,fun qf qk=>?_⟩;have z27:=qk.size;have h27:=NR.own qk (by simp;omega);refine(xi h27 [41]).mono ?_;rintro _ vd ⟨rfl,uF,FX⟩;refine⟨rfl,sm (by omega) uF,fun vJ qh=>?_⟩;have hOf:Only [b] w vJ:=(((S3.trans ik fun x hx=>.inl hx).new qk (by omega)).trans uF fun x hx=>.inl hx).new qh (by omega);refine⟨hOf,?_⟩;by_cases h3:sg ts (i+3) [41]=true
     ·rw[if_pos (by simp[h3])]at FX;rw[if_pos h3]at hR;rw[<-hR];exact⟨_,rfl,.leaf ..,FX.own qh (by simp;omega)⟩
     ·rw[if_neg (by simp[h3]),if_pos rfl,if_pos rfl]at FX;rw[if_neg h3]at hR;rw[<-hR];exact⟨fU,⟨_,_,_,_,_,_,rfl⟩,_,FX.own qh (by simp;omega)⟩
    ·rw[if_neg (fun hh=>h2 hh.2),if_pos rfl,if_pos rfl]at hh;obtain⟨rfl,NR⟩:=hh;rw[if_neg h2]at hR;exact⟨_,rfl,sm (by omega) ik,fun qf qk=>abX ik qk NR fU hR.symm _⟩
   ·rw[if_neg (by simp[h1]),if_pos rfl,if_pos rfl]at Q5;rw[BF,if_neg h1]at hR;refine(bad Q5 fU).mono ?_;rintro _ oC ⟨rfl,ik,NR⟩;exact⟨_,rfl,sm (by omega) ik,fun qf qk=>abX ik qk NR fU hR.symm _⟩
  ·have hi:¬(tk ts i).k=3:=by simpa using hi
   have hv:¬(tk ts i).k=1:=by simpa using hv
   rw[show(ByteArray.mk #[105,110])=T [105,110]from rfl,jW]at hw;rw[if_neg hi,if_neg hv,if_neg (fun hh=>by rw[hh.1,hh.2]at hw;simp at hw)]at hR;refine(AF J7).mono ?_;rintro _ FU ⟨rfl,ab0,ab1⟩;rw[if_pos rfl,if_pos rfl]at ab1;refine⟨rfl,sm (by omega) ab0,fun OQ NS=>⟨(FW.trans ab0 fun x hx=>.inl hx).new NS (by omega),?_⟩⟩;rw[<-hR];exact⟨fU,⟨0,0,[],0,Sl.nil,_,rfl⟩,i,ab1.own NS (by simp;omega)⟩
end
section
variable {F G:Nat->Prop} {ts:List Tk} {w w':World} {b:Nat} {l sn:Sl} {i:Nat} {fc fa d:Int}
theorem IV {E:Nat->Pr} {k:Int} {g:Nat} {x:Ex} {j:Nat} (h:jy ts k j=0):fC ts E k g x j=.ok (x,j):=by
 cases g with
 | zero=>rfl
 | succ g=>rw[fC,if_pos h]
def At5 (F G:Nat->Prop) (ts:List Tk) (w:World) (b:Nat) (l sn:Sl) (d:Nat) (N:Nat->Prop) (E:Nat->Pr) (k:Int) (R:Pr) (nv:Nat) (op:Int) (cs:List Value) (w':World):Prop:=Only [b] w w'/\
 ((∃(c a:Int) (j:Nat),op=0/\c≠0/\R=.error (c,a)/\Rd F G ts w' b l sn j c a (d:Int))∨
  (∃(x:Ex) (j:Nat),op=jy ts k j/\RXN w' N w.heap.size w'.heap.size x cs/\Rd F G ts w' b l sn j 0 0 (d:Int)/\R=fC ts E k nv x j/\ts.length-j<=nv))
theorem IW {f k d:Nat} (hk6:k<6) (h:Rd F G ts w b l sn i 0 0 (d:Int))
  (hE:∀w i,Rd F G ts w b l sn i 0 0 (d:Int)->Calls Tryz.prog 306 #[.pointer (some ⟨b,0,none⟩),.int .i64 ((k+1:Nat):Int)] w fun e w'=>∃v,e=.returned v/\lK F G ts w w' b l sn d (bX ts f (k+1) d i) v):
  Calls Tryz.prog 306 #[.pointer (some ⟨b,0,none⟩),.int .i64 (k:Int)] w fun e w'=>∃v,e=.returned v/\lK F G ts w w' b l sn d (bX ts (f+1) k d i) v:=by
 have eR:bX ts (f+1) k d i=vq (bX ts f (k+1) d i) fun x j=>fC ts (bX ts f (k+1) d) (k:Int) (ts.length-j) x j:=by rw[bX,if_neg (by omega)]
 rw[eR];have ab3:∀i x j,bX ts f (k+1) d i=.ok (x,j)->i<j:=fun i x j h=>ia f _ _ i h;generalize hgE:bX ts f (k+1) d=E at*
 generalize hR:(vq (E i) fun x j=>fC ts E (k:Int) (ts.length-j) x j)=R;refine YP ⟨b,0,none⟩ _ (fun v w'=>lK F G ts w w' b l sn d R v) w ?_;unfold TV;have ek:IntKind.wrap .i64 ((k:Int)+1)=((k+1:Nat):Int):=by rw[gV (by omega) (by omega)];rfl
 refine⟨fun hc=>absurd (by simpa using hc) (by omega:¬(k:Int)=6),fun _ k1 w3 kJ jp cU=>?_⟩;have hb:=h.lb;rw[ek];refine(hE w3 i (h.only cU)).mono ?_;rintro _ w4 ⟨v,rfl,hD⟩;obtain⟨vk,vn,vs,vo,vl,va,rfl⟩:=hD.x6;have z3:=cU.size;have z4:=hD.1.size;refine⟨_,_,_,_,_,_,rfl,hD.1.same (by simp;omega),fun k2 w5 qM yj eC=>?_⟩;have z5:=eC.size;have am5:Only [b] w w5:=((cU.weaken (bs':=[b]) fun _ h=>(by cases h)).trans hD.1 fun x hx=>.inl hx).cf eC;have sm:∀{u u':World},w5.heap.size<=u.heap.size->Only [b] u u'->aD [k1,k2] u u':=fun hu hO=>hO.same (by intro x hx;simp only[ak,aw,bf]at hx⊢;omega);have OS:=h.big;have oJ:∃(j:Nat) (c a:Int),Rd F G ts w4 b l sn j c a (d:Int)/\∀w6,Only [] w4 w6->∃nv,At5 F G ts w b l sn d (fun q=>q=k1∨q=k2) E (k:Int) R nv (if c=0 then jy ts (k:Int) j else 0) (ou vk vn vs vo vl va) w6:=by
  obtain⟨cZ,Q7⟩:=hD;have Bt:Only [b] w w4:=(cU.weaken (bs':=[b]) fun _ h=>(by cases h)).trans cZ fun x hx=>.inl hx;cases NB:E i with
  | error e=>
   rw[NB]at Q7 hR;obtain⟨c,a⟩:=e;obtain⟨a1,a2,j,a3⟩:=Q7;exact⟨j,c,a,a3,fun w6 dD=>⟨0,Bt.cf dD,.inl ⟨c,a,j,if_neg a1,a1,hR.symm,a3.only dD⟩⟩⟩
  | ok q=>
   obtain⟨x,j⟩:=q;rw[NB]at Q7 hR;obtain⟨cs,a1,a2,a3⟩:=Q7;have kK:(ou vk vn vs vo vl va)=cs:=aU Array.toList (Value.agg.inj a1);rw[kK];exact⟨j,0,0,a3,fun w6 dD=>⟨ts.length-j,Bt.cf dD,.inr ⟨x,j,if_pos rfl,((a2.only dD (by simp)).Nx fun q h1 h2 _=>(by omega)).wide z3 dD.size,a3.only dD,hR.symm,aq _⟩⟩⟩
 obtain⟨j0,c0,a0,hR4,oJ⟩:=oJ;refine(xj (hR4.only eC) (k:Int)).mono ?_;rintro _ w6 ⟨rfl,dD⟩;have z6:=dD.size;obtain⟨nv0,hA0⟩:=oJ w6 (eC.cf dD);refine⟨_,rfl,dD.same (by simp;omega),fun nv op i10 i11 s2 i12 l2 i13 w'=>w5.heap.size<=w'.heap.size/\At5 F G ts w b l sn d (fun q=>q=k1∨q=k2) E (k:Int) R nv op [.int .i64 i10,.int .i64 i11,.string s2,.int .i64 i12,l2.v,.int .i64 i13] w',nv0,⟨z6,hA0⟩,?_⟩;rintro nv op i10 i11 s2 i12 l2 i13 w7 ⟨z7,fg,hA⟩;refine⟨fun rV=>?_,fun rV eK dz=>?_⟩
 ·have rV:op≠0:=by simpa using rV
  rcases hA with⟨_,_,_,e,_⟩ | ⟨x,j,rfl,hX,NG,JB,hnv⟩
  ·exact absurd e rV
  have hn:=NG.en.next NG.lt (lu _ _ rV);obtain⟨g,rfl⟩:∃g,nv=g+1:=⟨nv-1,by omega⟩
  rw[fC,if_neg rV]at JB;refine⟨(j:Int),Blk.eo NG.blk 1 rfl,b,1,_,_,rfl,NG.blk,by simp,by omega,by omega,fun w8 fy wl=>?_⟩;rw[gV (by omega) (by omega)]at wl;have h8:Rd F G ts w8 b l sn (j+1) 0 0 (d:Int):=NG.lm fy wl hn;have z8:=fy.size;refine(hE w8 (j+1) h8).mono ?_;rintro _ w9 ⟨v,rfl,hD9⟩;obtain⟨yk,yn,ys,yo,yl,ya,rfl⟩:=hD9.x6;have z9:=hD9.1.size;refine⟨_,_,_,_,_,_,rfl,sm (by omega) hD9.1,fun k8 cI hk8 Vz dm=>?_⟩;have OP:=dm.size;obtain⟨cS,qX,D7,dx⟩:=Lu cI [[.int .i64 i10,.int .i64 i11,.string s2,.int .i64 i12,l2.v,.int .i64 i13],ou yk yn ys yo yl ya] (by simp) (by simp) (by simp) (parts:=#[(0,.agg #[.int .i64 i10,.int .i64 i11,.string s2,.int .i64 i12,l2.v,.int .i64 i13]),(1,.agg (ou yk yn ys yo yl ya).toArray)]) rfl;have Eo:=dx.size;refine⟨⟨some ⟨cI.heap.size,0,none⟩,2,2⟩,cS,qX,dx.same (by simp;omega),fun dK eJ=>?_⟩;have z12:=eJ.size;have S4:Only [b] w dK:=((((fg.trans fy fun x hx=>.inl hx).trans hD9.1 fun x hx=>.inl hx).cf dm).cf dx).new eJ (by omega);have D8:Only [k2] w9 dK:=((dm.cf dx).weaken (bs':=[k2]) fun _ h=>(by cases h)).trans eJ fun x hx=>.inl hx;have VE:∃(j':Nat) (c a:Int),Rd F G ts w9 b l sn j' c a (d:Int)/\∀dX,Only [] dK dX->∃nv,nv<g+1/\At5 F G ts w b l sn d (fun q=>q=k1∨q=k2) E (k:Int) R nv (if c=0 then jy ts (k:Int) j' else 0) (ou 5 0 [] (jy ts (k:Int) j) ⟨some ⟨cI.heap.size,0,none⟩,2,2⟩ i13) dX:=by
   obtain⟨fG,Q7⟩:=hD9;cases NB:E (j+1)with
   | error e=>
    rw[NB]at Q7 JB;obtain⟨c,a⟩:=e;obtain⟨a1,a2,j',a3⟩:=Q7;exact⟨j',c,a,a3,fun dX dZ=>⟨0,by omega,S4.cf dZ,.inl ⟨c,a,j',if_neg a1,a1,JB,(a3.own D8 (by simp;omega)).only dZ⟩⟩⟩
   | ok q=>
    obtain⟨y,j'⟩:=q;rw[NB]at Q7 JB;obtain⟨cs,a1,a2,a3⟩:=Q7;have kK:(ou yk yn ys yo yl ya)=cs:=aU Array.toList (Value.agg.inj a1);have hjj:=ab3 _ _ _ NB;obtain⟨xl,QV,_⟩:=hX.cells;have hxa:i13=x.a:=by
     simp only[ou,wo,Value.int.injEq]at QV;exact QV.2.2.2.2.2.1.2
    refine⟨j',0,0,a3,fun dX dZ=>⟨g,by omega,S4.cf dZ,.inr ⟨.mk 5 0 [] (jy ts (k:Int) j) [x,y] x.a,j',if_pos rfl,?_,(a3.own D8 (by simp;omega)).only dZ,JB,?_⟩⟩⟩
    ·have VD:=dZ.size;have ab5:Only [b,k2] w7 dX:=(((((fy.weaken (bs':=[b,k2]) fun x hx=>.inl (by simp only[ae]at hx;simp[hx])).trans fG fun x hx=>.inl (by simp only[ae]at hx;simp[hx])).trans D8 fun x hx=>.inl (by simp only[ae]at hx;simp[hx])).cf dZ))
     have ab6:Only [k2] w9 dX:=D8.cf dZ;have yq:Blk dX cI.heap.size 51 ([.int .i64 i10,.int .i64 i11,.string s2,.int .i64 i12,l2.v,.int .i64 i13]++cs):=by
      have:=dZ.blk (eJ.blk D7 (by simp;omega)) (by simp);rw[<-kK];simpa using this
     have ahD:RXN dX (fun q=>q=k1∨q=k2) w.heap.size w7.heap.size x [.int .i64 i10,.int .i64 i11,.string s2,.int .i64 i12,l2.v,.int .i64 i13]:=by
      exact hX.only ab5 fun q hq=>by
       simp only[ak,aw,bf]at hq;rcases hq with rfl | rfl
       ·exact .inl hb
       ·exact .inr (.inr (.inr rfl))
     have ahE:RXN dX (fun q=>q=k1∨q=k2) w8.heap.size w9.heap.size y cs:=(a2.only ab6 fun q hq=>.inl (by simp only[ae]at hq;omega)).Nx fun q h1 h2 _=>(by omega)
     rw[hxa];exact .two w.heap.size w7.heap.size w8.heap.size w9.heap.size cI.heap.size _ _ _ _ _ _ x y _ cs ahD z8 ahE (by omega) (by omega) (by omega) (by omega) (by have:=yq.lt;omega) (by omega) yq
    ·omega
  obtain⟨j',c',a',hR9,VE⟩:=VE;refine(xj (hR9.own D8 (by simp;omega)) (k:Int)).mono ?_;rintro _ dX ⟨rfl,dZ⟩;obtain⟨nv',ahF,hA'⟩:=VE dX dZ;exact⟨_,rfl,dZ.same (by simp;omega),nv',ahF,by have:=dZ.size;omega,hA'⟩
 ·have rV:op=0:=by simpa using rV
  refine⟨fg.new dz (by omega),?_⟩;rcases hA with⟨c,a,j,_,hc,JB,NG⟩ | ⟨x,j,SO,hX,NG,JB,hnv⟩
  ·rw[JB];exact⟨hc,⟨i10,i11,s2.data.toList,i12,l2,i13,by unfold ou;rw[<-vg]⟩,j,NG.own dz (by simp;omega)⟩
  ·rw[JB,IV (by rw[<-SO,rV])];exact⟨_,rfl,((hX.only dz fun q hq=>.inr (.inr (.inl (by simpa using hq)))).Nx fun _ _ _ _ h=>h).wide (aq _) dz.size,NG.own dz (by simp;omega)⟩
theorem CK : ∀ f : Nat, (∀ (k d i : Nat) (w : World), k <= 6 -> d <= 20 -> dL k d <= f -> Rd F G ts w b l sn i 0 0 (d : Int) ->
      Calls Tryz.prog 306 #[.pointer (some ⟨b, 0, none⟩), .int .i64 (k : Int)] w fun e w' => ∃ v, e = .returned v /\ lK F G ts w w' b l sn d (bX ts f k d i) v) /\
    (∀ (d i : Nat) (w : World), d <= 20 -> dL 6 d <= f -> Rd F G ts w b l sn i 0 0 (d : Int) ->
      Calls Tryz.prog 318 #[.pointer (some ⟨b, 0, none⟩)] w fun e w' => ∃ v, e = .returned v /\ lK F G ts w w' b l sn d (bX ts f 6 d i) v)
  | 0 => ⟨fun k d i w hk hd hn => by unfold dL at hn; omega, fun d i w hd hn => by unfold dL at hn; omega⟩
  | f + 1 => by
    obtain ⟨BM, En⟩ := CK f
    have one : ∀ (d i : Nat) (w : World), d <= 20 -> dL 6 d <= f + 1 -> Rd F G ts w b l sn i 0 0 (d : Int) ->
      Calls Tryz.prog 318 #[.pointer (some ⟨b, 0, none⟩)] w fun e w' => ∃ v, e = .returned v /\ lK F G ts w w' b l sn d (bX ts (f + 1) 6 d i) v := fun d i w hd hn h => by
      unfold dL at hn
      exact T3 hd h (fun Bx w i h => BM 0 (d + 1) i w (by omega) (by omega) (by unfold dL; omega) h) (fun Bx w i h => En (d + 1) i w (by omega) (by unfold dL; omega) h)
    refine ⟨fun k d i w hk hd hn h => ?_, one⟩
    by_cases h6 : k = 6
    · subst h6
      refine YP ⟨b, 0, none⟩ _ (fun v w' => lK F G ts w w' b l sn d (bX ts (f + 1) 6 d i) v) w ?_
      unfold TV
      refine ⟨fun _ k0 w0 fQ eE cd => ?_, fun hc => absurd hc (by decide)⟩
      refine (one d i w0 hd hn (h.only cd)).mono ?_
      rintro _ w1 ⟨v, rfl, hD⟩
      obtain ⟨vk, vn, vs, vo, vl, va, rfl⟩ := hD.x6
      have hb := h.lb
      exact ⟨_, _, _, _, _, _, rfl, hD.1.same (by simp; omega), fun w2 cO => hD.Ny (cd.weaken fun _ h => (by cases h)) cO (by simp; omega)⟩
    · unfold dL at hn
      exact IW (by omega) h fun w i h => BM (k + 1) d i w (by omega) hd (by unfold dL; omega) h
end
theorem IX (w:World):∃(s:Sl) (w':World),(Instr.buildSlice 52 16 #[.mk 1 (.string (ByteArray.mk #[43])),.mk 2 (.string (ByteArray.mk #[45])),.mk 3 (.string (ByteArray.mk #[42])),.mk 4 (.string (ByteArray.mk #[47])),.mk 5 (.string (ByteArray.mk #[37])),.mk 6 (.string (ByteArray.mk #[60])),.mk 7 (.string (ByteArray.mk #[60,61])),.mk 8 (.string (ByteArray.mk #[62])),.mk 9 (.string (ByteArray.mk #[62,61])),.mk 10 (.string (ByteArray.mk #[61,61])),.mk 11 (.string (ByteArray.mk #[33,61])),.mk 12 (.string (ByteArray.mk #[38,38])),.mk 13 (.string (ByteArray.mk #[124,124])),.mk 14 (.string (ByteArray.mk #[45])),.mk 15 (.string (ByteArray.mk #[33]))]).run Tryz.prog w=.ok (Sl.v s) w'/\
  SliceF jJ 1 w' (fun k=>w.heap.size<=k/\k<w'.heap.size) s yF/\Only [] w w':=by
 have qc:=run_buildSlice (P:=Tryz.prog) w 52 9 16 #[.mk 1 (.string (ByteArray.mk #[43])),.mk 2 (.string (ByteArray.mk #[45])),.mk 3 (.string (ByteArray.mk #[42])),.mk 4 (.string (ByteArray.mk #[47])),.mk 5 (.string (ByteArray.mk #[37])),.mk 6 (.string (ByteArray.mk #[60])),.mk 7 (.string (ByteArray.mk #[60,61])),.mk 8 (.string (ByteArray.mk #[62])),.mk 9 (.string (ByteArray.mk #[62,61])),.mk 10 (.string (ByteArray.mk #[61,61])),.mk 11 (.string (ByteArray.mk #[33,61])),.mk 12 (.string (ByteArray.mk #[38,38])),.mk 13 (.string (ByteArray.mk #[124,124])),.mk 14 (.string (ByteArray.mk #[45])),.mk 15 (.string (ByteArray.mk #[33]))]
  (yF.map fun x=>Value.string (T x)).toArray Tryz.t9 _ (by kernel_rfl) (by kernel_rfl) rfl (by decide) (by decide) (by kernel_rfl)
 refine⟨⟨some ⟨w.heap.size,0,none⟩,16,16⟩,_,qc,⟨rfl,aq _,fun h=>(by cases h),(by decide:(16:Nat)<=9223372036854775807),fun j x hx=>?_⟩,Only.alloc _ _⟩;have hB:=Blk.alloc w 9 (yF.map fun x=>Value.string (T x));have bp:=hB.lt;refine⟨⟨w.heap.size,0,none⟩,[.string (T x)],rfl,⟨aq _,bp⟩,rfl,?_,rfl⟩;rw[rY];exact Blk.eo hB j (by rw[bD,hx];rfl)
theorem R9 (w:World):Calls Tryz.prog 263 #[] w fun e w'=>∃s:Sl,e=.returned s.v/\SliceF jJ 1 w' (fun k=>w.heap.size<=k/\k<w'.heap.size) s yF/\Only [] w w':=by
 refine(ae7 (fun v w'=>∃s:Sl,v=s.v/\SliceF jJ 1 w' (fun k=>w.heap.size<=k/\k<w'.heap.size) s yF/\Only [] w w') w ?_).mono (by
  rintro e w' ⟨v,rfl,s,rfl,h⟩;exact⟨s,rfl,h⟩)
 unfold YO;obtain⟨s,w',h1,h2,h3⟩:=IX w;exact⟨s,w',h1,s,rfl,h2,h3⟩
def ja (ts:List Tk):Nat:=(ts.takeWhile fun t=>t.k !=5).length
theorem AG (ts:List Tk):ja ts<=ts.length:=by
 unfold ja;exact(List.takeWhile_sublist _).length_le
theorem ze {t:Tk} {ts:List Tk} {i:Nat}:tk (t::ts) (i+1)=tk ts i:=by unfold tk;rw[bQ]
theorem zf {t:Tk} {ts:List Tk}:tk (t::ts) 0=t:=rfl
theorem vV:∀(ts:List Tk) (i:Nat),i<ja ts->(tk ts i).k≠5
 | [],_,h=>by simp[ja]at h
 | t::ts,i,h=>by
  unfold ja at h;rw[cn]at h;split at h
  ·rename_i ht;cases i with
   | zero=>rw[zf];simpa using ht
   | succ i=>rw[ze];exact vV ts i (by simpa[ja]using h)
  ·simp at h
theorem vW:∀(ts:List Tk),ja ts<ts.length->(tk ts (ja ts)).k=5
 | [],h=>by simp at h
 | t::ts,h=>by
  unfold ja at h⊢;rw[cn]at h⊢;split
  ·rename_i ht;rw[if_pos ht]at h;rw[ao,ze];exact vW ts (by simpa[ja]using h)
  ·rename_i ht;rw[aM,zf];simpa using ht
theorem Lv {ts:List Tk} (h:ja ts+1=ts.length):oM ts:=fun i hi=>by
 constructor
 ·intro hk;refine aP fun hn=>vV ts i (by omega) hk
 ·intro hn;have:i=ja ts:=by omega
  rw[this];exact vW ts (by omega)
theorem PS (w:World) (t:Tk):Calls Tryz.prog 305 #[t.v] w fun e w'=>e=.returned (.bool (t.k==5))/\Only [] w w':=by
 refine ret (v3w t.k (T t.t) t.n t.a (fun v w'=>v=.bool (t.k==5)/\Only [] w w') w ?_);unfold v3v;exact fun k0 w0 _ _ hO=>⟨rfl,hO⟩
theorem Lw {w:World} {F:Nat->Prop} {l:Sl} {ts:List Tk} (h:SliceF GM 4 w F l ts):Calls Tryz.prog 304 #[l.v,.func (.func 305) #[] #[]] w fun e w'=>e=.returned (.int .i64 (if ja ts<ts.length then(ja ts:Int)else -1))/\Only [] w w':=by
 refine ret (ae6 l ⟨.func (.func 305) #[] #[],rfl⟩ (fun v w'=>v=.int .i64 (if ja ts<ts.length then(ja ts:Int)else -1)/\Only [] w w') w ?_);unfold YN;have dN:=h.len;have rU:=h.big;have nT:=h.cap;refine⟨fun nv i w'=>∃n:Nat,n<=ja ts/\i=(n:Int)/\nv=ts.length-n/\Only [] w w',ts.length,⟨0,aF _,rfl,rfl,Only.refl _ _⟩,?_⟩;rintro nv _ w0 ⟨n,hn,rfl,rfl,cd⟩;have tH:=AG ts;refine⟨fun hc=>?_,fun hc=>?_⟩
 ·have bp:(n:Int)<l.n:=aj hc;obtain⟨ad,x,cs,g1,g2,g3,g4,g5,g6⟩:=(SliceF.only hY (by decide) h cd (by simp)).get (aG n) bp;rw[az,GR (by omega)]at g2;injection g2 with g2;subst g2;unfold GM at g6;subst g6;refine⟨ad,g1,_,_,_,_,g5,305,[],[],rfl,gr (by kernel_rfl),?_⟩;refine(PS w0 (tk ts n)).mono ?_;rintro _ w1 ⟨rfl,bR⟩;refine⟨_,rfl,fun hb=>⟨?_,cd.cf bR⟩,fun hb=>⟨ts.length-(n+1),by omega,n+1,?_,by rw[gV (by omega) (by omega)];rfl,rfl,cd.cf bR⟩⟩
  ·have hb:(tk ts n).k=5:=by simpa using hb
   have:n=ja ts:=by
    refine aP fun eI=>vV ts n (by omega) hb
   rw[if_pos (by omega),this]
  ·have hb:¬(tk ts n).k=5:=by simpa using hb
   refine aP fun eI=>hb ?_;have:n=ja ts:=by omega
   rw[this];exact vW ts (by omega)
 ·have yg:¬(n:Int)<l.n:=ar hc;rw[if_neg (by omega)];exact⟨rfl,cd⟩
def rG:Ex:=.mk 0 0 [] 0 [] 0
def bM (ts:List Tk) (a:Int):Ex×Int×Int×Int:=
 if 0<=a/\a<ts.length/\ja ts+1=ts.length then(match pC ts a.toNat with
  | .error (c,p)=>(rG,0,c,p)
  | .ok (x,j)=>(x,(j:Int),0,0))
 else(rG,0,1, -1)
theorem rx0 (w:World) (lo hi:Nat):RX w lo hi rG [.int .i64 0,.int .i64 0,.string (ByteArray.mk #[]),.int .i64 0,Sl.nil.v,.int .i64 0]:=.leaf ..
theorem GU {w:World} {F:Nat->Prop} {l:Sl} {ts:List Tk} (h:SliceF GM 4 w F l ts) (a:Int) (ha:InI a):Calls Tryz.prog 288 #[l.v,.int .i64 a] w fun e w'=>
  ∃cs,e=.returned (.tuple #[.agg cs.toArray,.int .i64 (bM ts a).2.1,.agg #[.int .i64 (bM ts a).2.2.1,.int .i64 (bM ts a).2.2.2]])/\RX w' w.heap.size w'.heap.size (bM ts a).1 cs/\((bM ts a).2.2.1=0->0<=(bM ts a).2.1/\(bM ts a).2.1<ts.length)/\Only [] w w':=by
 refine(v4w l a (fun v w'=>∃cs,v=(.tuple #[.agg cs.toArray,.int .i64 (bM ts a).2.1,.agg #[.int .i64 (bM ts a).2.2.1,.int .i64 (bM ts a).2.2.2]])/\RX w' w.heap.size w'.heap.size (bM ts a).1 cs/\((bM ts a).2.2.1=0->0<=(bM ts a).2.1/\(bM ts a).2.1<ts.length)/\Only [] w w') w ?_).mono (by
  rintro e w' ⟨v,rfl,cs,rfl,h⟩;exact⟨cs,rfl,h⟩)
 unfold v4v;intro k0 k1 w0 fQ eE kJ jp cd;have dN:=h.len;have nT:=h.cap;have rU:=h.big;have z0:=cd.size;have h:=(h.inHeap hY (by decide))
 refine(Lw (SliceF.only hY (by decide) h cd (by simp))).mono ?_;rintro _ w1 ⟨rfl,bR⟩;have z1:=bR.size;have gX:=cd.cf bR;have tH:=AG ts;have hcond:(((decide (a<0))||(decide (a>=(l.n:Int))))||((if ja ts<ts.length then(ja ts:Int)else -1) !=(IntKind.wrap .i64 ((l.n:Int)-1))))=!decide (0<=a/\a<ts.length/\ja ts+1=ts.length):=by
  rw[gV (by omega) (by omega),dN];by_cases h1:ja ts<ts.length
  ·rw[if_pos h1,br];simp;omega
  ·rw[if_neg h1,br];simp;omega
 refine⟨_,rfl,bR.same (by simp;omega),?_⟩;rw[hcond];refine⟨fun hc w2 cO=>?_,fun hc=>?_⟩
 ·have hc:¬(0<=a/\a<ts.length/\ja ts+1=ts.length):=by
   rw[ch,dE]at hc;exact hc
  rw[bM,if_neg hc];exact⟨_,rfl,rx0 _ _ _,fun h=>(by cases h),(gX.weaken (bs':=[]) fun _ h=>(by cases h)).trans cO fun x hx=>.inr (by simp only[ak,aw,bf]at hx;omega)⟩
 ·have hc:0<=a/\a<ts.length/\ja ts+1=ts.length:=by
   rw[Ee,bB]at hc;exact hc
  rw[bM,if_pos hc];obtain⟨i,rfl⟩:∃i:Nat,a=(i:Int):=⟨a.toNat,by omega⟩
  refine(R9 w1).mono ?_;rintro _ w3 ⟨sn,rfl,Va,cU⟩;have z3:=cU.size;refine⟨sn,rfl,cU.same (by simp;omega),fun b w4 hb kH cZ tK=>?_⟩;have z4:=cZ.size;have yi:=gX.cf cU;have hR:Rd (fun k=>F k/\k<w.heap.size) (fun k=>w1.heap.size<=k/\k<w3.heap.size) ts w4 b l sn i 0 0 ((0:Nat):Int):=
   ⟨tK,SliceF.only hY (by decide) h (yi.cf cZ) (by simp),SliceF.only cL (by decide) Va cZ (by simp),fun k hk=>by have:=hk.2;omega,fun k hk=>by have:=hk.2;omega,Lv hc.2.2,by omega⟩
  refine((CK (dL 0 0)).1 0 0 i w4 (by decide) (by decide) (aq _) hR).mono ?_;rintro _ w5 ⟨v,rfl,hD⟩;obtain⟨vk,vn,vs,vo,vl,va,rfl⟩:=hD.x6;have z5:=hD.1.size;obtain⟨eC,hD⟩:=hD;rw[az];have hpr:pC ts i=bX ts (dL 0 0) 0 0 i:=rfl;rw[hpr];have fin:∀{j:Nat} {c p:Int},Rd (fun k=>F k/\k<w.heap.size) (fun k=>w1.heap.size<=k/\k<w3.heap.size) ts w5 b l sn j c p ((0:Nat):Int)->∀w8,Only [] w5 w8->∀w9,Only [k1,k0] w8 w9->Only [] w w9:=fun hR w8 fy w9 fG=>(((yi.cf cZ).trans eC fun x hx=>.inr (by simp only[ae]at hx;omega)).cf fy).trans fG fun x hx=>.inr (by simp only[ak,aw,bf]at hx;omega);refine⟨_,_,_,_,_,_,rfl,eC.same (by simp;omega),?_⟩;cases hE:bX ts (dL 0 0) 0 0 i with
  | error e=>
   rw[hE]at hD;obtain⟨c,p⟩:=e;obtain⟨a1,a2,j,a3⟩:=hD;refine⟨_,_,_,_,_,_,a3.blk,fun k3 w6 yp vL dD S5=>?_⟩;have z6:=dD.size;refine(zd (a3.only dD)).mono ?_;rintro _ w7 ⟨rfl,fg⟩;have h7:=(a3.only dD).only fg;have eI:(c !=0)=true:=by simpa using a1
   refine⟨_,rfl,fg.same (by simp;omega),_,_,_,_,_,_,h7.blk,fun _ w8 fy wl n1 n2 n3 n4 n5 n6=>⟨fun k=>k=b,rfl,fun e=>n2 e,fun e=>n4 e,fun w9 fG _=>⟨_,rfl,rx0 _ _ _,fun h=>absurd h a1,fin a3 w8 (dD.cf (fg.cf fy)) w9 fG⟩⟩,fun hc=>by rw[eI]at hc;cases hc⟩
  | ok q=>
   rw[hE]at hD;obtain⟨x,j⟩:=q;obtain⟨cs,a1,a2,a3⟩:=hD;refine⟨_,_,_,_,_,_,a3.blk,fun k3 w6 yp vL dD S5=>?_⟩;have z6:=dD.size;refine(zd (a3.only dD)).mono ?_;rintro _ w7 ⟨rfl,fg⟩;have z7:=fg.size;have h7:=(a3.only dD).only fg;refine⟨_,rfl,fg.same (by simp;omega),_,_,_,_,_,_,h7.blk,fun hc=>(by simp at hc),fun _ cI dm vK n1 n2 n3 n4 n5 n6=>⟨fun k=>k=b,rfl,fun e=>n2 e,fun e=>n4 e,fun cS dx _=>?_⟩⟩;have OP:=dm.size;have Eo:=dx.size;have kK:(ou vk vn vs vo vl va)=cs:=aU Array.toList (Value.agg.inj a1);refine⟨ou vk vn vs vo vl va,rfl,?_,fun _=>⟨aG j,by have:=a3.lt;dsimp only;omega⟩,fin a3 cI (dD.cf (fg.cf dm)) cS dx⟩;rw[kK];exact((a2.only (dD.cf (fg.cf dm)) (by simp)).only dx fun q hq=>.inl (by simp only[ak,aw,bf]at hq;omega)).wide (by omega) (by omega)
def iA (l:List UInt8):Ex×Int×Int:=
 if(bU l).2.1≠0 then(rG,(bU l).2.1,(bU l).2.2)
 else if(bM (bU l).1 0).2.2.1≠0 then(rG,(bM (bU l).1 0).2.2.1,(bM (bU l).1 0).2.2.2)
 else if(tk (bU l).1 (bM (bU l).1 0).2.1.toNat).k≠5 then(rG,4,(tk (bU l).1 (bM (bU l).1 0).2.1.toNat).a)
 else((bM (bU l).1 0).1,0,(bM (bU l).1 0).2.2.2)
theorem T4 {w:World} (l:List UInt8) (hE:Er w):Calls Tryz.prog 265 #[.string (T l)] w fun e w'=>
  ∃cs,e=.returned (.tuple #[.agg cs.toArray,.agg #[.int .i64 (iA l).2.1,.int .i64 (iA l).2.2]])/\RX w' w.heap.size w'.heap.size (iA l).1 cs/\Only [] w w':=by
 refine(v5w (T l) (fun v w'=>∃cs,v=(.tuple #[.agg cs.toArray,.agg #[.int .i64 (iA l).2.1,.int .i64 (iA l).2.2]])/\RX w' w.heap.size w'.heap.size (iA l).1 cs/\Only [] w w') w ?_).mono (by
  rintro e w' ⟨v,rfl,cs,rfl,h⟩;exact⟨cs,rfl,h⟩)
 unfold v5v;intro k0 k1 w0 fQ eE kJ jp cd;have z0:=cd.size;refine(CG l (hE.only cd)).mono ?_;rintro _ w1 ⟨l0,rfl,hT,bR⟩;have z1:=bR.size;have gX:=cd.cf bR;generalize pc:bU l=tm at*
 obtain⟨ts,c,p⟩:=tm;dsimp only at hT⊢;have hra:iA l=if c≠0 then(rG,c,p)else if(bM ts 0).2.2.1≠0 then(rG,(bM ts 0).2.2.1,(bM ts 0).2.2.2)else if(tk ts (bM ts 0).2.1.toNat).k≠5 then(rG,4,(tk ts (bM ts 0).2.1.toNat).a)else((bM ts 0).1,0,(bM ts 0).2.2.2):=by
  unfold iA;rw[pc]
 refine⟨l0,_,_,rfl,bR.same (by simp;omega),fun hc k2 w2 qM yj cO n1 n2 n3=>⟨fun k=>k=k2,rfl,fun e=>n2 e,fun e=>n3 e,fun w3 cU=>?_⟩,fun hc k3 w4 yp vL cZ=>?_⟩
 ·have hc:c≠0:=by simpa using hc
  rw[hra,if_pos hc];exact⟨_,rfl,rx0 _ _ _,((gX.cf cO).trans cU fun x hx=>.inr (by simp only[ak,aw,bf]at hx;omega))⟩
 ·have hc:c=0:=by simpa using hc
  rw[if_neg (by simp[hc])]at hra;have z4:=cZ.size;refine(GU (hT.only cZ).sl 0 ⟨by decide,by decide⟩).mono ?_;rintro _ w5 ⟨cs,rfl,hX,hj,eC⟩;have z5:=eC.size;generalize S1:bM ts 0=pa at*
  obtain⟨x,j,c',p'⟩:=pa;dsimp only at hX hj hra⊢;obtain⟨xl,rfl,_⟩:=hX.cells;refine⟨_,_,_,_,_,_,_,_,_,rfl,eC.same (by simp;omega),fun k4 w6 yN FY dD=>?_⟩;have z6:=dD.size;have h6:=((hT.only (cZ.cf eC)).keep (w':=w6) fun k hk bp=>dD.block k bp (by
   have:=hT.blk hk.2;simp only[ae];dsimp only at this;omega))
  have hl6:=h6.len;have ahG:Only [] w w6:=((gX.cf cZ).cf eC).new dD (by omega);have fin:∀{w8 w9:World},Only [k3] w6 w8->Only [k1,k0] w8 w9->Only [] w w9:=fun h8 h9=>(ahG.new h8 (by omega)).trans h9 fun x hx=>.inr (by simp only[ak,aw,bf]at hx;omega);refine⟨fun i9 i10 w7=>Only [k3] w6 w7/\((c'≠0/\i9=c'/\i10=p')∨(c'=0/\(tk ts j.toNat).k≠5/\i9=4/\i10=(tk ts j.toNat).a)∨(c'=0/\(tk ts j.toNat).k=5/\i9=0/\i10=p')),?_,?_⟩
  ·rintro i9 i10 w7 ⟨fg,S6⟩;have z7:=fg.size;refine⟨fun hi w8 fy n1 n2 n3 n4 n5 n6=>⟨fun k=>k=k3,rfl,?_,?_,fun w9 fG=>?_⟩,fun hi cI dm n1 n2 n3 n4 n5 n6=>⟨fun k=>k=k3,rfl,?_,?_,fun cS dx=>?_⟩⟩
   ·intro e;omega
   ·intro e;omega
   ·have hi:i9≠0:=by simpa using hi
    have hr:iA l=(rG,i9,i10):=by
     rw[hra];rcases S6 with⟨a1,rfl,rfl⟩ | ⟨a1,a2,rfl,rfl⟩ | ⟨a1,a2,rfl,rfl⟩
     ·rw[if_pos a1]
     ·rw[if_neg (by simp[a1]),if_pos a2]
     ·exact absurd rfl hi
    rw[hr];exact⟨_,rfl,rx0 _ _ _,fin (fg.cf fy) fG⟩
   ·intro e;omega
   ·intro e;omega
   ·have hi:i9=0:=by simpa using hi
    have hr:iA l=(x,i9,i10):=by
     rw[hra];rcases S6 with⟨a1,rfl,rfl⟩ | ⟨a1,a2,rfl,rfl⟩ | ⟨a1,a2,rfl,rfl⟩
     ·exact absurd hi a1
     ·exact absurd hi (by decide)
     ·rw[if_neg (by simp[a1]),if_neg (by simp[a2])]
    rw[hr];have vM:Only [k3,k1,k0] w5 cS:=(((dD.trans fg fun x hx=>.inl hx).cf dm).weaken (bs':=[k3,k1,k0]) fun x hx=>.inl (by simp only[ae]at hx;simp[hx])).trans dx fun x hx=>.inl (by simp only[ak,aw,bf]at hx⊢;omega);have Eo:=vM.size;exact⟨_,rfl,(hX.only vM fun q hq=>.inl (by simp only[ak,aw,bf]at hq;omega)).wide (by omega) Eo,fin (fg.cf dm) dx⟩
  ·by_cases Bp:c'=0
   ·obtain⟨VF,FL⟩:=hj Bp;obtain⟨n,rfl⟩:∃n:Nat,j=(n:Int):=⟨j.toNat,by omega⟩
    obtain⟨ad,t,cs,g1,g2,g3,g4,g5,g6⟩:=h6.sl.get VF (by omega);rw[az,GR (by omega)]at g2;injection g2 with g2;subst g2;unfold GM at g6;subst g6;rw[az];refine⟨ad,fun _=>g1,(tk ts n).k,fun _=>g5.eo 0 _ rfl,fun hh=>⟨ad,g1,(tk ts n).a,g5.eo 3 _ rfl,fun dK eJ=>⟨eJ,.inr (.inl ⟨Bp,?_,rfl,rfl⟩)⟩⟩,fun hh=>⟨Only.refl _ _,.inr (.inr ⟨Bp,?_,Bp,rfl⟩)⟩⟩
    ·simpa[Bp]using hh
    ·simpa[Bp]using hh
   ·have hb:(c'==0)=false:=by simpa using Bp
    refine⟨⟨0,0,none⟩,fun hh=>(by rw[hb]at hh;cases hh),0,fun hh=>(by rw[hb]at hh;cases hh),fun hh=>(by rw[hb]at hh;cases hh),fun _=>⟨Only.refl _ _,.inl ⟨Bp,rfl,rfl⟩⟩⟩
def vt:Nat->Rp Ex
 | 0=>fun _ _ _ _=>False
 | d+1=>fun w F x cs=>∃sl:Sl,cs=ou x.k x.n x.s x.op sl x.a/\SliceF (vt d) 6 w F sl x.cX
theorem j9:∀d,(vt d).Ok
 | 0=>⟨fun h _=>h.elim,fun h=>h.elim,fun h _=>h.elim,fun h=>h.elim⟩
 | d+1=>⟨fun⟨sl,h1,h2⟩ hk=>⟨sl,h1,SliceF.keep (j9 d) h2 (by decide) hk⟩,fun⟨sl,h1,h2⟩=>⟨sl,h1,SliceF.inHeap (j9 d) h2 (by decide)⟩,fun⟨sl,h1,h2⟩ hk=>⟨sl,h1,SliceF.mono (j9 d) h2 hk⟩,fun⟨sl,h1,h2⟩=>by
  subst h1;intro v hv;simp only[ak,aw,bf]at hv;rcases hv with rfl | rfl | rfl | rfl | rfl | rfl<;>rfl⟩
theorem CL {α:Type} {r q:Rp α} {size:Nat} {w:World} {F:Nat->Prop} {s:Sl} {xs:List α} (h:SliceF r size w F s xs) (hi:∀x cs,x∈xs->r w F x cs->q w F x cs):SliceF q size w F s xs:=
 ⟨h.len,h.cap,h.nil0,h.big,fun j x hx=>by
  obtain⟨base,cs,h1,h2,h3,h4,h5⟩:=h.at_ j x hx;exact⟨base,cs,h1,h2,h3,h4,hi x cs (aE hx) h5⟩⟩
section
variable {w w':World} {F:Nat->Prop} {x y:Ex} {cs ds:List Value}
theorem Ly:∀{d:Nat} {x:Ex} {cs:List Value},vt d w F x cs->vt (d+1) w F x cs
 | 0,_,_,h=>h.elim
 | d+1,x,cs,⟨sl,h1,h2⟩=>⟨sl,h1,CL h2 fun x cs _ h=>Ly h⟩
theorem Lz {d e:Nat} (h:d<=e) (hx:vt d w F x cs):vt e w F x cs:=by
 induction e with
 | zero=>have:d=0:=(by omega);subst this;exact hx
 | succ e ih=>
  by_cases he:d=e+1
  ·subst he;exact hx
  ·exact Ly (ih (by omega))
theorem jz {d:Nat} (h:vt d w F x cs) (hO:Only [] w w'):vt d w' F x cs:=(j9 d).only h hO (by simp)
theorem RXN.ex {N:Nat->Prop} {lo hi:Nat} (h:RXN w N lo hi x cs):∃d,vt d w (fun k=>lo<=k/\k<hi) x cs:=by
 induction h with
 | leaf lo hi k n s op a=>exact⟨1,Sl.nil,rfl,SliceF.nil _ _ _ _⟩
 | one lo m g hi k n s op a x cs h1 h2 h3 h4 hn h5 ih=>
  obtain⟨d,ih⟩:=ih;obtain⟨sl,kK,_⟩:=h1.cells;refine⟨d+1,_,rfl,rfl,aq _,fun h=>(by cases h),(by decide:(1:Nat)<=9223372036854775807),fun j y hj=>?_⟩;have VF:j=0:=by
   have:=(au.1 hj).1;simp only[Ex.cX,aL]at this;omega
  subst VF;simp only[Ex.cX,bm,ai]at hj;subst hj;exact⟨⟨g,0,none⟩,cs,rfl,⟨h2,h4⟩,by rw[kK];rfl,by rw[ki];exact h5.cells 0 cs fun j v hv=>by rw[aJ];exact hv,(j9 d).mono ih fun k hk=>⟨hk.1,by omega⟩⟩
 | two lo m m' m2 g hi k n s op a x y cs ds h1 h2 h3 h4 h5 h6 h7 h8 hn h9 BM En=>
  obtain⟨d1,BM⟩:=BM;obtain⟨d2,En⟩:=En;obtain⟨sl,kK,_⟩:=h1.cells;obtain⟨sl2,Xa,_⟩:=h3.cells;have e1:cs.length=6:=by rw[kK];rfl
  have e2:ds.length=6:=by rw[Xa];rfl
  refine⟨max d1 d2+1,_,rfl,rfl,aq _,fun h=>(by cases h),(by decide:(2:Nat)<=9223372036854775807),fun j y hj=>?_⟩;rcases j with _ | _ | j
  ·simp only[Ex.cX,bm,ai]at hj;subst hj;exact⟨⟨g,0,none⟩,cs,rfl,⟨by dsimp only;omega,h8⟩,e1,by rw[ki];exact h9.cells 0 cs fun j v hv=>by rw[aJ,aR (au.1 hv).1];exact hv,(j9 _).mono (Lz (wu _ _) BM) fun k hk=>⟨hk.1,by omega⟩⟩
  ·simp only[Ex.cX,bQ,bm,ai]at hj;subst hj;exact⟨⟨g,0,none⟩,ds,rfl,⟨by dsimp only;omega,h8⟩,e2,by
    rw[eV];exact h9.cells 6 ds fun j v hv=>by rw[bh (by omega),e1,cT];exact hv,(j9 _).mono (Lz (uJ _ _) En) fun k hk=>⟨by omega,by omega⟩⟩
  ·simp[Ex.cX]at hj
end
def IY (f:Ex->Ex->Bool):List Ex->List Ex->Bool
 | x::xs,y::ys=>f x y&&IY f xs ys
 | _,_=>true
def CM (t:Bool) (x y:Ex):Bool:=(((((x.k !=y.k)||(x.n !=y.n))||(!decide (x.s=y.s)))||(x.op !=y.op))||(t&&(x.a !=y.a)))||((x.cX.length:Int) !=(y.cX.length:Int))
def sL (t:Bool):Nat->Ex->Ex->Bool
 | 0,_,_=>true
 | d+1,x,y=>if CM t x y then false else IY (sL t d) x.cX y.cX
theorem jW (l m:List UInt8):((T l).toList==(T m).toList)=decide (l=m):=Rj l m
theorem qB {d:Nat} {w:World} {F:Nat->Prop} {x:Ex} {cs:List Value} (h:vt d w F x cs):∃sl:Sl,cs=ou x.k x.n x.s x.op sl x.a:=by
 cases d with
 | zero=>exact h.elim
 | succ d=>obtain⟨l,kK,_⟩:=h;exact⟨l,kK⟩
def xn:Nat->Ex->Prop
 | 0,_=>True
 | d+1,x=>x.s.length<4611686018427387903/\∀y,y∈x.cX->xn d y
def qR (f:Ex->Nat):List Ex->Nat
 | []=>0
 | x::xs=>f x+qR f xs
def mL:Nat->Ex->Nat
 | 0,_=>0
 | d+1,x=>1+qR (mL d) x.cX
def lM:Nat->Ex->Prop
 | 0,_=>True
 | d+1,x=>InI x.n/\∀y,y∈x.cX->lM d y
theorem IZ (t:Bool) (x:Ex):CM t x x=false:=by simp[CM]
theorem zg (t:Bool):∀(d:Nat) (x:Ex),sL t d x x=true
 | 0,_=>rfl
 | d+1,x=>by
  rw[sL,if_neg (by rw[IZ];decide)];have:∀l:List Ex,IY (sL t d) l l=true:=fun l=>by
   induction l with
   | nil=>rfl
   | cons y l ih=>rw[IY,zg t d y,ih];rfl
  exact this _
def cN (l:List UInt8):Bool:=decide (l≠[]/\l.length<=24)&&(match l with
 | c::_=>eu c
 | []=>false)&&decide (l.takeWhile dU=l)&&!kP.contains l
theorem LA {w:World} (l:List UInt8) (hl:l.length<9223372036854775807):
  Calls Tryz.prog 85 #[.string (T l)] w fun e w'=>e=.returned (.bool (cN l))/\Only [] w w':=by
 refine ret (afl (T l) (fun v w'=>v=.bool (cN l)/\Only [] w w') w ?_);unfold Za;intro k0 w0 fQ eE cd;have e0:(ByteArray.mk #[])=T []:=rfl;rw[cK,e0,jW];refine⟨fun b s i w'=>b=cN l/\Only [] w w',fun b s i w' h=>⟨by rw[h.1],h.2⟩,fun hc=>?_,fun hc=>⟨?_,cd⟩⟩
 ·simp only[ab,ch,dE,bB]at hc;obtain⟨h1,h2⟩:=hc;have h2:l.length<=24:=by omega
  obtain⟨c,r,rfl⟩:∃c r,l=c::r:=by
   cases l with
   | nil=>exact absurd rfl h1
   | cons c r=>exact⟨c,r,rfl⟩
  have hn:cN (c::r)=(eu c&&decide ((c::r).takeWhile dU=c::r)&&!kP.contains (c::r)):=by
   unfold cN;rw[aZ ⟨h1,h2⟩,dl]
  refine⟨c,⟨jQ _,by rw[uO];rfl⟩,(wY w0 c).mono ?_⟩;rintro _ w2 ⟨rfl,cO⟩;have mS:=cd.cf cO;refine⟨_,rfl,cO.same (by simp;omega),fun hb hB=>?_,fun hb=>⟨by rw[hn,hb];rfl,mS⟩⟩;refine(Lj (i:=0) (r:=[]) hB (aF _) hl).mono ?_;rintro _ w3 ⟨rfl,cU⟩;rw[eL];have wk:Blk w3 k0 195 [.string (T (c::r)),.int .i64 0]:=(cU.block k0 hB.lt (by simp)).trans hB;refine⟨_,rfl,T (c::r),0,wk,?_⟩;rw[jW];refine⟨fun he=>(GN w3).mono ?_,fun he=>⟨?_,mS.cf cU⟩⟩
  ·rintro _ w4 ⟨s,rfl,hs,cZ⟩;have tK:Blk w4 k0 195 [.string (T (c::r)),.int .i64 0]:=(cZ.block k0 wk.lt (by simp)).trans wk;refine⟨s,rfl,T (c::r),0,tK,(pw (sJ hs) (c::r)).mono ?_⟩;rintro _ w5 ⟨rfl,eC⟩;have yh:Blk w5 k0 195 [.string (T (c::r)),.int .i64 0]:=(eC.block k0 tK.lt (by simp)).trans tK;exact⟨_,rfl,_,_,yh,by rw[hn,hb,he];rfl,mS.cf (cU.cf (cZ.cf eC))⟩
  ·rw[hn,hb,he];rfl
 ·unfold cN;rw[aK]
  ·rfl
  ·rintro⟨h1,h2⟩;rw[aK h1,aZ (by omega)]at hc;cases hc
def bE (x:Ex):Int:=if x.k=5 then eW x.op else 6
theorem mo {w:World} {F:Nat->Prop} {x:Ex} {cs:List Value} {d:Nat} (h:vt d w F x cs):Calls Tryz.prog 297 #[.agg cs.toArray] w fun e w'=>e=.returned (.int .i64 (bE x))/\Only [] w w':=by
 cases d with
 | zero=>exact h.elim
 | succ d=>
  obtain⟨sl,rfl,h⟩:=h;refine ret (afC x.k x.n (T x.s) x.op sl x.a (fun v w'=>v=.int .i64 (bE x)/\Only [] w w') w ?_);unfold Zw;refine⟨fun hc k0 w0 _ _ hO=>?_,fun hc k1 w1 hk wj hO=>(EY w1 x.op).mono ?_⟩
  ·have hc:x.k≠5:=by simpa using hc
   rw[bE,if_neg hc];exact⟨rfl,hO⟩
  ·rintro _ w2 ⟨rfl,rfl⟩;have hc:x.k=5:=by simpa using hc
   rw[bE,if_pos hc];exact⟨_,rfl,fun _ _=>rfl,rfl,hO⟩
def T5 (n:Int) (s:List UInt8) (op len:Int) (x:Ex):Bool:=((((x.n==n)&&decide (x.s=s))&&(x.op==op))&&((x.cX.length:Int)==len))
def gu (x:Ex):Bool:=
 if x.k=1 then T5 (if 0>x.n then 0 else x.n) [] 0 0 x
 else if x.k=2∨x.k=3 then cN x.s&&T5 0 x.s 0 0 x
 else if x.k=4 then T5 0 [] (if x.op=15 then 15 else 14) 1 x
 else if x.k=5 then !(eW x.op==6)&&T5 0 [] x.op 2 x
 else false
def jA (f:Ex->Bool):List Ex->Bool
 | []=>true
 | x::xs=>f x&&jA f xs
def cE:Nat->Ex->Bool
 | 0,_=>false
 | d+1,x=>gu x&&jA (cE d) x.cX
theorem I0 {f:Ex->Bool} {xs:List Ex} {n:Nat} {x:Ex} (hx:xs[n]? =some x):jA f (xs.drop n)=(f x&&jA f (xs.drop (n+1))):=by
 rw[rX (au.1 hx).1,(au.1 hx).2,jA]
abbrev ShD (d:Nat):Prop:=∀{w:World} {F:Nat->Prop} {x:Ex} {cs:List Value},xn d x->vt d w F x cs->Calls Tryz.prog 262 #[.agg cs.toArray] w fun e w'=>e=.returned (.bool (cE d x))/\Only [] w w'
theorem LB {d:Nat} (hS:ShD d) {w:World} {F:Nat->Prop} {x:Ex} {cs:List Value} (hl:xn d x) (h:vt d w F x cs):Calls Tryz.prog 295 #[.agg cs.toArray] w fun e w'=>e=.returned (.bool (!cE d x))/\Only [] w w':=by
 obtain⟨sl,rfl⟩:=qB h;refine ret (afA x.k x.n (T x.s) x.op sl x.a (fun v w'=>v=.bool (!cE d x)/\Only [] w w') w ?_);unfold Zs;intro k0 w0 hk wj hO;refine(hS hl (jz h hO)).mono ?_;rintro _ w1 ⟨rfl,bR⟩;exact⟨_,rfl,bR.same (by simp;omega),rfl,hO.cf bR⟩
theorem LC {d:Nat} (hS:ShD d) {w:World} {F:Nat->Prop} {l:Sl} {xs:List Ex} (hl:∀y,y∈xs->xn d y) (h:SliceF (vt d) 6 w F l xs):Calls Tryz.prog 310 #[l.v,.func (.func 295) #[] #[]] w fun e w'=>∃i:Int,e=.returned (.int .i64 i)/\decide (i>=0)=!jA (cE d) xs/\Only [] w w':=by
 refine(afz l ⟨.func (.func 295) #[] #[],rfl⟩ (fun v w'=>∃i:Int,v=.int .i64 i/\decide (i>=0)=!jA (cE d) xs/\Only [] w w') w ?_).mono (by
  rintro e w' ⟨v,rfl,i,rfl,h⟩;exact⟨i,rfl,h⟩)
 unfold Zr;have dN:=h.len;have rU:=h.big;have nT:=h.cap;refine⟨fun nv i w'=>∃n:Nat,n<=xs.length/\i=(n:Int)/\nv=xs.length-n/\jA (cE d) xs=jA (cE d) (xs.drop n)/\Only [] w w',xs.length,⟨0,aF _,rfl,rfl,rfl,Only.refl _ _⟩,?_⟩;rintro nv _ w0 ⟨n,hn,rfl,rfl,ij,cd⟩;refine⟨fun hc=>?_,fun hc=>?_⟩
 ·have bp:(n:Int)<l.n:=aj hc;obtain⟨ad,x,cs,g1,g2,g3,g4,g5,g6⟩:=(SliceF.only (j9 d) (by decide) h cd (by simp)).get (aG n) bp;rw[az]at g2;obtain⟨sl,rfl⟩:=qB g6;refine⟨ad,g1,_,_,_,_,_,_,g5,295,[],[],rfl,gr (by kernel_rfl),?_⟩;refine(LB hS (hl x (aE g2)) g6).mono ?_;rintro _ w1 ⟨rfl,bR⟩;have oJ:=I0 (f:=cE d) g2;refine⟨_,rfl,fun hb=>⟨_,rfl,?_,cd.cf bR⟩,fun hb=>⟨xs.length-(n+1),by omega,n+1,by omega,by rw[gV (by omega) (by omega)];rfl,rfl,?_,cd.cf bR⟩⟩
  ·have hb:cE d x=false:=by simpa using hb
   rw[ij,oJ,hb,dI,Bool.not_false];exact aZ (aG n)
  ·have hb:cE d x=true:=by simpa using hb
   rw[ij,oJ,hb,dl]
 ·have yg:¬(n:Int)<l.n:=ar hc;refine⟨_,rfl,?_,cd⟩;rw[ij,du (by omega)];rfl
theorem CN {d:Nat} (hS:ShD d) {w:World} {F:Nat->Prop} {l:Sl} {xs:List Ex} (hl:∀y,y∈xs->xn d y) (h:SliceF (vt d) 6 w F l xs):Calls Tryz.prog 294 #[l.v,.func (.func 295) #[] #[]] w fun e w'=>e=.returned (.bool (!jA (cE d) xs))/\Only [] w w':=by
 refine ret (afy l ⟨.func (.func 295) #[] #[],rfl⟩ (fun v w'=>v=.bool (!jA (cE d) xs)/\Only [] w w') w ?_);unfold Zp;refine(LC hS hl h).mono ?_;rintro _ w0 ⟨i,rfl,h1,h2⟩;exact⟨_,rfl,by rw[h1],h2⟩
theorem GV:∀d,ShD d
 | 0,_,_,_,_,_,h=>h.elim
 | d+1,w,F,x,cs,⟨OB,hl⟩,⟨sl,h1,h2⟩=>by
  subst h1;refine ret (afx x.k x.n (T x.s) x.op sl x.a (fun v w'=>v=.bool (cE (d+1) x)/\Only [] w w') w ?_);unfold Zo;intro k0 k1 w0 fQ eE kJ jp cd;have z0:=cd.size;have hn:=h2.len;have hs:∀{b:Bool},gu x=b->cE (d+1) x=(b&&jA (cE d) x.cX):=fun e=>by rw[cE,e]
  have own:∀{w1 w2:World},Only [] w w1->Only [k1] w1 w2->Only [] w w2:=fun h1 h2=>h1.new h2 kJ;refine⟨fun i0 i1 i2 s0 i3 l0 i4 w1=>∃s,s0=T s/\gu x=T5 i2 s i3 i0 x/\Only [] w w1/\w0.heap.size<=w1.heap.size,?_,fun hk w4 cZ=>⟨[],rfl,?_,own cd cZ,cZ.size⟩,fun hk=>?_⟩
  ·rintro i0 i1 i2 _ i3 l0 i4 w1 ⟨s,rfl,he,bR,z1⟩;have hc:((((x.n==i2)&&((T x.s).toList==(T s).toList))&&(x.op==i3))&&((sl.n:Int)==i0))=gu x:=by
    rw[he,jW,hn];rfl
   rw[hc];refine⟨fun b w'=>b=cE (d+1) x/\Only [] w w',?_,fun hh=>(CN (GV d) hl (SliceF.only (j9 d) (by decide) h2 bR (by simp))).mono ?_,fun hh=>⟨by rw[hs hh,dI],bR⟩⟩
   ·rintro _ w2 ⟨rfl,h⟩;exact⟨rfl,h⟩
   ·rintro _ w3 ⟨rfl,cU⟩;exact⟨_,rfl,cU.same (by simp;omega),by rw[hs hh,dl,Bool.not_not],bR.cf cU⟩
  ·have hk:x.k=1:=by simpa using hk
   rw[gu,if_pos hk]
  ·have kJ:x.k≠1:=by simpa using hk
   refine⟨fun b w'=>b=decide (x.k=2∨x.k=3)/\w'=w0,?_,fun qM=>⟨?_,rfl⟩,fun qM=>⟨?_,rfl⟩⟩
   ·rintro _ _ ⟨rfl,rfl⟩;refine⟨fun hk=>(LA x.s (by omega)).mono ?_,fun hk=>⟨fun yN=>⟨fun ho w8 fy=>⟨[],rfl,?_,own cd fy,fy.size⟩,fun ho w9 fG=>⟨[],rfl,?_,own cd fG,fG.size⟩⟩,fun yN=>⟨fun uG=>(EY _ x.op).mono ?_,fun uG=>⟨?_,cd⟩⟩⟩⟩
    ·rintro _ w6 ⟨rfl,dD⟩;have z6:=dD.size;have hk:=aj hk;refine⟨_,rfl,dD.same (by simp;omega),fun hb=>⟨?_,cd.cf dD⟩,fun hb w7 fg=>⟨x.s,rfl,?_,own (cd.cf dD) fg,by have:=fg.size;omega⟩⟩
     ·have hb:cN x.s=false:=by simpa using hb
      rw[hs (b:=false) (by rw[gu,if_neg kJ,if_pos hk,hb,dI]),dI]
     ·have hb:cN x.s=true:=by simpa using hb
      rw[gu,if_neg kJ,if_pos hk,hb,dl]
    ·have hk:=ar hk;have yN:x.k=4:=by simpa using yN
     have ho:x.op=15:=by simpa using ho
     rw[gu,if_neg kJ,if_neg hk,if_pos yN,if_pos ho]
    ·have hk:=ar hk;have yN:x.k=4:=by simpa using yN
     have ho:x.op≠15:=by simpa using ho
     rw[gu,if_neg kJ,if_neg hk,if_pos yN,if_neg ho]
    ·rintro _ cI ⟨rfl,rfl⟩;have hk:=ar hk;have yN:x.k≠4:=by simpa using yN
     have uG:x.k=5:=by simpa using uG
     refine⟨_,rfl,fun _ _=>rfl,fun hb=>⟨?_,cd⟩,fun hb cS dx=>⟨[],rfl,?_,own cd dx,dx.size⟩⟩
     ·rw[hs (b:=false) (by rw[gu,if_neg kJ,if_neg hk,if_neg yN,if_pos uG,hb,Bool.not_true,dI]),dI]
     ·rw[gu,if_neg kJ,if_neg hk,if_neg yN,if_pos uG,hb,Bool.not_false,dl]
    ·have hk:=ar hk;have yN:x.k≠4:=by simpa using yN
     have uG:x.k≠5:=by simpa using uG
     rw[hs (b:=false) (by rw[gu,if_neg kJ,if_neg hk,if_neg yN,if_neg uG]),dI]
   ·have qM:x.k=2:=by simpa using qM
    rw[qM];rfl
   ·have qM:x.k≠2:=by simpa using qM
    rw[br];simp[qM]
def Tb (w:World):Prop:=Lib.TabIs Tryz.prog w "internal/strconv.uint64pow10" .u64 Lib.pow10Tab
theorem tb_num:Tryz.prog.globalNamed "internal/strconv.uint64pow10" =some 3:=by kernel_rfl
theorem Tb.keep {w w':World} (h:Tb w) (hk:3<w.heap.size->w'.heap[3]? =w.heap[3]?):Tb w':=by
 unfold Tb Lib.TabIs World.var? at h⊢;rw[tb_num]at h⊢;simp only[kj]at h⊢;rw[hk]
 ·exact h
 ·refine aP fun hn=>?_;rw[dP (by omega)]at h;cases h
theorem Tb.lt {w:World} (h:Tb w):3<w.heap.size:=by
 unfold Tb Lib.TabIs World.var? at h;rw[tb_num]at h;simp only[kj]at h;refine aP fun hn=>?_;rw[dP (by omega)]at h;cases h
theorem Tb.only {w w':World} (h:Tb w) (hO:Only [] w w'):Tb w':=h.keep fun bp=>hO.block _ bp (by simp)
theorem Only.grown (w:World) (k:Nat) (os:Array Obj):Only [] w (Go.Sort.grow (w.drewN k) os):=⟨rfl,rfl,rfl,by simp[Go.Sort.grow],fun q hq _=>by
 simp only[Go.Sort.grow,World.heap_drewN];rw[Array.getElem?_append_left hq]⟩
theorem vX {w:World} (n:Int) (hn:InI n) (hT:Tb w):Calls Tryz.prog 40 #[.int .i64 n] w fun e w'=>e=.returned (.string (T (Lib.itoa n)))/\Only [] w w':=by
 refine ret (v1w n (fun v w'=>v=.string (T (Lib.itoa n))/\Only [] w w') w ?_);unfold v1v;refine(Tryz.strconv_Itoa n hn.1 hn.2 w hT).mono ?_;rintro _ w0 ⟨rfl,k,os,rfl⟩;exact⟨_,rfl,rfl,Only.grown _ _ _⟩
def Bf (w:World) (B:Nat) (s:Sl) (l:List UInt8):Prop:=
 (s=Sl.nil/\l=[])∨∃g tail,s.a=some ⟨g,0,none⟩/\B<=g/\Blk w g 5 (l.map eN++tail)/\tail.length=s.c-s.n/\s.n=l.length/\s.n<=s.c/\s.c<=9223372036854775807/\0<s.c
theorem Bf.len {w:World} {B:Nat} {s:Sl} {l:List UInt8} (h:Bf w B s l):s.n=l.length:=by
 rcases h with⟨rfl,rfl⟩ | ⟨g,tail,_,_,_,_,h,_⟩
 ·rfl
 ·exact h
theorem Bf.lt {w:World} {B:Nat} {s:Sl} {l:List UInt8} (h:Bf w B s l) {g:Nat} (hg:s.a=some ⟨g,0,none⟩):B<=g/\g<w.heap.size:=by
 rcases h with⟨rfl,rfl⟩ | ⟨g',tail,h1,h2,h3,_⟩
 ·cases hg
 ·rw[hg]at h1;injection h1 with h1;injection h1 with h1;subst h1;exact⟨h2,h3.lt⟩
theorem Bf.keep {w w':World} {B:Nat} {s:Sl} {l:List UInt8} (h:Bf w B s l) (hk:∀g,s.a=some ⟨g,0,none⟩->g<w.heap.size->w'.heap[g]? =w.heap[g]?):Bf w' B s l:=by
 rcases h with h | ⟨g,tail,h1,h2,h3,h4⟩
 ·exact .inl h
 ·exact .inr ⟨g,tail,h1,h2,(hk g h1 h3.lt).trans h3,h4⟩
theorem aad (l:List UInt8):Lib.strCells (T l)=l.map eN:=rfl
theorem CO:Tryz.prog.underlying 68=some (.slice 5):=by kernel_rfl
theorem T6:Tryz.prog.underlying 9=some .string:=by kernel_rfl
theorem GW:Tryz.prog.info? 5=some Tryz.t5:=by kernel_rfl
theorem GX {w:World} {B:Nat} {s:Sl} {l:List UInt8} (h:Bf w B s l) (m:List UInt8) (hB:B<=w.heap.size) (hm:l.length+m.length<=140737488355328):
  ∃s' w',(Builtin.append_ #[68,9] 68 #[s.v,.string (T m)]).run Tryz.prog w=.ok s'.v w'/\Bf w' B s' (l++m)/\OnlyP (fun k=>s.a=some ⟨k,0,none⟩) w w'/\(s'.a=s.a∨s'.a=some ⟨w.heap.size,0,none⟩):=by
 have ht:=CO;have hu:=T6;have hi:=GW;have NC:Tryz.t5.size=1:=rfl;have yL:Tryz.t5.bytes=1:=rfl;have hz:Tryz.t5.zero=some (.int .u8 0):=rfl;have hsz:(T m).size=m.length:=cK m;have grown:∀(dL old:Nat),dL=l.length+m.length->0<l.length+m.length->∀cells:Array Value,cells=((l++m).map eN).toArray++Builtin.zeroCells (Value.int .u8 0).cells (grownCap w dL old 5-dL)->
   Bf (w.drew.alloc (.cells cells 5)) B ⟨some ⟨w.heap.size,0,none⟩,dL,grownCap w dL old 5⟩ (l++m)/\OnlyP (fun k=>s.a=some ⟨k,0,none⟩) w (w.drew.alloc (.cells cells 5)):=by
  rintro dL old rfl h0 cells rfl;have hO:Only [] w (w.drew.alloc (.cells (((l++m).map eN).toArray++Builtin.zeroCells (Value.int .u8 0).cells (grownCap w (l.length+m.length) old 5-(l.length+m.length))) 5)):=(Only.drew w).cf (Only.alloc _ _);refine⟨.inr ⟨w.heap.size,(Builtin.zeroCells (Value.int .u8 0).cells (grownCap w (l.length+m.length) old 5-(l.length+m.length))).toList,rfl,hB,?_,?_,by simp,grownCap_ge _ _ _ _,grownCap_le_maxLen _ _ _ _ (by simp only[maxLen];omega),bC h0 (grownCap_ge _ _ _ _)⟩,hO.p0⟩
  ·have e:∀(x:List Value) (z:Array Value),x.toArray++z=(x++z.toList).toArray:=fun x z=>by simp
   rw[e];exact Blk.alloc w.drew 5 _
  ·exact(si w _ (size:=1) rfl).trans (rY _)
 rcases h with⟨rfl,rfl⟩ | ⟨g,tail,h1,h2,h3,h4,h5,h6,h7,h8⟩
 ·cases m with
  | nil=>
   refine⟨Sl.nil,w,?_,.inl ⟨rfl,rfl⟩,OnlyP.refl _ _,.inl rfl⟩;have hf:=Lib.run_firstCells_string (P:=Tryz.prog) w 1 (T []);have h0:(T []).size=0:=rfl;rw[h0]at hf;simp[Sl.nil,Sl.v,Builtin.append_,run_underlying ht,run_underlying hu,sizeOf,typeInfo,hi,NC,Builtin.lenOf,h0,hf]
  | cons c m=>
   have hr:=run_append_nil_string (P:=Tryz.prog) w 68 9 68 5 Tryz.t5 (.int .u8 0) ht hu hi hz (T (c::m)) (by rw[hsz];simp) (by rw[hsz];omega) (by rw[hsz,yL];omega);rw[hsz]at hr;obtain⟨g1,g2⟩:=grown (c::m).length 0 (by simp) (by simp) _ rfl;have e1:(T (c::m)).data.map (fun b=>Value.int .u8 b.toNat)=(List.map eN ([]++c::m)).toArray:=by
    apply JL.1;rw[Array.toList_map,dS];rfl
   rw[e1]at hr;exact⟨_,_,hr,g1,g2,.inr rfl⟩
 ·obtain⟨sa,sn,sc⟩:=s;dsimp only at h1 h4 h5 h6 h7 h8;subst h1;by_cases nR:sn+m.length<=sc
  ·have hb3:=h3;unfold Blk at h3;have hr:=Lib.run_append_room_string (P:=Tryz.prog) w 68 9 68 5 Tryz.t5 ht hu hi NC g sn sc _ h3 (T m) (by rw[hsz];exact nR) (by
    rw[hsz,jr,ah,aQ];omega)
   rw[hsz,aad]at hr;refine⟨⟨some ⟨g,0,none⟩,sn+m.length,sc⟩,_,hr,.inr ⟨g,tail.drop m.length,rfl,h2,?_,?_,by dsimp only;rw[ah];omega,nR,h7,h8⟩,(Only.setRow w g _).p fun x hx=>.inl (by simp only[ae]at hx;rw[hx]),.inl rfl⟩
   ·have:=hb3.setRow ((l++m).map eN++tail.drop m.length);have e:((l.map eN++tail).toArray.toList.take sn++m.map eN++(l.map eN++tail).toArray.toList.drop (sn+m.length))=(l++m).map eN++tail.drop m.length:=by
     rw[dS,Kg (by rw[aQ];omega),aO (by rw[aQ];omega),List.drop_append,du (by rw[aQ];omega),aV,aQ,cq,h5,cT]
    rw[e];exact this
   ·rw[bK];dsimp only;omega
  ·have NT:∀j v,(l.map eN)[j]? =some v->w.cell? ((⟨g,0,none⟩:Addr).add j)=some v:=fun j v hj=>h3.cells 0 (l.map eN) (fun j v hj=>by rw[aJ,aR (au.1 hj).1];exact hj) j v hj;have hr:=Lib.run_append_grow_string (P:=Tryz.prog) w 68 9 68 5 Tryz.t5 (.int .u8 0) ht hu hi hz ⟨g,0,none⟩ sn sc (l.map eN) (by rw[NC,aQ];omega) NT (T m) (by rw[hsz];omega) (by rw[hsz];omega) (growslice_fits (by rw[hsz];omega) (by rw[hsz,yL];omega));rw[hsz,aad]at hr;obtain⟨g1,g2⟩:=grown (sn+m.length) sc (by omega) (by omega) _ rfl;refine⟨_,_,hr.trans ?_,g1,g2,.inr rfl⟩;simp[cq]
theorem Sa (w:World) (F:Nat->Prop):∀l:List UInt8,kY gN 1 w F l (l.map fun b=>[eN b])
 | []=>trivial
 | c::l=>⟨⟨rfl,rfl⟩,Sa w F l⟩
theorem LD:∀l:List UInt8,(l.map fun b=>[eN b]).flatten=l.map eN
 | []=>rfl
 | c::l=>by rw[aI,bT,LD l];rfl
theorem CP {w:World} {F:Nat->Prop}:∀{l:List UInt8} {css:List (List Value)},kY gN 1 w F l css->css.flatten=l.map eN
 | [],[],_=>rfl
 | c::l,d::css,h=>by
  obtain⟨⟨_,h1⟩,h2⟩:=h;unfold gN at h1;subst h1;rw[bT,CP h2];rfl
theorem Bf.own {w:World} {B:Nat} {s:Sl} {l:List UInt8} (h:Bf w B s l) (F:Nat->Prop):Own gN 1 5 B w F s l:=by
 rcases h with h | ⟨g,tail,h1,h2,h3,h4,h5,h6,h7,_⟩
 ·exact .inl h
 ·exact .inr ⟨g,l.map fun b=>[eN b],tail,h1,h2,by rw[LD];exact h3,by rw[rY];exact h4,h5,h6,h7,Sa _ _ _⟩
theorem Bf.of {w:World} {B:Nat} {s:Sl} {l:List UInt8} {F:Nat->Prop} (h:Own gN 1 5 B w F s l) (h0:0<l.length):Bf w B s l:=by
 rcases h with h | ⟨g,css,tail,h1,h2,h3,h4,h5,h6,h7,h8⟩
 ·exact .inl h
 ·exact .inr ⟨g,tail,h1,h2,by rw[<-CP h8];exact h3,by rw[h4,rY],h5,h6,h7,by omega⟩
structure Pg (G:Nat->Prop) (w:World) (b:Nat) (sl sn:Sl) (l:List UInt8):Prop where
 blk:∃q:Option Addr,(q=none∨q=some ⟨b,0,none⟩)/\Blk w b 288 [.pointer q,sl.v,sn.v]
 buf:Bf w (b+1) sl l
 sig:SliceF jJ 1 w G sn yF
 hG:∀k,G k->k<b
def pD (b:Nat) (sl:Sl) (w:World) (mZ:Sl) (w':World):Prop:=OnlyP (fun k=>k=b∨sl.a=some ⟨k,0,none⟩) w w'/\∀k,mZ.a=some ⟨k,0,none⟩->sl.a=some ⟨k,0,none⟩∨w.heap.size<=k
theorem pD.refl (b:Nat) (sl:Sl) (w:World):pD b sl w sl w:=⟨OnlyP.refl _ _,fun _ h=>.inl h⟩
theorem pD.trans {b:Nat} {sl mZ ab8:Sl} {w w' rQ:World} (h:pD b sl w mZ w') (k:pD b mZ w' ab8 rQ):pD b sl w ab8 rQ:=by
 have z:=h.1.size;refine⟨h.1.trans k.1 fun x hx=>?_,fun x hx=>?_⟩
 ·rcases hx with hx | hx
  ·exact .inl (.inl hx)
  ·rcases h.2 x hx with e | e
   ·exact .inl (.inr e)
   ·exact .inr e
 ·rcases k.2 x hx with e | e
  ·exact h.2 x e
  ·exact .inr (by omega)
theorem pD.only {b:Nat} {sl:Sl} {w w':World} (h:Only [] w w'):pD b sl w sl w':=⟨h.p0,fun _ h=>.inl h⟩
theorem pD.same {b:Nat} {sl mZ:Sl} {w w':World} (h:pD b sl w mZ w') {k:Nat} (hk:k≠b) (hs:sl.a≠some ⟨k,0,none⟩) (hl:k<w.heap.size):aD [k] w w':=h.1.same (by
 intro x hx;simp only[ae]at hx;subst hx;exact⟨hl,fun e=>e.elim hk hs⟩)
theorem Pg.only {G:Nat->Prop} {w w':World} {b:Nat} {sl sn:Sl} {l:List UInt8} (h:Pg G w b sl sn l) (hO:Only [] w w'):Pg G w' b sl sn l:=by
 obtain⟨q,hq,hB⟩:=h.blk;exact⟨⟨q,hq,hO.blk hB (by simp)⟩,h.buf.keep fun g _ hl=>hO.block g hl (by simp),SliceF.only cL (by decide) h.sig hO (by simp),h.hG⟩
theorem Pg.lb {G:Nat->Prop} {w:World} {b:Nat} {sl sn:Sl} {l:List UInt8} (h:Pg G w b sl sn l):b<w.heap.size:=by
 obtain⟨q,hq,hB⟩:=h.blk;exact hB.lt
theorem Sb (v:Value) (w:World):(IK 211 #[v]).run Tryz.prog w=.ok v w:=by
 unfold IK;rw[Sem.run_bind,run_callFunc_extern Tryz.func211 (by kernel_rfl) (by kernel_rfl) (by kernel_rfl) (e:=Extern.AbiNoEscape.same) (by kernel_rfl)];rw[Lib.run_noEscape];rfl
theorem GY {w:World} {b:Nat} {q:Option Addr} {sl sn:Sl} (hq:q=none∨q=some ⟨b,0,none⟩) (h:Blk w b 288 [.pointer q,sl.v,sn.v]):
  Calls Tryz.prog 145 #[.pointer (some ⟨b,0,none⟩)] w fun e w'=>e=.returned (.tuple #[])/\Only [b] w w'/\Blk w' b 288 [.pointer (some ⟨b,0,none⟩),sl.v,sn.v]:=by
 refine ret (R6 ⟨b,0,none⟩ (fun v w'=>v=.tuple #[]/\Only [b] w w'/\Blk w' b 288 [.pointer (some ⟨b,0,none⟩),sl.v,sn.v]) w ?_);unfold Lc;have tJ:w.shape? b=some (288,3):=by
  unfold World.shape?;unfold Blk at h;rw[h];rfl
 refine⟨q,Blk.eo h 0 rfl,fun hn=>?_,fun hn=>⟨q,Blk.eo h 0 rfl,?_⟩⟩
 ·have hr1:=Lib.run_to_unsafe (P:=Tryz.prog) (src:=67) (dst:=248) w ⟨b,0,none⟩ (t:=70) (j:=Tryz.t70) (by kernel_rfl) (by kernel_rfl) (by kernel_rfl) (by decide) tJ (by decide:(0:Nat)<3);have hr2:=Lib.run_from_unsafe (P:=Tryz.prog) (src:=248) (dst:=67) w ⟨b,0,none⟩ (u:=70) (j:=Tryz.t70) (by kernel_rfl) (by kernel_rfl) (by kernel_rfl) tJ (by kernel_rfl);exact⟨⟨.pointer (some ⟨b,0,none⟩),rfl⟩,w,hr1,⟨.pointer (some ⟨b,0,none⟩),rfl⟩,w,Sb _ w,some ⟨b,0,none⟩,w,hr2,b,0,_,_,rfl,h,by simp,fun w3 hO hB=>⟨rfl,hO,hB⟩⟩
 ·rcases hq with rfl | rfl
  ·cases hn
  ·exact⟨false,w,Lib.run_neq_ptr_same w _ (te:=70) (j:=Tryz.t70) (by kernel_rfl) (by kernel_rfl),fun e=>(by cases e),fun _=>⟨rfl,Only.refl _ _,h⟩⟩
section
variable {G:Nat->Prop} {w:World} {b:Nat} {sl sn:Sl} {l:List UInt8}
theorem T7 (h:Pg G w b sl sn l):Calls Tryz.prog 91 #[.pointer (some ⟨b,0,none⟩)] w fun e w'=>e=.returned (.int .i64 (l.length:Int))/\w'=w:=by
 refine ret (R0 ⟨b,0,none⟩ (fun v w'=>v=.int .i64 (l.length:Int)/\w'=w) w ?_);unfold La;obtain⟨q,hq,hB⟩:=h.blk;exact⟨sl,Blk.eo hB 1 rfl,by rw[h.buf.len],rfl⟩
theorem mM (h:Pg G w b sl sn l) (m:List UInt8) (hm:l.length+m.length<=140737488355328):Calls Tryz.prog 82 #[.pointer (some ⟨b,0,none⟩),.string (T m)] w fun e w'=>
  ∃mZ,e=.returned (.tuple #[.int .i64 (m.length:Int),.nilIface])/\Pg G w' b mZ sn (l++m)/\pD b sl w mZ w':=by
 refine(R5 ⟨b,0,none⟩ (T m) (fun v w'=>∃mZ,v=.tuple #[.int .i64 (m.length:Int),.nilIface]/\Pg G w' b mZ sn (l++m)/\pD b sl w mZ w') w ?_).mono (by
  rintro e w' ⟨v,rfl,s,rfl,h⟩;exact⟨s,rfl,h⟩)
 unfold Lb;obtain⟨q,hq,hB⟩:=h.blk;refine(GY hq hB).mono ?_;rintro _ w0 ⟨rfl,cd,wm⟩;have z0:=cd.size;have hb:=hB.lt;have tL:Bf w0 (b+1) sl l:=h.buf.keep fun g hg hl=>cd.block g hl (by have:=(h.buf.lt hg).1;simp;omega);obtain⟨s',w1,k1,k2,k3,k4⟩:=GX tL m (by omega) hm;have z1:=k3.size;have vG:Blk w1 b 288 [.pointer (some ⟨b,0,none⟩),sl.v,sn.v]:=k3.blk wm fun e=>by have:=(tL.lt e).1;omega
 have zL:∀g,s'.a=some ⟨g,0,none⟩->b<g:=fun g hg=>by
  rcases k4 with e | e
  ·rw[e]at hg;exact(tL.lt hg).1
  ·rw[e]at hg;injection hg with hg;injection hg with hg;omega
 refine⟨rfl,sl,Blk.eo wm 1 rfl,s',w1,k1,b,1,_,_,rfl,vG,by simp,fun w2 cO ru=>⟨s',by rw[cK],⟨⟨_,.inr rfl,ru⟩,k2.keep fun g hg hl=>cO.block g hl (by have:=zL g hg;simp;omega),?_,h.hG⟩,?_,?_⟩⟩
 ·have h0:=SliceF.only cL (by decide) h.sig cd fun k hk _ hm=>by have:=h.hG k hk;simp only[ae]at hm;omega
  have h1:=SliceF.tE cL (by decide) h0 k3 fun k hk _ hm=>by have:=h.hG k hk;have:=(tL.lt hm).1;omega
  exact SliceF.only cL (by decide) h1 cO fun k hk _ hm=>by have:=h.hG k hk;simp only[ae]at hm;omega
 ·refine((cd.p (F:=fun k=>k=b∨sl.a=some ⟨k,0,none⟩) fun x hx=>.inl (.inl (by simpa using hx))).trans k3 fun k hk=>.inl (.inr hk)).trans (cO.p (F:=fun k=>k=b) fun x hx=>.inl (by simpa using hx)) fun k hk=>.inl (.inl hk)
 ·intro k hk;rcases k4 with e | e
  ·rw[e]at hk;exact .inl hk
  ·rw[e]at hk;injection hk with hk;injection hk with hk;exact .inr (by omega)
theorem Sc (h:Pg G w b sl sn l) (c:UInt8) (hm:l.length+1<=140737488355328):GJ ⟨b,0,none⟩ (c.toNat:Int) (fun v w'=>∃mZ,v=.nilIface/\Pg G w' b mZ sn (l++[c])/\pD b sl w mZ w') w:=by
 unfold GJ;obtain⟨q,hq,hB⟩:=h.blk;refine(GY hq hB).mono ?_;rintro _ w0 ⟨rfl,cd,wm⟩;have z0:=cd.size;have hb:=hB.lt;have tL:Bf w0 (b+1) sl l:=h.buf.keep fun g hg hl=>cd.block g hl (by have:=(h.buf.lt hg).1;simp;omega);obtain⟨y,w1,k1,k2,k3,_⟩:=ud w0 [c] (n:=1) (parts:=#[(0,.int .u8 (c.toNat:Int))]) rfl rfl (by decide) (by decide);have z1:=k3.size;have aca:Bf w1 (b+1) sl l:=tL.keep fun g hg hl=>k3.block g hl (by simp);obtain⟨s',w2,m1,m2,gs,m3,m4,m5⟩:=vO (P:=Tryz.prog) (t:=68) (ty:=68) (e:=5) (i:=Tryz.t5) (bytes:=1) (size:=1) (r:=gN) CO GW rfl rfl rfl rfl su (aca.own fun _=>True) ((y9 k2).mono su fun k hk=>⟨trivial,fun e=>by have:=(tL.lt e).2;have:=hk.1;omega⟩) (by omega) (by rw[aL];omega) (by decide);have z2:=m3.size;have cO:OnlyP (fun k=>sl.a=some ⟨k,0,none⟩) w1 w2:=m3.p fun x hx=>.inl (m4 x hx).1;have ru:Blk w2 b 288 [.pointer (some ⟨b,0,none⟩),sl.v,sn.v]:=cO.blk (k3.blk wm (by simp)) fun e=>by have:=(tL.lt e).1;omega
 have zL:∀g,s'.a=some ⟨g,0,none⟩->b<g:=fun g hg=>by
  rcases m5 with e | e
  ·rw[e]at hg;exact(tL.lt hg).1
  ·rw[e]at hg;injection hg with hg;injection hg with hg;omega
 refine⟨rfl,sl,Blk.eo wm 1 rfl,y,w1,k1,s',w2,m1,b,1,_,_,rfl,ru,by simp,fun w3 cU wk=>⟨s',rfl,⟨⟨_,.inr rfl,wk⟩,(Bf.of m2 (by simp)).keep fun g hg hl=>cU.block g hl (by have:=zL g hg;simp;omega),?_,h.hG⟩,?_,?_⟩⟩
 ·have h0:=SliceF.only cL (by decide) h.sig (cd.cf k3) fun k hk _ hm=>by have:=h.hG k hk;simp only[ae]at hm;omega
  have h1:=SliceF.tE cL (by decide) h0 cO fun k hk _ hm=>by have:=h.hG k hk;have:=(tL.lt hm).1;omega
  exact SliceF.only cL (by decide) h1 cU fun k hk _ hm=>by have:=h.hG k hk;simp only[ae]at hm;omega
 ·refine(((cd.cf k3).p (F:=fun k=>k=b∨sl.a=some ⟨k,0,none⟩) fun x hx=>.inl (.inl (by simpa using hx))).trans cO fun k hk=>.inl (.inr hk)).trans (cU.p (F:=fun k=>k=b) fun x hx=>.inl (by simpa using hx)) fun k hk=>.inl (.inl hk)
 ·intro k hk;rcases m5 with e | e
  ·rw[e]at hk;exact .inl hk
  ·rw[e]at hk;injection hk with hk;injection hk with hk;exact .inr (by omega)
theorem PT (h:Pg G w b sl sn l) (c:UInt8) (hm:l.length+1<=140737488355328):Calls Tryz.prog 296 #[.pointer (some ⟨b,0,none⟩),.int .u8 (c.toNat:Int)] w fun e w'=>
 ∃mZ,e=.returned .nilIface/\Pg G w' b mZ sn (l++[c])/\pD b sl w mZ w':=(Zv _ _ _ w (Sc h c hm)).mono (by
 rintro e w' ⟨v,rfl,s,rfl,h⟩;exact⟨s,rfl,h⟩)
theorem PU (h:Pg G w b sl sn l) (c:UInt8) (hm:l.length+1<=140737488355328):iZ Tryz.prog 296 #[.pointer (some ⟨b,0,none⟩),.int .u8 (c.toNat:Int)] w fun v w'=>
 ∃mZ,v=.nilIface/\Pg G w' b mZ sn (l++[c])/\pD b sl w mZ w':=kD _ _ _ w (Sc h c hm)
structure Pt (w:World) (b:Nat) (sl:Sl) (l:List UInt8):Prop where
 blk:∃q sn:Value,Blk w b 288 [q,sl.v,sn]
 len:sl.n=l.length
 some:l≠[]->∃g,sl.a=.some ⟨g,0,none⟩/\b<g/\sl.c≠0/\(∃n,w.shape? g=.some (5,n)/\l.length<=n)/\aB w ⟨g,0,none⟩ (l.map eN)
 cap:sl.a=none∨sl.c≠0
 big:l.length<=9223372036854775807
theorem xo {w w':World} {g:Nat} (h:w'.heap[g]? =w.heap[g]?):w'.shape? g=w.shape? g:=by
 unfold World.shape?;rw[h]
theorem Pt.only {w':World} (h:Pt w b sl l) (hO:Only [] w w'):Pt w' b sl l:=by
 obtain⟨⟨q,sn,h1⟩,h2,h3,h4,h5⟩:=h;refine⟨⟨q,sn,hO.blk h1 (by simp)⟩,h2,fun hl=>?_,h4,h5⟩;obtain⟨g,a1,a2,a3,⟨n,a4,a5⟩,a6⟩:=h3 hl;have hg:g<w.heap.size:=by
  refine aP fun hn=>?_;unfold World.shape? at a4;rw[dP (by omega)]at a4;cases a4
 have hk:=hO.block g hg (by simp);exact⟨g,a1,a2,a3,⟨n,(xo hk).trans a4,a5⟩,a6.keep hk⟩
theorem Pg.pt (h:Pg G w b sl sn l):Pt w b sl l:=by
 obtain⟨q,hq,hB⟩:=h.blk;refine⟨⟨_,_,hB⟩,h.buf.len,fun hl=>?_,?_,?_⟩
 ·rcases h.buf with⟨_,e⟩ | ⟨g,tail,h1,h2,h3,h4,h5,h6,h7,h8⟩
  ·exact absurd e hl
  ·have h0:l.length≠0:=fun e=>hl (aW e);refine⟨g,h1,h2,by omega,⟨_,by unfold World.shape?;unfold Blk at h3;rw[h3],by simp⟩,h3.cells 0 (l.map eN) fun j v hj=>by rw[aJ,aR (au.1 hj).1];exact hj⟩
 ·rcases h.buf with⟨e,_⟩ | ⟨g,tail,h1,h2,h3,h4,h5,h6,h7,h8⟩
  ·exact .inl (by rw[e])
  ·exact .inr (by omega)
 ·rcases h.buf with⟨_,e⟩ | ⟨g,tail,h1,h2,h3,h4,h5,h6,h7⟩
  ·subst e;simp
  ·omega
end
theorem sM (w:World) (p:Addr) (n:Nat) (a:Nat):(w.freeze p n).shape? a=w.shape? a:=by
 unfold World.freeze;split
 ·rfl
 ·unfold World.shape?;simp only[yu];by_cases S1:p.block=a
  ·rw[if_pos S1];cases h:w.heap[a]? with
   | none=>rfl
   | some o=>
    cases o with
    | cells c e f=>obtain⟨lo,hi⟩:=f;rfl
    | _=>rfl
  ·rw[if_neg S1]
section
variable {w:World} {b:Nat} {sl:Sl} {l:List UInt8}
theorem LF (h:Pt w b sl l):Calls Tryz.prog 43 #[.pointer (some ⟨b,0,none⟩)] w fun e w'=>e=.returned (.string (T l))/\Pt w' b sl l/\OnlyP (fun k=>b<k/\sl.a=some ⟨k,0,none⟩) w w':=by
 refine ret (R7 ⟨b,0,none⟩ (fun v w'=>v=.string (T l)/\Pt w' b sl l/\OnlyP (fun k=>b<k/\sl.a=some ⟨k,0,none⟩) w w') w ?_);unfold Ld;intro w0 cd;have h0:=h.only cd;obtain⟨⟨q,sn,hB⟩,dN,D9,nT,rU⟩:=h0;refine⟨fun k=>k=b,sl,Blk.eo hB 1 rfl,rfl,sl,Blk.eo hB 1 rfl,sl.a,w0,?_,fun k _ _=>rfl,?_⟩
 ·obtain⟨sa,sn',sc⟩:=sl;cases sa with
  | none=>exact Lib.run_unsafeSliceData_nil _ _ _ _ _
  | some a=>
   rcases nT with e | e
   ·cases e
   ·exact Lib.run_unsafeSliceData_row _ _ _ _ _ _ e
 ·by_cases hl:l=[]
  ·subst hl;have hn:sl.n=0:=dN;refine⟨T [],w0,?_,fun k _ _=>rfl,rfl,⟨⟨q,sn,hB⟩,dN,D9,nT,rU⟩,cd.p0⟩;rw[hn];exact Lib.run_unsafeString_none _ _ _ _ _
  ·obtain⟨g,ha,OS,hc,⟨m,tJ,hm⟩,rT⟩:=D9 hl;have hF:=pB w0 ⟨g,0,none⟩ l.length;have D0:b<w0.heap.size:=hB.lt;refine⟨T l,w0.freeze ⟨g,0,none⟩ l.length,?_,fun k hk bp=>hF.block k bp (by dsimp only;omega),rfl,⟨⟨q,sn,hF.blk hB (by dsimp only;omega)⟩,dN,fun _=>⟨g,ha,OS,hc,⟨m,(sM _ _ _ _).trans tJ,hm⟩,fun j v hj=>by rw[pA];exact rT j v hj⟩,nT,rU⟩,cd.BH (hF.mono fun k _ hk=>by dsimp only at hk;subst hk;exact⟨OS,ha⟩)⟩;rw[ha,dN];exact Lib.run_unsafeString_row _ _ _ _ 5 (by kernel_rfl) (by kernel_rfl) g m tJ l hl hm rU fun j x hj=>rT j (eN x) (by rw[bD,hj];rfl)
end
def nt (wr:Bool) (l:List UInt8):List UInt8:=if wr then l++[40]else l
def EZ (wr:Bool) (l:List UInt8):List UInt8:=if wr then l++[41]else l
def mX:Nat->Ex->Bool->List UInt8->List UInt8
 | 0,_,_,l=>l
 | d+1,x,wr,l=>if 16384<l.length then l else EZ wr (
  if x.k=1 then nt wr l++Lib.itoa x.n
  else if x.k=2 then nt wr l++x.s
  else if x.k=3 then nt wr l++([105,110,40]++x.s++[41])
  else if x.k=4 then(match x.cX with
   | [y]=>mX d y (decide (bE y<6)) (nt wr l++de x.op.toNat)
   | _=>l)
  else(match x.cX with
   | [y,z]=>mX d z (decide (bE z<=bE x)) (mX d y (decide (bE y<bE x)) (nt wr l)++([32]++de x.op.toNat++[32]))
   | _=>l))
section
variable {x:Ex}
theorem sO {n:Int} {s:List UInt8} {op len:Int} (h:T5 n s op len x=true):x.n=n/\x.s=s/\x.op=op/\(x.cX.length:Int)=len:=by
 simp only[T5,ab,iR,bB]at h;exact⟨h.1.1.1,h.1.1.2,h.1.2,h.2⟩
theorem ka (h:gu x=true) (hk:x.k=2∨x.k=3):cN x.s=true:=by
 have h1:x.k≠1:=by omega
 rw[gu,if_neg h1,if_pos hk,ab]at h;exact h.1
theorem xp (h:gu x=true) (hk:x.k=4):∃y,x.cX=[y]/\(x.op=14∨x.op=15):=by
 rw[gu,if_neg (by omega),if_neg (by omega),if_pos hk]at h;obtain⟨_,_,h3,h4⟩:=sO h;obtain⟨y,hy⟩:=List.length_eq_one_iff.1 (show x.cX.length=1 by omega);refine⟨y,hy,?_⟩;by_cases J8:x.op=15
 ·exact .inr J8
 ·rw[if_neg J8]at h3;exact .inl h3
theorem sP (h:gu x=true) (h1:x.k≠1) (h2:x.k≠2) (h3:x.k≠3) (h4:x.k≠4):x.k=5/\∃y z,x.cX=[y,z]/\1<=x.op/\x.op<=13:=by
 rw[gu,if_neg h1,if_neg (by omega),if_neg h4]at h;split at h
 ·rename_i h5;rw[ab]at h;obtain⟨h6,h7⟩:=h;obtain⟨_,_,_,h8⟩:=sO h7;have h6:eW x.op≠6:=by simpa using h6
  have h2l:x.cX.length=2:=by omega
  obtain⟨y,z,hy⟩:∃y z,x.cX=[y,z]:=by
   match hm:x.cX,h2l with
   | [y,z],_=>exact⟨y,z,rfl⟩
  refine⟨h5,y,z,hy,?_⟩;unfold eW at h6;refine aP fun hn=>h6 ?_;rw[if_neg (by omega),if_neg (by omega),if_neg (by omega),if_neg (by omega),if_neg (by omega),if_neg (by omega)]
 ·cases h
theorem iM {s:List UInt8} (h:cN s=true):s.length<=24:=by
 unfold cN at h;simp only[ab]at h;exact(aj h.1.1.1).2
theorem nG (n:Nat):(de n).length<=2:=by
 rcases me n 16 with h | h
 ·have:∀q,q<16->(de q).length<=2:=by decide
  exact this n h
 ·unfold de;rw[bZ (by exact h)];decide
theorem GZ (wr:Bool) (l:List UInt8):(nt wr l).length<=l.length+1:=by
 unfold nt;cases wr<;>simp
theorem PV (wr:Bool) (l:List UInt8):(EZ wr l).length<=l.length+1:=by
 unfold EZ;cases wr<;>simp
theorem ov:∀(d:Nat) {x:Ex} (wr:Bool) (l:List UInt8),cE d x=true->lM d x->(mX d x wr l).length<=l.length+40*mL d x
 | 0,x,wr,l,h,_=>by cases h
 | d+1,x,wr,l,h,⟨hn,hs⟩=>by
  rw[cE,ab]at h;obtain⟨hh,ha⟩:=h;have h1:=GZ wr l;rw[mX,mL];split
  ·omega
  refine ay (PV _ _) ?_;split
  ·rw[ah];have:=Lib.itoa_length_le x.n hn.1 hn.2;omega
  ·split
   ·rename_i hk;rw[ah];have:=iM (ka hh (.inl hk));omega
   ·split
    ·rename_i hk;rw[ah,ah,ah];have:=iM (ka hh (.inr hk));simp only[ao,aM];omega
    ·split
     ·rename_i hk;obtain⟨y,hy,_⟩:=xp hh hk;rw[hy]at ha hs⊢;dsimp only;simp only[jA,dk,qR]at ha⊢;have:=ov d (decide (bE y<6)) (nt wr l++de x.op.toNat) ha (hs y (by simp));rw[ah]at this;have:=nG x.op.toNat;omega
     ·rename_i k1 k2 k3 k4;obtain⟨hk,y,z,hy,_⟩:=sP hh k1 k2 k3 k4;rw[hy]at ha hs⊢;dsimp only;simp only[jA,dk,qR,ab]at ha⊢;have a1:=ov d (decide (bE y<bE x)) (nt wr l) ha.1 (hs y (by simp));have a2:=ov d (decide (bE z<=bE x)) (mX d y (decide (bE y<bE x)) (nt wr l)++([32]++de x.op.toNat++[32])) ha.2 (hs z (by simp));rw[ah,ah,ah]at a2;have:=nG x.op.toNat;simp only[ao,aM]at a2;omega
end
structure Pz (d:Nat) (F G:Nat->Prop) (k0 b:Nat) (sub sn:Sl) (subs:List Ex) (w:World) (sl:Sl) (l:List UInt8):Prop where
 pg:Pg G w b sl sn l
 tb:Tb w
 own:k0≠b/\sl.a≠some ⟨k0,0,none⟩/\k0<w.heap.size
 sb:SliceF (vt d) 6 w F sub subs
 hF:∀k,F k->k<b
 hT:3<b
section
variable {d:Nat} {F G:Nat->Prop} {k0 b:Nat} {sx sn sl mZ:Sl} {subs:List Ex} {w w' rQ:World} {l l':List UInt8}
theorem Pg.out (h:Pg G w b sl sn l) {k:Nat} (hk:k<b):¬(k=b∨sl.a=some ⟨k,0,none⟩):=by
 rintro(e | e)
 ·omega
 ·have:=(h.buf.lt e).1;omega
theorem Pz.only (h:Pz d F G k0 b sx sn subs w sl l) (hO:Only [] w w'):Pz d F G k0 b sx sn subs w' sl l:=by
 have z:=hO.size;exact⟨h.pg.only hO,h.tb.only hO,⟨h.own.1,h.own.2.1,by have:=h.own.2.2;omega⟩,SliceF.only (j9 d) (by decide) h.sb hO (by simp),h.hF,h.hT⟩
theorem Pz.mv (h:Pz d F G k0 b sx sn subs w sl l) (hp:Pg G w' b mZ sn l') (hm:pD b sl w mZ w'):Pz d F G k0 b sx sn subs w' mZ l'/\aD [k0] w w'/\be (fun k=>k<b∨k=k0) w w':=by
 have z:=hm.1.size;obtain⟨o1,o2,o3⟩:=h.own;refine⟨⟨hp,h.tb.keep fun bp=>hm.1.block _ bp (h.pg.out h.hT),⟨o1,fun e=>?_,by omega⟩,SliceF.tE (j9 d) (by decide) h.sb hm.1 fun k hk _=>h.pg.out (h.hF k hk),h.hF,h.hT⟩,hm.same o1 o2 o3,fun k hk bp=>hm.1.block k bp ?_⟩
 ·rcases hm.2 k0 e with e | e
  ·exact o2 e
  ·omega
 ·rcases hk with hk | rfl
  ·exact h.pg.out hk
  ·rintro(e | e)
   ·exact o1 e
   ·exact o2 e
theorem pD.after (h:pD b sl w' mZ rQ) (hO:Only [] w w'):pD b sl w mZ rQ:=(pD.only hO).trans h
theorem Pz.same (h:Pz d F G k0 b sx sn subs w sl l) (hO:Only [] w w'):aD [k0] w w':=hO.same (by have:=h.own.2.2;simp;omega)
theorem Pz.sig (h:Pz d F G k0 b sx sn subs w sl l) {op:Int} (h0:0<=op) (h1:op<16):∃ad,cD sn op 1 ad/\aB w ad [.string (T (de op.toNat))]:=by
 have hn:=h.pg.sig.len;have hol:yF.length=16:=rfl;obtain⟨ad,x,cs,g1,g2,g3,g4,g5,g6⟩:=h.pg.sig.get h0 (by omega);unfold jJ at g6;subst g6;have hx:de op.toNat=x:=by unfold de;rw[g2];rfl
 subst hx;exact⟨ad,g1,g5⟩
theorem Pz.sub (h:Pz d F G k0 b sx sn subs w sl l) {i:Nat} {y:Ex} (hy:subs[i]? =some y):∃ad sy,cD sx (i:Int) 6 ad/\ad.block<b/\aB w ad (ou y.k y.n y.s y.op sy y.a)/\vt d w F y (ou y.k y.n y.s y.op sy y.a):=by
 have hn:=h.sb.len;have bp:=(au.1 hy).1;obtain⟨ad,x,cs,g1,g2,g3,g4,g5,g6⟩:=h.sb.get (aG i) (by omega);rw[az,hy]at g2;injection g2 with g2;subst g2;obtain⟨sy,rfl⟩:=qB g6;exact⟨ad,sy,g1,h.hF _ g3,g5,g6⟩
end
abbrev PgC (d:Nat):Prop:=∀{G F:Nat->Prop} {w:World} {b:Nat} {sl sn:Sl} {l:List UInt8} {x:Ex} {cs:List Value} (wr:Bool),cE d x=true->lM d x->vt d w F x cs->(∀k,F k->k<b)->Tb w->3<b->Pg G w b sl sn l->l.length+40*mL d x<=70368744177664->
 Calls Tryz.prog 264 #[.pointer (some ⟨b,0,none⟩),.agg cs.toArray,.bool wr] w fun e w'=>∃mZ,e=.returned (.tuple #[])/\Pg G w' b mZ sn (mX d x wr l)/\pD b sl w mZ w'
theorem inb (s:List UInt8):ByteArray.mk #[105,110,40]++T s++ByteArray.mk #[41]=T ([105,110,40]++s++[41]):=by
 rw[show ByteArray.mk #[105,110,40]=T [105,110,40]from rfl,show ByteArray.mk #[41]=T [41]from rfl,jR,jR]
theorem blb (s:List UInt8):ByteArray.mk #[32]++T s++ByteArray.mk #[32]=T ([32]++s++[32]):=by
 rw[show ByteArray.mk #[32]=T [32]from rfl,jR,jR]
theorem inz (c:ByteArray) (s:List UInt8):(c++T s).size=c.size+s.length:=by
 rw[show c=T c.data.toList from vg c,jR,cK,cK,ah]
theorem iZ.mono {P:Program} {f:FuncId} {a:Array Value} {w:World} {Q Q':Value->World->Prop} (h:iZ P f a w Q) (hq:∀v w',Q v w'->Q' v w'):iZ P f a w Q':=fun c cs hc=>by
 obtain⟨e,u',w',fr,⟨h1,v,h2,h3⟩,h4⟩:=h c cs hc;exact⟨e,u',w',fr,⟨h1,v,h2,hq _ _ h3⟩,h4⟩
theorem rH:∀d,PgC d
 | 0,_,_,_,_,_,_,_,_,_,_,_,_,h,_,_,_,_,_=>h.elim
 | d+1,G,F,w,b,sl,sG,l,x,cs,wr,tJ,⟨Xe,S7⟩,⟨xs,h1,h2⟩,hF,hT,VG,hP,dN=>by
  subst h1;refine(afB ⟨b,0,none⟩ x.k x.n (T x.s) x.op xs x.a wr (fun v w'=>∃mZ,v=.tuple #[]/\Pg G w' b mZ sG (mX (d+1) x wr l)/\pD b sl w mZ w') w ?_).mono (by
   rintro e w' ⟨v,rfl,s,rfl,h⟩;exact⟨s,rfl,h⟩)
  have hx:vt (d+1) w F x (ou x.k x.n x.s x.op xs x.a):=⟨xs,rfl,h2⟩
  rw[cE,ab]at tJ;obtain⟨hh,ha⟩:=tJ;rw[mL]at dN;unfold Zu;intro k0 w0 fQ eE cd;have hb:=hP.lb;have ND:Pz d F G k0 b xs sG x.cX w0 sl l:=⟨hP.only cd,hT.only cd,⟨by omega,fun e=>by have:=(hP.buf.lt e).2;omega,eE⟩,SliceF.only (j9 d) (by decide) h2 cd (by simp),hF,VG⟩
  refine(T7 ND.pg).mono ?_;rintro _ w1 ⟨rfl,rfl⟩;refine⟨_,rfl,fun _ _=>rfl,fun hc=>⟨sl,rfl,?_,(pD.only cd)⟩,fun hc=>?_⟩
  ·rw[mX,if_pos (by have:=aj hc;omega)];exact ND.pg
  have hc:¬16384<l.length:=by have:=ar hc;omega
  have J9:mX (d+1) x wr l=EZ wr (
  if x.k=1 then nt wr l++Lib.itoa x.n
  else if x.k=2 then nt wr l++x.s
  else if x.k=3 then nt wr l++([105,110,40]++x.s++[41])
  else if x.k=4 then(match x.cX with
   | [y]=>mX d y (decide (bE y<6)) (nt wr l++de x.op.toNat)
   | _=>l)
  else(match x.cX with
   | [y,z]=>mX d z (decide (bE z<=bE x)) (mX d y (decide (bE y<bE x)) (nt wr l)++([32]++de x.op.toNat++[32]))
   | _=>l)):=by rw[mX,if_neg hc]
  have hol:=GZ wr l;refine⟨fun hw=>(PT ND.pg 40 (by omega)).mono ?_,fun hw=>?_⟩
  ·rintro _ w2 ⟨sl2,rfl,hp2,vH⟩;obtain⟨Bz,hs2,_⟩:=ND.mv hp2 vH;have NU:l++[40]=nt wr l:=by unfold nt;rw[if_pos hw]
   rw[NU]at Bz;refine⟨⟨.nilIface,rfl⟩,rfl,hs2,?_⟩;have fin:∀{Ip:Sl} {w5:World} {m:List UInt8},Pz d F G k0 b xs sG x.cX w5 Ip m->pD b sl2 w2 Ip w5->mX (d+1) x wr l=EZ wr m->m.length<=l.length+40*(1+qR (mL d) x.cX)->iZ Tryz.prog 296 #[.pointer (some ((⟨b,0,none⟩:Addr).add 0)),.int .u8 41] w5 fun _ w'=>∃mZ,(Value.tuple #[])=.tuple #[]/\Pg G w' b mZ sG (mX (d+1) x wr l)/\pD b sl w mZ w':=by
    intro Ip w5 m FZ yO he Ka;have hd:=PU FZ.pg 41 (by omega);refine iZ.mono hd ?_;rintro v w' ⟨mZ,hv,hp',hm'⟩;refine⟨mZ,rfl,?_,((vH.after cd).trans yO).trans hm'⟩;rw[he];unfold EZ;rw[if_pos hw];exact hp'
   refine⟨fun hk w3 cU=>?_,fun k1=>⟨fun hk w7 fg=>?_,fun k2=>⟨fun hk=>⟨?_,?_,fun cI dm=>?_⟩,fun k3=>⟨fun hk dX dZ=>?_,fun k4=>(mo (show vt (d+1) _ F x (ou x.k x.n x.s x.op xs x.a)from⟨xs,rfl,Bz.sb⟩)).mono ?_⟩⟩⟩⟩
   ·have hk:x.k=1:=by simpa using hk
    have VH:=Bz.only cU;refine(vX x.n Xe VH.tb).mono ?_;rintro _ w4 ⟨rfl,cZ⟩;have hz4:=VH.only cZ;have hl:=Lib.itoa_length_le x.n Xe.1 Xe.2;refine⟨_,rfl,VH.same cZ,(mM hz4.pg (Lib.itoa x.n) (by omega)).mono ?_⟩;rintro _ w5 ⟨Ip,rfl,NV,yO⟩;obtain⟨FZ,Iq,_⟩:=hz4.mv NV yO;exact⟨_,⟨.nilIface,rfl⟩,rfl,Iq,fin FZ ((yO.after cZ).after cU) (by rw[J9,if_pos hk]) (by rw[ah];omega)⟩
   ·have hk:x.k=2:=by simpa using hk
    have k1:x.k≠1:=by omega
    have hz7:=Bz.only fg;have hl:=iM (ka hh (.inl hk));refine(mM hz7.pg x.s (by omega)).mono ?_;rintro _ w8 ⟨Ip,rfl,NV,yO⟩;obtain⟨FZ,Iq,_⟩:=hz7.mv NV yO;exact⟨_,⟨.nilIface,rfl⟩,rfl,Iq,fin FZ (yO.after fg) (by rw[J9,if_neg k1,if_pos hk]) (by rw[ah];omega)⟩
   ·have hk:x.k=3:=by simpa using hk
    have hl:=iM (ka hh (.inr hk));rw[cK];omega
   ·have hk:x.k=3:=by simpa using hk
    have hl:=iM (ka hh (.inr hk));rw[inz];have:(ByteArray.mk #[105,110,40]).size=3:=rfl;omega
   ·have hk:x.k=3:=by simpa using hk
    have hl:=iM (ka hh (.inr hk));have NW:=Bz.only dm;have BL:([105,110,40]++x.s++[41]:List UInt8).length=x.s.length+4:=by
     rw[ah,ah];simp only[ao,aM];omega
    rw[inb];refine(mM NW.pg _ (by omega)).mono ?_;rintro _ cS ⟨Ip,rfl,NV,yO⟩;obtain⟨FZ,Iq,_⟩:=NW.mv NV yO;exact⟨_,⟨.nilIface,rfl⟩,rfl,Iq,fin FZ (yO.after dm) (by rw[J9,if_neg (by omega),if_neg (by omega),if_pos hk]) (by rw[ah];omega)⟩
   ·have hk:x.k=4:=by simpa using hk
    obtain⟨y,hy,rV⟩:=xp hh hk;have VI:qR (mL d) x.cX=mL d y:=by rw[hy];simp[qR]
    have hay:cE d y=true:=by rw[hy]at ha;simpa[jA]using ha
    have Ep:lM d y:=S7 y (by rw[hy];simp);have VJ:=nG x.op.toNat;have BA:=Bz.only dZ;obtain⟨q,hq,hB⟩:=BA.pg.blk;obtain⟨ad,g1,g2⟩:=BA.sig (op:=x.op) (by omega) (by omega);refine⟨sG,Blk.eo hB 2 rfl,ad,g1,_,g2,(mM BA.pg (de x.op.toNat) (by omega)).mono ?_⟩;rintro _ eK ⟨ahJ,rfl,VK,NX⟩;obtain⟨VL,VM,_⟩:=BA.mv VK NX;refine⟨_,⟨.nilIface,rfl⟩,rfl,VM,fun gn jo=>?_⟩;have F0:=VL.only jo;obtain⟨p1,sy,e1,e2,e3,e4⟩:=F0.sub (i:=0) (y:=y) (by rw[hy];rfl);refine⟨fun k=>k<b∨k=k0,.inr rfl,p1,e1,.inl e2,_,_,_,_,_,_,e3,p1,e1,_,_,_,_,_,_,e3,(mo e4).mono ?_⟩;rintro _ gR ⟨rfl,ix⟩;have F1:=F0.only ix;have VN:=ov d (decide (bE y<6)) (nt wr l++de x.op.toNat) hay Ep;rw[ah]at VN;refine⟨_,rfl,F0.same ix,be.only ix,(rH d (decide (bE y<6)) hay Ep (jz e4 ix) hF F1.tb VG F1.pg (by rw[ah];omega)).mono ?_⟩;rintro _ fR ⟨ahK,rfl,VO,NY⟩;obtain⟨VP,VQ,VR⟩:=F1.mv VO NY;exact⟨rfl,VQ,VR,fin VP ((NX.after dZ).trans ((NY.after ix).after jo)) (by rw[J9,if_neg (by omega),if_neg (by omega),if_neg (by omega),if_pos hk,hy]) (by omega)⟩
   ·rintro _ jK ⟨rfl,lp⟩;have k1:x.k≠1:=by simpa using k1
    have k2:x.k≠2:=by simpa using k2
    have k3:x.k≠3:=by simpa using k3
    have k4:x.k≠4:=by simpa using k4
    obtain⟨hk,y,z,hy,S0,Jy⟩:=sP hh k1 k2 k3 k4;have VI:qR (mL d) x.cX=mL d y+mL d z:=by rw[hy];simp[qR]
    have BB:cE d y=true/\cE d z=true:=by rw[hy]at ha;simpa[jA]using ha
    have Ep:lM d y:=S7 y (by rw[hy];simp);have OT:lM d z:=S7 z (by rw[hy];simp);have VJ:=nG x.op.toNat;have VS:=Bz.only lp;refine⟨_,rfl,Bz.same lp,fun jl qi=>?_⟩;have F2:=VS.only qi;obtain⟨p1,sy,e1,e2,e3,e4⟩:=F2.sub (i:=0) (y:=y) (by rw[hy];rfl);refine⟨fun k=>k<b∨k=k0,.inr rfl,p1,e1,.inl e2,_,_,_,_,_,_,e3,p1,e1,_,_,_,_,_,_,e3,(mo e4).mono ?_⟩;rintro _ lZ ⟨rfl,je⟩;have F3:=F2.only je;have VN:=ov d (decide (bE y<bE x)) (nt wr l) BB.1 Ep;refine⟨_,rfl,F2.same je,be.only je,(rH d (decide (bE y<bE x)) BB.1 Ep (jz e4 je) hF F3.tb VG F3.pg (by omega)).mono ?_⟩;rintro _ rq ⟨ahL,rfl,VT,NZ⟩;obtain⟨VU,VV,VW⟩:=F3.mv VT NZ;refine⟨rfl,VV,VW,fun rr qj=>?_⟩;have BC:=VU.only qj;obtain⟨q,hq,hB⟩:=BC.pg.blk;obtain⟨ad,g1,g2⟩:=BC.sig (op:=x.op) (by omega) (by omega);have BL:([32]++de x.op.toNat++[32]:List UInt8).length=(de x.op.toNat).length+2:=by
     rw[ah,ah];simp only[ao,aM];omega
    have yL:(ByteArray.mk #[32]).size=1:=rfl;refine⟨sG,Blk.eo hB 2 rfl,ad,g1,_,g2,by rw[cK];omega,by rw[inz];omega,?_⟩;rw[blb];refine(mM BC.pg _ (by omega)).mono ?_;rintro _ qe ⟨ahM,rfl,VX,N0⟩;obtain⟨VY,VZ,_⟩:=BC.mv VX N0;refine⟨_,⟨.nilIface,rfl⟩,rfl,VZ,fun mG Bw=>?_⟩;have F4:=VY.only Bw;obtain⟨p2,sz,f1,f2,f3,f4⟩:=F4.sub (i:=1) (y:=z) (by rw[hy];rfl);refine⟨fun k=>k<b∨k=k0,.inr rfl,p2,f1,.inl f2,_,_,_,_,_,_,f3,p2,f1,_,_,_,_,_,_,f3,(mo f4).mono ?_⟩;rintro _ oC ⟨rfl,ik⟩;have F5:=F4.only ik;have V0:=ov d (decide (bE z<=bE x)) (mX d y (decide (bE y<bE x)) (nt wr l)++([32]++de x.op.toNat++[32])) BB.2 OT;rw[ah,BL]at V0;refine⟨_,rfl,F4.same ik,be.only ik,(rH d (decide (bE z<=bE x)) BB.2 OT (jz f4 ik) hF F5.tb VG F5.pg (by rw[ah,BL];omega)).mono ?_⟩;rintro _ qf ⟨ahN,rfl,V1,N1⟩;obtain⟨V2,V3,V4⟩:=F5.mv V1 N1;exact⟨rfl,V3,V4,fin V2 (((NZ.after je).after qi).after lp |>.trans ((N0.after qj).trans ((N1.after ik).after Bw))) (by rw[J9,if_neg k1,if_neg k2,if_neg k3,if_neg k4,hy]) (by omega)⟩
  ·have NU:l=nt wr l:=by unfold nt;rw[hw];rfl
   have Bz:Pz d F G k0 b xs sG x.cX w1 sl (nt wr l):=by rw[<-NU];exact ND
   have fin:∀{Ip:Sl} {w5:World} {m:List UInt8},Pz d F G k0 b xs sG x.cX w5 Ip m->pD b sl w1 Ip w5->mX (d+1) x wr l=EZ wr m->m.length<=l.length+40*(1+qR (mL d) x.cX)->∃mZ,(Value.tuple #[])=.tuple #[]/\Pg G w5 b mZ sG (mX (d+1) x wr l)/\pD b sl w mZ w5:=by
    intro Ip w5 m FZ yO he Ka;refine⟨Ip,rfl,?_,yO.after cd⟩;rw[he];unfold EZ;rw[hw];exact FZ.pg
   refine⟨fun hk w3 cU=>?_,fun k1=>⟨fun hk w7 fg=>?_,fun k2=>⟨fun hk=>⟨?_,?_,fun cI dm=>?_⟩,fun k3=>⟨fun hk dX dZ=>?_,fun k4=>(mo (show vt (d+1) _ F x (ou x.k x.n x.s x.op xs x.a)from⟨xs,rfl,Bz.sb⟩)).mono ?_⟩⟩⟩⟩
   ·have hk:x.k=1:=by simpa using hk
    have VH:=Bz.only cU;refine(vX x.n Xe VH.tb).mono ?_;rintro _ w4 ⟨rfl,cZ⟩;have hz4:=VH.only cZ;have hl:=Lib.itoa_length_le x.n Xe.1 Xe.2;refine⟨_,rfl,VH.same cZ,(mM hz4.pg (Lib.itoa x.n) (by omega)).mono ?_⟩;rintro _ w5 ⟨Ip,rfl,NV,yO⟩;obtain⟨FZ,Iq,_⟩:=hz4.mv NV yO;exact⟨_,⟨.nilIface,rfl⟩,rfl,Iq,fin FZ ((yO.after cZ).after cU) (by rw[J9,if_pos hk]) (by rw[ah];omega)⟩
   ·have hk:x.k=2:=by simpa using hk
    have k1:x.k≠1:=by omega
    have hz7:=Bz.only fg;have hl:=iM (ka hh (.inl hk));refine(mM hz7.pg x.s (by omega)).mono ?_;rintro _ w8 ⟨Ip,rfl,NV,yO⟩;obtain⟨FZ,Iq,_⟩:=hz7.mv NV yO;exact⟨_,⟨.nilIface,rfl⟩,rfl,Iq,fin FZ (yO.after fg) (by rw[J9,if_neg k1,if_pos hk]) (by rw[ah];omega)⟩
   ·have hk:x.k=3:=by simpa using hk
    have hl:=iM (ka hh (.inr hk));rw[cK];omega
   ·have hk:x.k=3:=by simpa using hk
    have hl:=iM (ka hh (.inr hk));rw[inz];have:(ByteArray.mk #[105,110,40]).size=3:=rfl;omega
   ·have hk:x.k=3:=by simpa using hk
    have hl:=iM (ka hh (.inr hk));have NW:=Bz.only dm;have BL:([105,110,40]++x.s++[41]:List UInt8).length=x.s.length+4:=by
     rw[ah,ah];simp only[ao,aM];omega
    rw[inb];refine(mM NW.pg _ (by omega)).mono ?_;rintro _ cS ⟨Ip,rfl,NV,yO⟩;obtain⟨FZ,Iq,_⟩:=NW.mv NV yO;exact⟨_,⟨.nilIface,rfl⟩,rfl,Iq,fin FZ (yO.after dm) (by rw[J9,if_neg (by omega),if_neg (by omega),if_pos hk]) (by rw[ah];omega)⟩
   ·have hk:x.k=4:=by simpa using hk
    obtain⟨y,hy,rV⟩:=xp hh hk;have VI:qR (mL d) x.cX=mL d y:=by rw[hy];simp[qR]
    have hay:cE d y=true:=by rw[hy]at ha;simpa[jA]using ha
    have Ep:lM d y:=S7 y (by rw[hy];simp);have VJ:=nG x.op.toNat;have BA:=Bz.only dZ;obtain⟨q,hq,hB⟩:=BA.pg.blk;obtain⟨ad,g1,g2⟩:=BA.sig (op:=x.op) (by omega) (by omega);refine⟨sG,Blk.eo hB 2 rfl,ad,g1,_,g2,(mM BA.pg (de x.op.toNat) (by omega)).mono ?_⟩;rintro _ eK ⟨ahJ,rfl,VK,NX⟩;obtain⟨VL,VM,_⟩:=BA.mv VK NX;refine⟨_,⟨.nilIface,rfl⟩,rfl,VM,fun gn jo=>?_⟩;have F0:=VL.only jo;obtain⟨p1,sy,e1,e2,e3,e4⟩:=F0.sub (i:=0) (y:=y) (by rw[hy];rfl);refine⟨fun k=>k<b∨k=k0,.inr rfl,p1,e1,.inl e2,_,_,_,_,_,_,e3,p1,e1,_,_,_,_,_,_,e3,(mo e4).mono ?_⟩;rintro _ gR ⟨rfl,ix⟩;have F1:=F0.only ix;have VN:=ov d (decide (bE y<6)) (nt wr l++de x.op.toNat) hay Ep;rw[ah]at VN;refine⟨_,rfl,F0.same ix,be.only ix,(rH d (decide (bE y<6)) hay Ep (jz e4 ix) hF F1.tb VG F1.pg (by rw[ah];omega)).mono ?_⟩;rintro _ fR ⟨ahK,rfl,VO,NY⟩;obtain⟨VP,VQ,VR⟩:=F1.mv VO NY;exact⟨rfl,VQ,VR,fin VP ((NX.after dZ).trans ((NY.after ix).after jo)) (by rw[J9,if_neg (by omega),if_neg (by omega),if_neg (by omega),if_pos hk,hy]) (by omega)⟩
   ·rintro _ jK ⟨rfl,lp⟩;have k1:x.k≠1:=by simpa using k1
    have k2:x.k≠2:=by simpa using k2
    have k3:x.k≠3:=by simpa using k3
    have k4:x.k≠4:=by simpa using k4
    obtain⟨hk,y,z,hy,S0,Jy⟩:=sP hh k1 k2 k3 k4;have VI:qR (mL d) x.cX=mL d y+mL d z:=by rw[hy];simp[qR]
    have BB:cE d y=true/\cE d z=true:=by rw[hy]at ha;simpa[jA]using ha
    have Ep:lM d y:=S7 y (by rw[hy];simp);have OT:lM d z:=S7 z (by rw[hy];simp);have VJ:=nG x.op.toNat;have VS:=Bz.only lp;refine⟨_,rfl,Bz.same lp,fun jl qi=>?_⟩;have F2:=VS.only qi;obtain⟨p1,sy,e1,e2,e3,e4⟩:=F2.sub (i:=0) (y:=y) (by rw[hy];rfl);refine⟨fun k=>k<b∨k=k0,.inr rfl,p1,e1,.inl e2,_,_,_,_,_,_,e3,p1,e1,_,_,_,_,_,_,e3,(mo e4).mono ?_⟩;rintro _ lZ ⟨rfl,je⟩;have F3:=F2.only je;have VN:=ov d (decide (bE y<bE x)) (nt wr l) BB.1 Ep;refine⟨_,rfl,F2.same je,be.only je,(rH d (decide (bE y<bE x)) BB.1 Ep (jz e4 je) hF F3.tb VG F3.pg (by omega)).mono ?_⟩;rintro _ rq ⟨ahL,rfl,VT,NZ⟩;obtain⟨VU,VV,VW⟩:=F3.mv VT NZ;refine⟨rfl,VV,VW,fun rr qj=>?_⟩;have BC:=VU.only qj;obtain⟨q,hq,hB⟩:=BC.pg.blk;obtain⟨ad,g1,g2⟩:=BC.sig (op:=x.op) (by omega) (by omega);have BL:([32]++de x.op.toNat++[32]:List UInt8).length=(de x.op.toNat).length+2:=by
     rw[ah,ah];simp only[ao,aM];omega
    have yL:(ByteArray.mk #[32]).size=1:=rfl;refine⟨sG,Blk.eo hB 2 rfl,ad,g1,_,g2,by rw[cK];omega,by rw[inz];omega,?_⟩;rw[blb];refine(mM BC.pg _ (by omega)).mono ?_;rintro _ qe ⟨ahM,rfl,VX,N0⟩;obtain⟨VY,VZ,_⟩:=BC.mv VX N0;refine⟨_,⟨.nilIface,rfl⟩,rfl,VZ,fun mG Bw=>?_⟩;have F4:=VY.only Bw;obtain⟨p2,sz,f1,f2,f3,f4⟩:=F4.sub (i:=1) (y:=z) (by rw[hy];rfl);refine⟨fun k=>k<b∨k=k0,.inr rfl,p2,f1,.inl f2,_,_,_,_,_,_,f3,p2,f1,_,_,_,_,_,_,f3,(mo f4).mono ?_⟩;rintro _ oC ⟨rfl,ik⟩;have F5:=F4.only ik;have V0:=ov d (decide (bE z<=bE x)) (mX d y (decide (bE y<bE x)) (nt wr l)++([32]++de x.op.toNat++[32])) BB.2 OT;rw[ah,BL]at V0;refine⟨_,rfl,F4.same ik,be.only ik,(rH d (decide (bE z<=bE x)) BB.2 OT (jz f4 ik) hF F5.tb VG F5.pg (by rw[ah,BL];omega)).mono ?_⟩;rintro _ qf ⟨ahN,rfl,V1,N1⟩;obtain⟨V2,V3,V4⟩:=F5.mv V1 N1;exact⟨rfl,V3,V4,fin V2 (((NZ.after je).after qi).after lp |>.trans ((N0.after qj).trans ((N1.after ik).after Bw))) (by rw[J9,if_neg k1,if_neg k2,if_neg k3,if_neg k4,hy]) (by omega)⟩
def ri (d:Nat) (x:Ex):List UInt8:=if cE d x=true then(if(iA (mX d x false [])).2.1≠0 then[]else mX d x false [])else[]
theorem T8 {d:Nat} {w:World} {F:Nat->Prop} {x:Ex} {cs:List Value} (hx:vt d w F x cs) (hl:xn d x) (hn:lM d x) (hE:Er w) (hT:Tb w) (hc:40*mL d x<=70368744177664):
  Calls Tryz.prog 218 #[.agg cs.toArray] w fun e w'=>e=.returned (.string (T (ri d x)))/\Only [] w w':=by
 obtain⟨xs,rfl⟩:=qB hx;refine ret (v6w x.k x.n (T x.s) x.op xs x.a (fun v w'=>v=.string (T (ri d x))/\Only [] w w') w ?_);unfold v6v;intro k0 w0 fQ eE cd;have hxi:=(j9 d).inHeap hx;refine(GV d hl (jz hx cd)).mono ?_;rintro _ w1 ⟨rfl,bR⟩;have z0:=cd.size;have z1:=bR.size;have gX:=cd.cf bR;refine⟨_,rfl,bR.same (by simp;omega),fun hs=>?_,fun hs=>(R9 w1).mono ?_⟩
 ·have hs:cE d x=false:=by simpa using hs
  rw[ri,if_neg (by rw[hs];decide)];exact⟨rfl,gX⟩
 have hs:cE d x=true:=by simpa using hs
 rw[ri,if_pos hs];rintro _ w2 ⟨l0,rfl,Va,cO⟩;have z2:=cO.size;refine⟨l0,rfl,cO.same (by simp;omega),fun k1 w3 kJ jp cU wk=>?_⟩;have z3:=cU.size;have yi:Only [] w w3:=(gX.cf cO).cf cU;have J9:Pg (fun k=>w1.heap.size<=k/\k<w2.heap.size) w3 k1 Sl.nil l0 []:=⟨⟨none,.inl rfl,wk⟩,.inl ⟨rfl,rfl⟩,SliceF.only cL (by decide) Va cU (by simp),fun k hk=>by have:=hk.2;omega⟩
 have hT3:=hT.only yi;have Ih:=hT.lt;refine(rH d false hs hn (jz hxi yi) (fun k hk=>by have:=hk.2;omega) hT3 (by omega) J9 (by rw[aM];omega)).mono ?_;rintro _ w4 ⟨sl4,rfl,hp4,Xf⟩;have z4:=Xf.1.size;have cZ:Only [] w w4:=(yi.BH Xf.1).only fun k hk=>by
  rcases hk with rfl | e
  ·omega
  ·cases e
 obtain⟨q,hq,tK⟩:=hp4.blk;refine⟨rfl,Xf.same (by omega) (fun e=>by cases e) (by omega),q,sl4,l0,tK,(LF hp4.pt).mono ?_⟩;rintro _ w5 ⟨rfl,ht5,eC⟩;have z5:=eC.size;have yh:=eC.blk tK (by omega);have vM:Only [] w w5:=(cZ.BH eC).only fun k hk=>by have:=hk.1;omega
 refine⟨_,rfl,eC.same (by simp;omega),q,sl4,l0,yh,(T4 _ (hE.only vM)).mono ?_⟩;rintro _ w6 ⟨cs,rfl,hX,dD⟩;have z6:=dD.size;obtain⟨xl,rfl,_⟩:=hX.cells;have S5:=dD.blk yh (by simp);have acg:=vM.cf dD;refine⟨_,_,_,_,_,_,_,_,rfl,dD.same (by simp;omega),q,sl4,l0,S5,fun hr k2 k3 w7 _ _ _ _ fg _=>?_,fun hr k4 k5 w8 yN FY uG JD fy wl=>?_⟩
 ·rw[if_pos (by simpa using hr)];exact⟨rfl,acg.cf fg⟩
 ·have z8:=fy.size;refine(LF ((ht5.only dD).only fy)).mono ?_;rintro _ w9 ⟨rfl,ht9,fG⟩;rw[if_neg (by simpa using hr)];have eI:∀k,sl4.a=some ⟨k,0,none⟩->k<w4.heap.size:=fun k hk=>(hp4.buf.lt hk).2;refine⟨_,rfl,fG.same fun k hk=>?_,q,sl4,l0,fG.blk wl (by omega),rfl,((acg.cf fy).BH fG).only fun k hk=>by have:=hk.1;omega⟩;simp only[ak,aw,bf]at hk;rcases hk with rfl | rfl | rfl
  ·exact⟨by omega,fun h=>by have:=h.1;omega⟩
  ·exact⟨FY,fun h=>by have:=eI _ h.2;omega⟩
  ·exact⟨JD,fun h=>by have:=eI _ h.2;omega⟩
end Go.Proofs.YtmhoiicofhlgbaaGreatDoor.Con
namespace Go.Proofs.YtmhoiicofhlgbaaGreatDoor.Con
open Go Go.RowKit Go.Kt Go.Kt.V
set_option linter.unusedSimpArgs false
set_option linter.unusedVariables false
set_option maxHeartbeats 4000000
theorem PW {ts:List Tk} {i:Nat} {e:Int×Int} (h:BF ts i=.error e):e.1≠0:=by
 unfold BF at h;split at h
 ·split at h
  ·split at h
   ·cases h
   ·injection h with h;subst h;exact fU
  ·injection h with h;subst h;exact fU
 ·injection h with h;subst h;exact fU
theorem CQ {r:Pr} {g:Ex->Nat->Pr} {e:Int×Int} (h:vq r g=.error e):r=.error e∨∃x j,r=.ok (x,j)/\g x j=.error e:=by
 cases r with
 | error e'=>exact .inl h
 | ok p=>exact .inr ⟨p.1,p.2,rfl,h⟩
theorem zh {d:Nat} {a:Int} {r:Pr} {e:Int×Int} (h:fL d a r=.error e):r=.error e∨e.1=21:=by
 unfold fL at h;split at h
 ·injection h with h;subst h;exact .inr rfl
 ·exact .inl h
theorem zi {ts:List Tk} {E:Nat->Pr} {k:Int} {e:Int×Int} (hE:∀i,E i=.error e->e.1≠0):∀(g:Nat) (x:Ex) (j:Nat),fC ts E k g x j=.error e->e.1≠0
 | 0,x,j,h=>by cases h
 | g+1,x,j,h=>by
  rw[fC]at h;split at h
  ·cases h
  ·rcases CQ h with h1 | ⟨y,m,h1,h2⟩
   ·exact hE _ h1
   ·exact zi hE g _ _ h2
theorem lw {ts:List Tk} {e:Int×Int}:∀(f k d i:Nat),bX ts f k d i=.error e->e.1≠0
 | 0,k,d,i,h=>by
  rw[bX]at h;injection h with h;subst h;decide
 | f+1,k,d,i,h=>by
  rw[bX]at h;split at h
  ·unfold lh at h;split at h
   ·generalize hn:fL d (tk ts i).a (bX ts f 6 (d+1) (i+1))=r at h;cases r with
    | ok q=>cases h
    | error e'=>
     simp only[CH]at h;injection h with h;subst h;rcases zh hn with h1 | h1
     ·exact lw f _ _ _ h1
     ·rw[h1];decide
   ·split at h
    ·rcases zh h with h1 | h1
     ·cases hr:bX ts f 0 (d+1) (i+1)with
      | error e'=>
       rw[hr]at h1;simp only[oO]at h1;injection h1 with h1;subst h1;exact lw f _ _ _ hr
      | ok q=>
       rw[hr]at h1;simp only[oO]at h1;split at h1
       ·cases h1
       ·injection h1 with h1;subst h1;exact fU
     ·rw[h1];decide
    ·split at h
     ·cases h
     ·split at h
      ·cases h
      ·split at h
       ·exact PW h
       ·injection h with h;subst h;exact fU
  ·rcases CQ h with h1 | ⟨y,m,h1,h2⟩
   ·exact lw f _ _ _ h1
   ·exact zi (fun i hi=>lw f _ _ _ hi) _ _ _ h2
end Go.Proofs.YtmhoiicofhlgbaaGreatDoor.Con
