import Derived.Test.YteoblgpbapdhiaaGreatDoorTie
import Derived.Test.YteoblgpbapdhiaaGreatDoorCards
import Derived.Test.YteoblgpbapdhiaaGreatDoorPtlProofF
import Derived.Test.YteoblgpbapdhiaaGreatDoorQg7
import Derived.WalkKit
import Derived.ProofKit
import Derived.OpenShut
import Derived.Deep.DeepHandedRow
import Derived.LaidLaws
import Derived.Lib.LaidTab
import Derived.MakeChecks
import Derived.Stop.LaidErr
namespace Go.Proofs.YteoblgpbapdhiaaGreatDoor.PathsTells
open Go Go.RowKit Go.Kt Go.ChangeShapes Go.WideShapes Go.ChangeAt
set_option maxRecDepth 100000
open Rows Go.Proofs.Tryz
theorem own : ownKnob prog.godebug = .none:=by kernel_rfl
theorem laidOut : laidOutB prog = true:=by kernel_rfl
noncomputable def low : Nat:=(World.holding prog default ⟨#[],#[],[]⟩).heap.size
abbrev z0:Array Value:=#[.agg #[.slice .none 0 0,.int .i64 0,.string ByteArray.empty,.string ByteArray.empty,.string ByteArray.empty,.slice .none 0 0,.slice .none 0 0,.slice .none 0 0,.slice .none 0 0,.int .i64 0],.slice .none 0 0,.int .i64 0,.int .i64 0,.slice .none 0 0,.slice .none 0 0]
noncomputable def laidWorld (os : Os) : World:=
 let w0:=World.holding prog os ⟨#[.cells #[.string (ByteArray.mk #[118,97,108,117,101,32,111,117,116,32,111,102,32,114,97,110,103,101])] 375,.cells #[.string (ByteArray.mk #[105,110,118,97,108,105,100,32,115,121,110,116,97,120])] 375],#[],[]⟩
 { w0 with heap:=((((((((((w0.heap).modify 4 fun
   | .cells _ t frozen => .cells ([0,1,28,2,29,14,24,3,30,22,20,15,25,17,4,8,31,27,13,23,21,19,16,7,26,12,18,6,11,5,10,9].map (.int .u8)).toArray t frozen
   | o => o)).modify 5 fun
   | .cells _ t frozen => .cells ([0,1,56,2,57,49,28,3,61,58,42,50,38,29,17,4,62,47,59,36,45,43,51,22,53,39,33,30,24,18,12,5,63,55,48,27,60,41,37,16,46,35,44,21,52,32,23,11,54,26,40,15,34,20,31,10,25,14,19,9,13,8,7,6].map (.int .u8)).toArray t frozen
   | o => o)).modify 1 fun
   | .cells _ t frozen => .cells ([1,10,100,1000,10000,100000,1000000,10000000,100000000,1000000000,10000000000,100000000000,1000000000000,10000000000000,100000000000000,1000000000000000,10000000000000000,100000000000000000,1000000000000000000,10000000000000000000].map (.int .u64)).toArray t frozen
   | o => o)).modify 3 fun
   | .cells _ t frozen => .cells #[.iface 373 (.pointer (some ⟨low,0,.none⟩))] t frozen
   | o => o)).modify 2 fun
   | .cells _ t frozen => .cells #[.iface 373 (.pointer (some ⟨low + 1,0,.none⟩))] t frozen
   | o => o) }
theorem laid_met (os : Os) : laidMetH prog pathsTellsUptoRow.laid ((laidWorld os).forCall (fun _ _ => 0) ⟨#[],z0,[]⟩).memory:=by
 rw[Go.MakeChecks.laidMetH_plain _ _ _ (by kernel_rfl)]
 exact laidMet_of_run' 8 (by kernel_rfl) (by kernel_rfl)
theorem reads (os : Os) {H : Type} (enc : TypeId × Value → H) : ∃ places,DataW.whole enc prog ((laidWorld os).forCall (fun _ _ => 0) ⟨#[],z0,[]⟩).memory Tryz.f3.params.toList pathsTellsSpec.vars false (z0).toList 8 = some ([.agg [.nil,.agg [.lit (.int .i64 0),.lit (.string []),.lit (.string []),.lit (.string []),.nil,.nil,.nil,.nil,.lit (.int .i64 0)]],.nil,.lit (.int .i64 0),.lit (.int .i64 0),.nil,.nil],[],places):=
 ⟨[],by kernel_rfl⟩
theorem star : "*" ++ "errors.errorString" = "*errors.errorString":=by decide
theorem rowS (u : TypeId) (h : prog.typeName? 3 u = some "*errors.errorString") : u = 373:=
 typeName_ptr_named (nm:= "errors.errorString") (by rw[star]; kernel_rfl) (by kernel_rfl) (by decide) u (by rw[star]; exact h)
theorem er_of {W : World} (h : laidMetH prog pathsTellsUptoRow.laid W) : Con.Er W:=by
 rw[Go.MakeChecks.laidMetH_plain _ _ _ (by kernel_rfl)] at h
 have h1 : laidMet prog (_ :: _ :: _ :: _ :: _ :: _) W:=h
 obtain⟨a,s,hv,_⟩:=laid_sentinel (laidMet.tail (laidMet.tail (laidMet.tail h1))) Con.er_num (by kernel_rfl) underlying249 rowS underlying373 underlying375 rfl rfl underlying9 (by kernel_rfl) (by kernel_rfl)
 exact⟨_,_,hv⟩
theorem tb_dat : (laid_internal_strconv_uint64pow10 : DataW Unit) = Lib.tabData .u64 Lib.pow10Tab:=by rfl
theorem tb_of {W : World} (h : laidMetH prog pathsTellsUptoRow.laid W) : Con.Tb W:=by
 rw[Go.MakeChecks.laidMetH_plain _ _ _ (by kernel_rfl)] at h
 have h1 : laidMet prog (_ :: _ :: _ :: _ :: _ :: _) W:=h
 have h2:=(laidMet.tail (laidMet.tail h1))
 rw[tb_dat] at h2
 exact Lib.tabIs_of_head (g:=1) (t:=351) (e:=235) (n:=20) Con.tb_num (by kernel_rfl) underlying351 underlying235 (by kernel_rfl) (by kernel_rfl) h2
theorem bulkAll {H : Type} : ∀ l : List (DataW H),uptoBulkAll l = (l.map uptoBulk).sum
 | [] => rfl
 | d :: l => by rw[uptoBulkAll,bulkAll l,List.map_cons,List.sum_cons]
theorem hB {H : Type} : IsBulk (H:=H) uptoBulk where
 one d:=by cases d <;> (try (rename_i l; cases l)) <;> simp[uptoBulk]
 sl e s:=by simp only[uptoBulk,bulkAll]; omega
 str b:=by simp[uptoBulk]
 agg p:=by simp only[uptoBulk,bulkAll]; omega
 ptr d:=by simp[uptoBulk]
 iface t d:=by simp[uptoBulk]
theorem lifted (os : Os) (started : os.Started) (H : Type) (enc : TypeId × Value → H) (F : Stop.Interp) :
  ReturnsInHanded {} checked os 3 .any ((Rows.OpenSpec.upto pathsTellsSpec).preRow enc prog Tryz.f3 pathsTellsUptoRow.domain false pathsTellsUptoRow.laid) (((Rows.OpenSpec.upto pathsTellsSpec).at F).post enc prog Tryz.f3 false true false false):=by
 obtain⟨places,hx⟩:=reads os enc
 refine returnsInHanded_of_row (C:=checked) (s:=(Rows.OpenSpec.upto pathsTellsSpec)) own started (by kernel_rfl) func3
  (witness_row_at (enc:=enc) (C:=checked) false (laidWorld os) z0 rfl (by kernel_rfl) (by kernel_rfl) (by kernel_rfl)
   (OpenSpec.preRow_of_cond 8 hx (by kernel_rfl) (fun k hk => by cases hk; kernel_rfl) (by kernel_rfl) (laid_met os))) ?_
 intro W base args ds gs before hval0 hW hcnd hcond hsz hL _ _
 have hval : ∀ (j : Nat) t v,Tryz.f3.params[j]? = some t → args[j]? = some v → Value.okWide prog W .any base t v:=hval0
 have hW':=hW
 obtain⟨p,q,hA0,hV,rfl,hfz,hnd⟩:=hW
 have hA : DataW.TrodAll enc prog W 0 (fun _ => true) true Tryz.f3.params.toList args.toList ds p:=hA0
 rw[params3] at hA hval
 obtain⟨v0,vs0,d0,ds0,p0,q0,hargs,rfl,rfl,h0,r0⟩:=trodAll_cons hA
 obtain⟨v1,vs1,d1,ds1,p1,q1,rfl,rfl,rfl,h1,r1⟩:=trodAll_cons r0
 obtain⟨v2,vs2,d2,ds2,p2,q2,rfl,rfl,rfl,h2,r2⟩:=trodAll_cons r1
 obtain⟨v3,vs3,d3,ds3,p3,q3,rfl,rfl,rfl,h3,r3⟩:=trodAll_cons r2
 obtain⟨v4,vs4,d4,ds4,p4,q4,rfl,rfl,rfl,h4,r4⟩:=trodAll_cons r3
 obtain⟨v5,vs5,d5,ds5,p5,q5,rfl,rfl,rfl,h5,r5⟩:=trodAll_cons r4
 obtain⟨rfl,rfl,rfl⟩:=trodAll_nil r5
 obtain rfl : args = #[v0,v1,v2,v3,v4,v5]:=by cases args; simp_all
 obtain⟨rfl,rfl⟩:=trodVars_none hV
 obtain⟨a0,cs0,rfl,e0,b0⟩:=argB_struct (B:=uptoBulk) underlying29 (hval 0 29 v0 rfl rfl) h0 (r:=Con.rChU) (Con.opensB_ch hB) (weights_of hsz 0 rfl rfl)
 obtain⟨s1,a1,rfl,e1,b1⟩:=argB_slice (B:=uptoBulk) underlying30 (hval 1 30 v1 rfl rfl) h1 (r:=(rPair rInt (rPair (rSl rInt 1 8) rUnit))) (size:=2) (bytes:=32) (opensB_slice hB underlying30 (by kernel_rfl) (by kernel_rfl) (opensB_struct hB underlying80 (by kernel_rfl) (foB_cons (s:=1) rfl (by kernel_rfl) (opensB_of hB (opens_int underlying3)) (foB_cons (s:=1) rfl (by kernel_rfl) (opensB_slice hB underlying31 (by kernel_rfl) (by kernel_rfl) (opensB_of hB (opens_int underlying3))) (foB_nil rfl))))) (weights_of hsz 1 rfl rfl)
 obtain⟨a2,rfl,rfl,rfl,w2⟩:=open_int underlying3 (hval 2 3 v2 rfl rfl) h2
 obtain⟨a3,rfl,rfl,rfl,w3⟩:=open_int underlying3 (hval 3 3 v3 rfl rfl) h3
 obtain⟨s4,a4,rfl,e4,b4⟩:=argB_slice (B:=uptoBulk) underlying31 (hval 4 31 v4 rfl rfl) h4 (r:=rInt) (size:=1) (bytes:=8) (opensB_slice hB underlying31 (by kernel_rfl) (by kernel_rfl) (opensB_of hB (opens_int underlying3))) (weights_of hsz 4 rfl rfl)
 obtain⟨s5,a5,rfl,e5,b5⟩:=argB_slice (B:=uptoBulk) underlying31 (hval 5 31 v5 rfl rfl) h5 (r:=rInt) (size:=1) (bytes:=8) (opensB_slice hB underlying31 (by kernel_rfl) (by kernel_rfl) (opensB_of hB (opens_int underlying3))) (weights_of hsz 5 rfl rfl)
 clear hA0 hval0
 have er:=er_of hL
 have tb:=tb_of hL
 have hks:=of_decide_eq_true (hcond _ rfl)
 simp only[List.append_nil,List.cons_append,List.nil_append,uptoBulkAll] at hks
 try simp only[sum_one] at b0 b1 b4 b5
 have l1 : ∀ x,x ∈ a1 → x.2.1.length ≤ 1048576:=fun x hx => by
  have h:=Nat.le_trans (Nat.succ_le_succ (Con.mem_sumF hx)) b1
  try simp only[sum_one] at h
  omega
 refine (Con.ptells_c e0 e1 l1 a2 a3 e4 e5 (by omega) er tb).mono fun e W' ⟨he,hO⟩ => ?_
 subst he
 exact⟨_,rfl,law_post (tb:=4) hW' rfl rfl rfl rfl rfl underlying4 laidOut (by kernel_rfl) hO⟩
theorem said : Rows.PathsTellsUptoSaid:=
 OpenClaim.holds_of_cond 3 Tryz.f3 rfl rfl rfl rfl rfl rfl rfl ⟨rfl,rfl,rfl,rfl,rfl⟩ rfl rfl rfl rfl rfl (by kernel_rfl) func3 closed
  (of_decide_eq_true (by kernel_rfl)) (by unfold Func.isWrapper; first | (rw[if_pos (by decide +kernel)]; kernel_rfl) | (rw[if_neg (by decide +kernel)]; exact⟨rfl,rfl⟩))
  (fun os started H enc _ F => by rw[OpenClaim.pre_eq_preRow]; exact lifted os started H enc F)
theorem plain (f : FuncId) (fn : Func) (hf : Tryz.pinned.checked.prog.funcNamed "pavane/pavanelaw12.PathsTells" = some f) (hfn : Tryz.pinned.checked.prog.funcs[f]? = some fn) :
  true = Tryz.pinned.checked.prog.looks [] ∧ ∀ (j : Nat) t,fn.params[j]? = some t → Tryz.pinned.checked.prog.wantsStandIn t = false:=by
 obtain rfl : f = 3:=Option.some.inj ((show prog.funcNamed "pavane/pavanelaw12.PathsTells" = some 3 by kernel_rfl).symm.trans hf) |>.symm
 obtain rfl : fn = Tryz.f3:=(Option.some.inj (func3.symm.trans hfn)).symm
 refine⟨by kernel_rfl,fun j t ht => ?_⟩
 rw[params3] at ht
 have hm:=Array.mem_of_getElem? ht
 simp only[List.mem_toArray,List.mem_cons,List.not_mem_nil,or_false] at hm
 rcases hm with rfl | rfl | rfl | rfl | rfl | rfl
 · exact (show prog.wantsStandIn 29 = false by kernel_rfl)
 · exact (show prog.wantsStandIn 30 = false by kernel_rfl)
 · exact (show prog.wantsStandIn 3 = false by kernel_rfl)
 · exact (show prog.wantsStandIn 3 = false by kernel_rfl)
 · exact (show prog.wantsStandIn 31 = false by kernel_rfl)
 · exact (show prog.wantsStandIn 31 = false by kernel_rfl)
theorem noGo : Tryz.pinned.checked.prog.funcs.any Func.goes = false:=by kernel_rfl
theorem goes_no {P : Program} (h : P.funcs.any Func.goes = false) f : P.goes f = false:=by
 unfold Program.goes
 rw[h,Bool.and_false,Bool.or_false,Bool.eq_false_iff]
 intro hx
 obtain⟨g,_,hg⟩:=List.any_eq_true.1 hx
 rw[Array.any_eq_false] at h
 cases hf : P.funcs[g]? with
 | none => rw[hf] at hg; cases hg
 | some fn =>
  rw[hf] at hg
  obtain⟨hi,e⟩:=Array.getElem?_eq_some_iff.1 hf
  exact h g hi (by rw[e]; exact hg)
theorem goes_by {P : Program} (h : P.funcs.any Func.goes = false) {c : OpenClaim} (hs : c.start = .entering) : false = c.goesBy P:=by
 unfold OpenClaim.goesBy Program.goesAt Program.goesFrom
 rw[hs]
 cases P.funcNamed c.func with
 | none => rfl
 | some f => simp[goes_no h]
theorem proved : Rows.PathsTellsUptoCardSaid:=
 Claim7.holds_tied_plain_at .later [] _ _ _ _ said (fun _ h => by cases h) (by kernel_rfl) (fun _ h => by cases h) pathsTellsUpto_row_tie rfl ⟨rfl,rfl⟩ (by kernel_rfl) rfl plain (goes_by noGo rfl)
end Go.Proofs.YteoblgpbapdhiaaGreatDoor.PathsTells
