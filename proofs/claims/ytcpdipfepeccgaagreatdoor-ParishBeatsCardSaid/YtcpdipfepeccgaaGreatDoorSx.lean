/- ParishBeats: for every input the law returns true (the row, and the card that ties its listed variables to the program's text); no condition. -/
import Derived.Test.YtcpdipfepeccgaaGreatDoorSj
import Derived.Test.YtcpdipfepeccgaaGreatDoorSt
import Derived.Test.YtcpdipfepeccgaaGreatDoorCards
import Derived.Test.YtcpdipfepeccgaaGreatDoorTie
import Derived.Stop.ErrReads
import Derived.Lib.SmallJoins
set_option linter.unusedVariables false
set_option linter.unusedSimpArgs false
set_option maxHeartbeats 4000000
namespace Go.Proofs.YtcpdipfepeccgaaGreatDoor
open Go Go.Sx Go.Proofs Go.ChangeShapes Go.WideShapes Go.RowKit
set_option maxRecDepth 100000
namespace parishBeats
theorem wO:∀(n:Nat) {vs:List Value},ct (List.replicate n (.int .i64)) vs->∃l:List Int,l.length=n /\ vs=l.map (Value.int .i64)
 | 0,[],_=>⟨[],rfl,rfl⟩
 | 0,_::_,h=>by simp [ct] at h
 | n+1,[],h=>by simp [List.replicate,ct] at h
 | n+1,v::vs,h=>by
   cases v with
   | int k x =>
     obtain⟨rfl,h⟩:k=.i64 /\ ct (List.replicate n (.int .i64)) vs:=h
     obtain⟨l,h1,h2⟩:=wO n h
     exact⟨x::l,by simp [h1],by simp [h2]⟩
   | _=>simp [List.replicate,ct] at h
theorem own:ownKnob Tryz.prog.godebug=none:=by kernel_rfl
theorem Rb : "*" ++ "errors.errorString" = "*errors.errorString" := by decide
theorem OP:SentTy Tryz.prog 30 252 316 9 where
 hi:=⟨_,Tryz.underlying30⟩
 row:=fun u h=>typeName_ptr_named (nm := "errors.errorString") (by rw [Rb];kernel_rfl) (by kernel_rfl) (by decide) u (by rw [Rb];exact h)
 hp:=Tryz.underlying252
 he:=⟨_,Tryz.underlying316,rfl,rfl⟩
 hs:=Tryz.underlying9
 hc:=by kernel_rfl
 hcs:=by kernel_rfl
theorem Qz:((begin Tryz.prog (fun _ _=>0) default).world.heap[(1:Nat)]?).bind Obj.row?=some (#[.nilIface],30):=by kernel_rfl
theorem Qy:((begin Tryz.prog (fun _ _=>0) default).world.heap[(2:Nat)]?).bind Obj.row?=some (#[.nilIface],30):=by kernel_rfl
theorem Qx:((begin Tryz.prog (fun _ _=>0) default).world.heap[(3:Nat)]?).bind Obj.row?=some (#[.nilIface],30):=by kernel_rfl
theorem Qw:((begin Tryz.prog (fun _ _=>0) default).world.heap[(0:Nat)]?).bind Obj.row?=some (#[.nilIface],30):=by kernel_rfl
theorem Qv:((begin Tryz.prog (fun _ _=>0) default).world.heap[(6:Nat)]?).bind Obj.row?=some (#[.nilIface],30):=by kernel_rfl
theorem Qu:((begin Tryz.prog (fun _ _=>0) default).world.heap[(7:Nat)]?).bind Obj.row?=some (#[.nilIface],30):=by kernel_rfl
theorem Qt:((begin Tryz.prog (fun _ _=>0) default).world.heap[(5:Nat)]?).bind Obj.row?=some (#[.nilIface],30):=by kernel_rfl
theorem Qs:((begin Tryz.prog (fun _ _=>0) default).world.heap[(4:Nat)]?).bind Obj.row?=some (#[.nilIface],30):=by kernel_rfl
theorem SK {W:World} (h:laidMetH Tryz.prog Rows.parishBeatsRow.laid W) (hS:W.ShapedOpen Tryz.prog):∃ad:Nat->Addr,(∀n,n < 8->W.heap[(n:Nat)]?=some (.cells #[.iface 252 (.pointer (some (ad n)))] 30 (0,0))) /\ yM (ll W ad) (ad ErA) (ad 0):=by
 have hm:=((laidMetH_iff.1 h).1).filter (fun x:String×DataW Unit=>(fun x=>["sexton/api.ErrArg", "sexton/api.ErrNil", "sexton/api.ErrFull", "sexton/api.ErrState", "sexton/api.ErrFreed", "sexton/api.ErrStale", "sexton/api.ErrTwice", "sexton/api.ErrLeft"].contains x.1) x)
 rw [show ((Rows.parishBeatsRow.laid.filter fun x=>x.2.handleName?.isNone).filter (fun x:String×DataW Unit=>(fun x=>["sexton/api.ErrArg", "sexton/api.ErrNil", "sexton/api.ErrFull", "sexton/api.ErrState", "sexton/api.ErrFreed", "sexton/api.ErrStale", "sexton/api.ErrTwice", "sexton/api.ErrLeft"].contains x.1) x))=([("sexton/api.ErrArg",[97,110,32,97,114,103,117,109,101,110,116,32,116,104,97,116,32,99,97,110,39,116,32,98,101]),("sexton/api.ErrNil",[97,32,110,105,108,32,116,104,105,110,103]),("sexton/api.ErrFull",[110,111,32,114,111,111,109]),("sexton/api.ErrState",[110,111,116,32,110,111,119]),("sexton/api.ErrFreed",[97,32,115,108,111,116,32,116,104,97,116,32,105,115,32,102,114,101,101]),("sexton/api.ErrStale",[97,32,115,108,111,116,32,116,104,97,116,32,105,115,32,97,110,111,116,104,101,114,32,111,110,101,32,110,111,119]),("sexton/api.ErrTwice",[100,111,110,101,32,97,108,114,101,97,100,121]),("sexton/api.ErrLeft",[97,32,102,114,101,101,32,115,108,111,116,32,116,104,97,116,32,99,97,110,32,98,101,32,114,101,97,99,104,101,100])].map fun x:String×List UInt8=>(x.1,sent x.2)) from by kernel_rfl] at hm
 obtain⟨ps,hL,hnd,hr⟩:=hm
 obtain⟨ad,d1,d2⟩:=G7 OP (l:=[("sexton/api.ErrArg",[97,110,32,97,114,103,117,109,101,110,116,32,116,104,97,116,32,99,97,110,39,116,32,98,101]),("sexton/api.ErrNil",[97,32,110,105,108,32,116,104,105,110,103]),("sexton/api.ErrFull",[110,111,32,114,111,111,109]),("sexton/api.ErrState",[110,111,116,32,110,111,119]),("sexton/api.ErrFreed",[97,32,115,108,111,116,32,116,104,97,116,32,105,115,32,102,114,101,101]),("sexton/api.ErrStale",[97,32,115,108,111,116,32,116,104,97,116,32,105,115,32,97,110,111,116,104,101,114,32,111,110,101,32,110,111,119]),("sexton/api.ErrTwice",[100,111,110,101,32,97,108,114,101,97,100,121]),("sexton/api.ErrLeft",[97,32,102,114,101,101,32,115,108,111,116,32,116,104,97,116,32,99,97,110,32,98,101,32,114,101,97,99,104,101,100])]) (gs:=[1,2,3,0,6,7,5,4]) (by kernel_rfl) (fun g hg=>by simp at hg;rcases hg with rfl | rfl | rfl | rfl | rfl | rfl | rfl | rfl<;>kernel_rfl) (by decide) hL hnd hr
 have k0:W.heap[(1:Nat)]?=some (.cells #[.iface 252 (.pointer (some (ad 1)))] 30 (0,0)):=by
  obtain⟨t,ht⟩:=(d2 1 (by decide)).2.2
  obtain⟨cs,hcs,_⟩:=hS.1 1 _ _ (of_decide_eq_true (by kernel_rfl)) Qz
  rw [hcs] at ht
  simp only [Option.some.injEq,Obj.cells.injEq] at ht
  obtain⟨rfl,rfl,_⟩:=ht
  exact hcs
 have k1:W.heap[(2:Nat)]?=some (.cells #[.iface 252 (.pointer (some (ad 2)))] 30 (0,0)):=by
  obtain⟨t,ht⟩:=(d2 2 (by decide)).2.2
  obtain⟨cs,hcs,_⟩:=hS.1 2 _ _ (of_decide_eq_true (by kernel_rfl)) Qy
  rw [hcs] at ht
  simp only [Option.some.injEq,Obj.cells.injEq] at ht
  obtain⟨rfl,rfl,_⟩:=ht
  exact hcs
 have k2:W.heap[(3:Nat)]?=some (.cells #[.iface 252 (.pointer (some (ad 3)))] 30 (0,0)):=by
  obtain⟨t,ht⟩:=(d2 3 (by decide)).2.2
  obtain⟨cs,hcs,_⟩:=hS.1 3 _ _ (of_decide_eq_true (by kernel_rfl)) Qx
  rw [hcs] at ht
  simp only [Option.some.injEq,Obj.cells.injEq] at ht
  obtain⟨rfl,rfl,_⟩:=ht
  exact hcs
 have k3:W.heap[(0:Nat)]?=some (.cells #[.iface 252 (.pointer (some (ad 0)))] 30 (0,0)):=by
  obtain⟨t,ht⟩:=(d2 0 (by decide)).2.2
  obtain⟨cs,hcs,_⟩:=hS.1 0 _ _ (of_decide_eq_true (by kernel_rfl)) Qw
  rw [hcs] at ht
  simp only [Option.some.injEq,Obj.cells.injEq] at ht
  obtain⟨rfl,rfl,_⟩:=ht
  exact hcs
 have k4:W.heap[(6:Nat)]?=some (.cells #[.iface 252 (.pointer (some (ad 6)))] 30 (0,0)):=by
  obtain⟨t,ht⟩:=(d2 6 (by decide)).2.2
  obtain⟨cs,hcs,_⟩:=hS.1 6 _ _ (of_decide_eq_true (by kernel_rfl)) Qv
  rw [hcs] at ht
  simp only [Option.some.injEq,Obj.cells.injEq] at ht
  obtain⟨rfl,rfl,_⟩:=ht
  exact hcs
 have k5:W.heap[(7:Nat)]?=some (.cells #[.iface 252 (.pointer (some (ad 7)))] 30 (0,0)):=by
  obtain⟨t,ht⟩:=(d2 7 (by decide)).2.2
  obtain⟨cs,hcs,_⟩:=hS.1 7 _ _ (of_decide_eq_true (by kernel_rfl)) Qu
  rw [hcs] at ht
  simp only [Option.some.injEq,Obj.cells.injEq] at ht
  obtain⟨rfl,rfl,_⟩:=ht
  exact hcs
 have k6:W.heap[(5:Nat)]?=some (.cells #[.iface 252 (.pointer (some (ad 5)))] 30 (0,0)):=by
  obtain⟨t,ht⟩:=(d2 5 (by decide)).2.2
  obtain⟨cs,hcs,_⟩:=hS.1 5 _ _ (of_decide_eq_true (by kernel_rfl)) Qt
  rw [hcs] at ht
  simp only [Option.some.injEq,Obj.cells.injEq] at ht
  obtain⟨rfl,rfl,_⟩:=ht
  exact hcs
 have k7:W.heap[(4:Nat)]?=some (.cells #[.iface 252 (.pointer (some (ad 4)))] 30 (0,0)):=by
  obtain⟨t,ht⟩:=(d2 4 (by decide)).2.2
  obtain⟨cs,hcs,_⟩:=hS.1 4 _ _ (of_decide_eq_true (by kernel_rfl)) Qs
  rw [hcs] at ht
  simp only [Option.some.injEq,Obj.cells.injEq] at ht
  obtain⟨rfl,rfl,_⟩:=ht
  exact hcs
 have hg:∀n,n < 8->W.heap[(n:Nat)]?=some (.cells #[.iface 252 (.pointer (some (ad n)))] 30 (0,0)):=fun n hn=>by
  rcases (by omega:n=0 \/ n=1 \/ n=2 \/ n=3 \/ n=4 \/ n=5 \/ n=6 \/ n=7) with rfl | rfl | rfl | rfl | rfl | rfl | rfl | rfl
  all_goals first
   | exact k0
   | exact k1
   | exact k2
   | exact k3
   | exact k4
   | exact k5
   | exact k6
   | exact k7
 exact⟨ad,hg,HT hg (d2 ErA (by decide)).1 (d2 0 (by decide)).1 (d2 ErA (by decide)).2.1 (d2 0 (by decide)).2.1 (d1 ErA (by decide) 0 (by decide) (by decide)) fun b off hb=>(hr b off hb).1⟩
theorem Lx:laidOutB Tryz.prog=true:=by kernel_rfl
theorem par:∀t∈Tryz.f4.params.toList,Tryz.prog.readableRec t=true /\ t < Tryz.prog.types.size:=by
 have:(Tryz.f4.params.toList.all fun t=>Tryz.prog.readableRec t&&decide (t < Tryz.prog.types.size))=true:=by kernel_rfl
 intro t ht
 have:=List.all_eq_true.1 this t ht
 simpa using this
theorem Jv (H:Type) (enc:TypeId×Value->H) (W:World) (base:Nat) (args:Array Value) (ds gs:List (DataW H)) (before:List MemPlace)
 (hval:∀(j:Nat) t v,Tryz.f4.params[j]?=some t->args[j]?=some v->Value.okWide Tryz.prog W .any base t v)
 (hW:DataW.Whole enc Tryz.prog Tryz.f4.params.toList Rows.parishBeatsSpec.vars false W args.toList ds gs before) (hL:laidMetH Tryz.prog Rows.parishBeatsRow.laid W) (hS:W.ShapedOpen Tryz.prog) :
 Calls Tryz.prog 4 args W fun e W'=>∃v,e=.returned v /\ Rows.parishBeatsSpec.post enc Tryz.prog Tryz.f4 false true false false W args v W':=by
 have hW':=hW
 obtain⟨p,q,hA,hV,rfl,hfz,hnd⟩:=hW
 rw [show Tryz.f4.params=#[22,23,24] from Tryz.params4] at hA hval
 obtain⟨v0,vs0,d0,ds0,p0,q0,hargs,rfl,rfl,h0,r0⟩:=trodAll_cons hA
 obtain⟨v1,vs1,d1,ds1,p1,q1,rfl,rfl,rfl,h1,r1⟩:=trodAll_cons r0
 obtain⟨v2,vs2,d2,ds2,p2,q2,rfl,rfl,rfl,h2,r2⟩:=trodAll_cons r1
 obtain⟨rfl,rfl,rfl⟩:=trodAll_nil r2
 obtain rfl:args=#[v0,v1,v2]:=by cases args;simp_all
 obtain⟨ad,hg,ho⟩:=SK hL hS
 have hsb:∀k,k < 8->∃te ty p z,W.heap[k]?=some (.cells #[.iface te p] ty z):=fun k hk=>⟨_,_,_,_,hg k hk⟩
 obtain⟨lc1,l1,rfl,hq1⟩:=v7 kops (ad:=ad) Tryz.underlying23 (by kernel_rfl) (by kernel_rfl) rfl P4 Sc (hval 1 _ v1 rfl rfl) h1 hsb
 obtain⟨lc2,l2,rfl,hq2⟩:=v7 kints (ad:=ad) Tryz.underlying24 (by kernel_rfl) (by kernel_rfl) rfl P5 Sd (hval 2 _ v2 rfl rfl) h2 hsb
 obtain⟨x0_0,x0_1,x0_2,x0_3,x0_4,rfl⟩:∃x0_0 x0_1 x0_2 x0_3 x0_4:Int,v0=.agg #[.int .i64 x0_0,.int .i64 x0_1,.int .i64 x0_2,.int .i64 x0_3,.int .i64 x0_4]:=by
  have ok:=hval 0 22 v0 rfl rfl
  simp only [Value.okWide,Tryz.underlying22] at ok
  obtain⟨cs,rfl,hcs,_⟩:=ok
  obtain⟨fu,hfu⟩:=h0
  have hf:=mb 12 _ _ [.int .i64,.int .i64,.int .i64,.int .i64,.int .i64] _ _ (by kernel_rfl) hfu (by kernel_rfl)
  obtain⟨l,hl,hcl⟩:=wO 5 hf
  obtain⟨cl⟩:=cs
  simp only [Value.cells] at hcl
  subst hcl
  match l,hl with
  | [x0_0,x0_1,x0_2,x0_3,x0_4],_=>exact⟨x0_0,x0_1,x0_2,x0_3,x0_4,rfl⟩
 refine(oW x0_0 x0_1 x0_2 x0_3 x0_4 lc1 l1 lc2 l2 ad W hq1 hq2 hg ho).mono ?_
 rintro e W' ⟨rfl,hq⟩
 exact⟨_,rfl,vc Lx rfl par (by kernel_rfl) Tryz.underlying4 hW' rfl hq⟩
noncomputable def low:Nat:=(World.holding Tryz.prog default ⟨#[],#[],[]⟩).heap.size
noncomputable def qn (os:Os):World :=
 let w0:=World.holding Tryz.prog os ⟨#[.cells #[.string {data:=#[97,110,32,97,114,103,117,109,101,110,116,32,116,104,97,116,32,99,97,110,39,116,32,98,101]}] 316,.cells #[.string {data:=#[97,32,110,105,108,32,116,104,105,110,103]}] 316,.cells #[.string {data:=#[110,111,32,114,111,111,109]}] 316,.cells #[.string {data:=#[110,111,116,32,110,111,119]}] 316,.cells #[.string {data:=#[97,32,115,108,111,116,32,116,104,97,116,32,105,115,32,102,114,101,101]}] 316,.cells #[.string {data:=#[97,32,115,108,111,116,32,116,104,97,116,32,105,115,32,97,110,111,116,104,101,114,32,111,110,101,32,110,111,119]}] 316,.cells #[.string {data:=#[100,111,110,101,32,97,108,114,101,97,100,121]}] 316,.cells #[.string {data:=#[97,32,102,114,101,101,32,115,108,111,116,32,116,104,97,116,32,99,97,110,32,98,101,32,114,101,97,99,104,101,100]}] 316],#[],[]⟩
 {w0 with heap:=((((((((((((((((w0.heap).modify 1 fun | .cells _ t frozen=>.cells #[.iface 252 (.pointer (some ⟨low+0,0,none⟩))] t frozen | o=>o)).modify 2 fun | .cells _ t frozen=>.cells #[.iface 252 (.pointer (some ⟨low+1,0,none⟩))] t frozen | o=>o)).modify 3 fun | .cells _ t frozen=>.cells #[.iface 252 (.pointer (some ⟨low+2,0,none⟩))] t frozen | o=>o)).modify 0 fun | .cells _ t frozen=>.cells #[.iface 252 (.pointer (some ⟨low+3,0,none⟩))] t frozen | o=>o)).modify 6 fun | .cells _ t frozen=>.cells #[.iface 252 (.pointer (some ⟨low+4,0,none⟩))] t frozen | o=>o)).modify 7 fun | .cells _ t frozen=>.cells #[.iface 252 (.pointer (some ⟨low+5,0,none⟩))] t frozen | o=>o)).modify 5 fun | .cells _ t frozen=>.cells #[.iface 252 (.pointer (some ⟨low+6,0,none⟩))] t frozen | o=>o)).modify 4 fun | .cells _ t frozen=>.cells #[.iface 252 (.pointer (some ⟨low+7,0,none⟩))] t frozen | o=>o)}
def args0:Array Value:=#[.agg #[.int .i64 0,.int .i64 0,.int .i64 0,.int .i64 0,.int .i64 0],.slice none 0 0,.slice none 0 0]
theorem ID (os:Os):laidMet Tryz.prog Rows.parishBeatsRow.laid ((qn os).forCall (fun _ _=>0) ⟨#[],args0,[]⟩).memory :=
 laidMet_of_run' 8 (by kernel_rfl) (by kernel_rfl)
theorem reads (os:Os) {H:Type} (enc:TypeId×Value->H):∃places,DataW.whole enc Tryz.prog ((qn os).forCall (fun _ _=>0) ⟨#[],args0,[]⟩).memory Tryz.f4.params.toList Rows.parishBeatsSpec.vars false args0.toList 8=some ([.agg [.lit (.int .i64 0),.lit (.int .i64 0),.lit (.int .i64 0),.lit (.int .i64 0),.lit (.int .i64 0)],.nil,.nil],[],places) :=
 ⟨[],by kernel_rfl⟩
set_option maxRecDepth 100000 in
theorem Pq (os:Os) (started:os.Started) (H:Type) (enc:TypeId×Value->H) (F:Stop.Interp) :
 ReturnsInHanded {} Tryz.checked os 4 .any ((OpenSpec.ofChange Rows.parishBeatsSpec).preRow enc Tryz.prog Tryz.f4 Rows.parishBeatsRow.domain false Rows.parishBeatsRow.laid) (((OpenSpec.ofChange Rows.parishBeatsSpec).at F).post enc Tryz.prog Tryz.f4 false true false false):=by
 obtain⟨places,hx⟩:=reads os enc
 refine returnsInHanded_of_row (C:=Tryz.checked) (s:=OpenSpec.ofChange Rows.parishBeatsSpec) own started (by kernel_rfl) Tryz.func4
  (witness_row_at (enc:=enc) (C:=Tryz.checked) false (qn os) args0 rfl (by kernel_rfl) (by kernel_rfl) (by kernel_rfl)
    (OpenSpec.preRow_of_cond 8 hx (by kernel_rfl) (fun k hk=>by cases hk) (by kernel_rfl) (ID os))) ?_
 intro W base args ds gs before hval hW _ _ _ hL hS _
 exact Jv H enc W base args ds gs before hval hW hL hS
theorem T3:Rows.ParishBeatsSaid :=
 OpenClaim.holds_of_cond 4 Tryz.f4 rfl rfl rfl rfl rfl rfl rfl ⟨rfl,rfl,rfl,rfl,rfl⟩ rfl rfl rfl rfl rfl (by kernel_rfl) Tryz.func4 (by kernel_rfl)
  (of_decide_eq_true (by kernel_rfl)) (by unfold Func.isWrapper;first | (rw [if_pos (by decide +kernel)];kernel_rfl) | (rw [if_neg (by decide +kernel)];exact⟨rfl,rfl⟩))
  (fun os started H enc _ F=>by rw [OpenClaim.pre_eq_preRow];exact Pq os started H enc F)
theorem plain (f:FuncId) (fn:Func) (hf:Tryz.pinned.checked.prog.funcNamed "sexton/sextonlaw14.ParishBeats" = some f) (hfn:Tryz.pinned.checked.prog.funcs[f]?=some fn) :
 true=Tryz.pinned.checked.prog.looks [] /\ ∀(j:Nat) t,fn.params[j]?=some t->Tryz.pinned.checked.prog.wantsStandIn t=false:=by
 obtain rfl:f=4:=Option.some.inj ((show Tryz.prog.funcNamed "sexton/sextonlaw14.ParishBeats" = some 4 by kernel_rfl).symm.trans hf) |>.symm
 obtain rfl:fn=Tryz.f4:=(Option.some.inj (Tryz.func4.symm.trans hfn)).symm
 refine⟨by kernel_rfl,fun j t ht=>?_⟩
 have h:=(show (Tryz.f4.params.toList.all fun t=>Tryz.prog.wantsStandIn t==false)=true by kernel_rfl)
 have:=List.all_eq_true.1 h t (Array.mem_toList_iff.2 (Array.mem_of_getElem? ht))
 exact(show Tryz.prog.wantsStandIn t=false by simpa using this)
theorem card:Rows.ParishBeatsCardSaid :=
 Claim7.holds_tied_plain_at .later [] _ _ _ _ T3 (fun _ h=>by cases h) (by kernel_rfl) (fun _ h=>by cases h) parishBeats_row_tie rfl ⟨rfl,rfl⟩ (by kernel_rfl) rfl plain (by kernel_rfl)
#print axioms card
end parishBeats
end Go.Proofs.YtcpdipfepeccgaaGreatDoor
