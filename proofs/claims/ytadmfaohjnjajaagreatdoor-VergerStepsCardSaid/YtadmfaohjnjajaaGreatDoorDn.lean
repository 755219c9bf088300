/- VergerSteps: for every input the law returns true (the row, and the card that ties its listed variables to the program's text); no condition. -/
import Derived.Test.YtadmfaohjnjajaaGreatDoorSxR
import Derived.Test.YtadmfaohjnjajaaGreatDoorCards
import Derived.Test.YtadmfaohjnjajaaGreatDoorTie
import Derived.Stop.ErrReads
import Derived.Lib.SmallJoins
set_option linter.unusedVariables false
set_option linter.unusedSimpArgs false
set_option maxHeartbeats 0
set_option maxRecDepth 100000
namespace Go.Proofs.YtadmfaohjnjajaaGreatDoor
open Go Go.Sx Go.Proofs Go.ChangeShapes Go.WideShapes Go.RowKit
namespace vergerSteps
theorem HB:∀(n:Nat) {vs:List Value},gx (List.replicate n (.int .i64)) vs->∃l:List Int,l.length=n /\ vs=l.map (Value.int .i64)
 | 0,[],_=>⟨[],rfl,rfl⟩
 | 0,_::_,h=>by simp [gx] at h
 | n+1,[],h=>by simp [List.replicate,gx] at h
 | n+1,v::vs,h=>by
   cases v with
   | int k x =>
     obtain⟨rfl,h⟩:k=.i64 /\ gx (List.replicate n (.int .i64)) vs:=h
     obtain⟨l,h1,h2⟩:=HB n h
     exact⟨x::l,by simp [h1],by simp [h2]⟩
   | _=>simp [List.replicate,gx] at h
theorem own:ownKnob Tryz.prog.godebug=none:=by kernel_rfl
theorem ajZ : "*" ++ "errors.errorString" = "*errors.errorString" := by decide
theorem afG:Y7 Tryz.prog 29 229 295 9 where
 hi:=⟨_,Tryz.underlying29⟩
 row:=fun u h=>typeName_ptr_named (nm := "errors.errorString") (by rw [ajZ];kernel_rfl) (by kernel_rfl) (by decide) u (by rw [ajZ];exact h)
 hp:=Tryz.underlying229
 he:=⟨_,Tryz.underlying295,rfl,rfl⟩
 hs:=Tryz.underlying9
 hc:=by kernel_rfl
 hcs:=by kernel_rfl
theorem aiZ:((begin Tryz.prog (fun _ _=>0) default).world.heap[(0:Nat)]?).bind Obj.row?=some (#[.nilIface],29):=by kernel_rfl
theorem aiY:((begin Tryz.prog (fun _ _=>0) default).world.heap[(2:Nat)]?).bind Obj.row?=some (#[.nilIface],29):=by kernel_rfl
theorem aiX:((begin Tryz.prog (fun _ _=>0) default).world.heap[(3:Nat)]?).bind Obj.row?=some (#[.nilIface],29):=by kernel_rfl
theorem aiW:((begin Tryz.prog (fun _ _=>0) default).world.heap[(1:Nat)]?).bind Obj.row?=some (#[.nilIface],29):=by kernel_rfl
theorem aiV:((begin Tryz.prog (fun _ _=>0) default).world.heap[(5:Nat)]?).bind Obj.row?=some (#[.nilIface],29):=by kernel_rfl
theorem aiU:((begin Tryz.prog (fun _ _=>0) default).world.heap[(6:Nat)]?).bind Obj.row?=some (#[.nilIface],29):=by kernel_rfl
theorem aiT:((begin Tryz.prog (fun _ _=>0) default).world.heap[(4:Nat)]?).bind Obj.row?=some (#[.nilIface],29):=by kernel_rfl
theorem alC {W:World} (h:laidMetH Tryz.prog Rows.vergerStepsRow.laid W) (hS:W.ShapedOpen Tryz.prog):∃ad:Nat->Addr,(∀n,n < 7->W.heap[(n:Nat)]?=some (.cells #[.iface 229 (.pointer (some (ad n)))] 29 (0,0))) /\ JZ (yA W ad) (ad TE) (ad TD):=by
 have hm:=((laidMetH_iff.1 h).1).filter (fun x:String×DataW Unit=>(fun x=>["sexton/api.ErrArg", "sexton/api.ErrNil", "sexton/api.ErrFull", "sexton/api.ErrState", "sexton/api.ErrFreed", "sexton/api.ErrStale", "sexton/api.ErrTwice"].contains x.1) x)
 rw [show ((Rows.vergerStepsRow.laid.filter fun x=>x.2.handleName?.isNone).filter (fun x:String×DataW Unit=>(fun x=>["sexton/api.ErrArg", "sexton/api.ErrNil", "sexton/api.ErrFull", "sexton/api.ErrState", "sexton/api.ErrFreed", "sexton/api.ErrStale", "sexton/api.ErrTwice"].contains x.1) x))=([("sexton/api.ErrArg",[97,110,32,97,114,103,117,109,101,110,116,32,116,104,97,116,32,99,97,110,39,116,32,98,101]),("sexton/api.ErrNil",[97,32,110,105,108,32,116,104,105,110,103]),("sexton/api.ErrFull",[110,111,32,114,111,111,109]),("sexton/api.ErrState",[110,111,116,32,110,111,119]),("sexton/api.ErrFreed",[97,32,115,108,111,116,32,116,104,97,116,32,105,115,32,102,114,101,101]),("sexton/api.ErrStale",[97,32,115,108,111,116,32,116,104,97,116,32,105,115,32,97,110,111,116,104,101,114,32,111,110,101,32,110,111,119]),("sexton/api.ErrTwice",[100,111,110,101,32,97,108,114,101,97,100,121])].map fun x:String×List UInt8=>(x.1,gk x.2)) from by kernel_rfl] at hm
 obtain⟨ps,hL,iS,hr⟩:=hm
 obtain⟨ad,d1,d2⟩:=U9 afG (l:=[("sexton/api.ErrArg",[97,110,32,97,114,103,117,109,101,110,116,32,116,104,97,116,32,99,97,110,39,116,32,98,101]),("sexton/api.ErrNil",[97,32,110,105,108,32,116,104,105,110,103]),("sexton/api.ErrFull",[110,111,32,114,111,111,109]),("sexton/api.ErrState",[110,111,116,32,110,111,119]),("sexton/api.ErrFreed",[97,32,115,108,111,116,32,116,104,97,116,32,105,115,32,102,114,101,101]),("sexton/api.ErrStale",[97,32,115,108,111,116,32,116,104,97,116,32,105,115,32,97,110,111,116,104,101,114,32,111,110,101,32,110,111,119]),("sexton/api.ErrTwice",[100,111,110,101,32,97,108,114,101,97,100,121])]) (gs:=[0,2,3,1,5,6,4]) (by kernel_rfl) (fun g hg=>by simp at hg;rcases hg with rfl | rfl | rfl | rfl | rfl | rfl | rfl<;>kernel_rfl) (by decide) hL iS hr
 have k0:W.heap[(0:Nat)]?=some (.cells #[.iface 229 (.pointer (some (ad 0)))] 29 (0,0)):=by
  obtain⟨t,ht⟩:=(d2 0 (by decide)).2.2
  obtain⟨cs,hcs,_⟩:=hS.1 0 _ _ (aaV (by kernel_rfl)) aiZ
  rw [hcs] at ht
  simp only [aaC,Obj.cells.injEq] at ht
  obtain⟨rfl,rfl,_⟩:=ht
  exact hcs
 have k1:W.heap[(2:Nat)]?=some (.cells #[.iface 229 (.pointer (some (ad 2)))] 29 (0,0)):=by
  obtain⟨t,ht⟩:=(d2 2 (by decide)).2.2
  obtain⟨cs,hcs,_⟩:=hS.1 2 _ _ (aaV (by kernel_rfl)) aiY
  rw [hcs] at ht
  simp only [aaC,Obj.cells.injEq] at ht
  obtain⟨rfl,rfl,_⟩:=ht
  exact hcs
 have k2:W.heap[(3:Nat)]?=some (.cells #[.iface 229 (.pointer (some (ad 3)))] 29 (0,0)):=by
  obtain⟨t,ht⟩:=(d2 3 (by decide)).2.2
  obtain⟨cs,hcs,_⟩:=hS.1 3 _ _ (aaV (by kernel_rfl)) aiX
  rw [hcs] at ht
  simp only [aaC,Obj.cells.injEq] at ht
  obtain⟨rfl,rfl,_⟩:=ht
  exact hcs
 have k3:W.heap[(1:Nat)]?=some (.cells #[.iface 229 (.pointer (some (ad 1)))] 29 (0,0)):=by
  obtain⟨t,ht⟩:=(d2 1 (by decide)).2.2
  obtain⟨cs,hcs,_⟩:=hS.1 1 _ _ (aaV (by kernel_rfl)) aiW
  rw [hcs] at ht
  simp only [aaC,Obj.cells.injEq] at ht
  obtain⟨rfl,rfl,_⟩:=ht
  exact hcs
 have k4:W.heap[(5:Nat)]?=some (.cells #[.iface 229 (.pointer (some (ad 5)))] 29 (0,0)):=by
  obtain⟨t,ht⟩:=(d2 5 (by decide)).2.2
  obtain⟨cs,hcs,_⟩:=hS.1 5 _ _ (aaV (by kernel_rfl)) aiV
  rw [hcs] at ht
  simp only [aaC,Obj.cells.injEq] at ht
  obtain⟨rfl,rfl,_⟩:=ht
  exact hcs
 have k5:W.heap[(6:Nat)]?=some (.cells #[.iface 229 (.pointer (some (ad 6)))] 29 (0,0)):=by
  obtain⟨t,ht⟩:=(d2 6 (by decide)).2.2
  obtain⟨cs,hcs,_⟩:=hS.1 6 _ _ (aaV (by kernel_rfl)) aiU
  rw [hcs] at ht
  simp only [aaC,Obj.cells.injEq] at ht
  obtain⟨rfl,rfl,_⟩:=ht
  exact hcs
 have k6:W.heap[(4:Nat)]?=some (.cells #[.iface 229 (.pointer (some (ad 4)))] 29 (0,0)):=by
  obtain⟨t,ht⟩:=(d2 4 (by decide)).2.2
  obtain⟨cs,hcs,_⟩:=hS.1 4 _ _ (aaV (by kernel_rfl)) aiT
  rw [hcs] at ht
  simp only [aaC,Obj.cells.injEq] at ht
  obtain⟨rfl,rfl,_⟩:=ht
  exact hcs
 have hg:∀n,n < 7->W.heap[(n:Nat)]?=some (.cells #[.iface 229 (.pointer (some (ad n)))] 29 (0,0)):=fun n hn=>by
  rcases (by omega:n=0 \/ n=1 \/ n=2 \/ n=3 \/ n=4 \/ n=5 \/ n=6) with rfl | rfl | rfl | rfl | rfl | rfl | rfl
  all_goals first
   | exact k0
   | exact k1
   | exact k2
   | exact k3
   | exact k4
   | exact k5
   | exact k6
 exact⟨ad,hg,VV hg (d2 TE (by decide)).1 (d2 TD (by decide)).1 (d2 TE (by decide)).2.1 (d2 TD (by decide)).2.1 (d1 TE (by decide) TD (by decide) (by decide)) fun b off hb=>(hr b off hb).1⟩
theorem aba:laidOutB Tryz.prog=true:=by kernel_rfl
theorem par:∀t∈Tryz.f4.params.toList,Tryz.prog.readableRec t=true /\ t < Tryz.prog.types.size:=by
 have:(Tryz.f4.params.toList.all fun t=>Tryz.prog.readableRec t&&decide (t < Tryz.prog.types.size))=true:=by kernel_rfl
 intro t ht
 have:=List.all_eq_true.1 this t ht
 simpa using this
theorem Yo (H:Type) (bx:TypeId×Value->H) (W:World) (base:Nat) (args:Array Value) (ds gs:List (DataW H)) (before:List MemPlace)
 (pQ:∀(j:Nat) t v,Tryz.f4.params[j]?=some t->args[j]?=some v->Value.okWide Tryz.prog W .any base t v)
 (hW:DataW.Whole bx Tryz.prog Tryz.f4.params.toList Rows.vergerStepsSpec.vars false W args.toList ds gs before) (hL:laidMetH Tryz.prog Rows.vergerStepsRow.laid W) (hS:W.ShapedOpen Tryz.prog) :
 Calls Tryz.prog 4 args W fun e W'=>∃v,e=.returned v /\ Rows.vergerStepsSpec.post bx Tryz.prog Tryz.f4 false true false false W args v W':=by
 have hW':=hW
 obtain⟨p,q,hA,hV,rfl,hfz,iS⟩:=hW
 rw [show Tryz.f4.params=#[44,22] from Tryz.params4] at hA pQ
 obtain⟨v0,vs0,d0,ds0,p0,q0,bM,rfl,rfl,h0,r0⟩:=trodAll_cons hA
 obtain⟨v1,vs1,d1,ds1,p1,q1,rfl,rfl,rfl,h1,r1⟩:=trodAll_cons r0
 obtain⟨rfl,rfl,rfl⟩:=trodAll_nil r1
 obtain rfl:args=#[v0,v1]:=by cases args;simp_all
 obtain⟨ad,hg,ho⟩:=alC hL hS
 have hsb:∀k,k < 7->∃te ty p z,W.heap[k]?=some (.cells #[.iface te p] ty z):=fun k hk=>⟨_,_,_,_,hg k hk⟩
 obtain⟨lc1,l1,rfl,hq1⟩:=RZ rM (ad:=ad) Tryz.underlying22 (by kernel_rfl) (by kernel_rfl) rfl ahQ ak3 (pQ 1 _ v1 rfl rfl) h1 hsb
 obtain⟨TK,TJ,TH,TG,rfl⟩:∃TK TJ TH TG:Int,v0=.agg #[.int .i64 TK,.int .i64 TJ,.int .i64 TH,.int .i64 TG]:=by
  have ok:=pQ 0 44 v0 rfl rfl
  simp only [Value.okWide,Tryz.underlying44] at ok
  obtain⟨cs,rfl,hcs,_⟩:=ok
  obtain⟨fu,hfu⟩:=h0
  have hf:=vt 12 _ _ [.int .i64,.int .i64,.int .i64,.int .i64] _ _ (by kernel_rfl) hfu (by kernel_rfl)
  obtain⟨l,hl,hcl⟩:=HB 4 hf
  obtain⟨cl⟩:=cs
  simp only [Value.cells] at hcl
  subst hcl
  match l,hl with
  | [TK,TJ,TH,TG],_=>exact⟨TK,TJ,TH,TG,rfl⟩
 refine(yg TK TJ TH TG lc1 l1 ad W hq1 hg ho).mono ?_
 rintro e W' ⟨rfl,hq⟩
 exact⟨_,rfl,FU aba rfl par (by kernel_rfl) Tryz.underlying4 hW' rfl hq⟩
noncomputable def BD:Nat:=(World.holding Tryz.prog default ⟨#[],#[],[]⟩).heap.size
noncomputable def Ay (os:Os):World :=
 let w0:=World.holding Tryz.prog os ⟨#[.cells #[.string {data:=#[97,110,32,97,114,103,117,109,101,110,116,32,116,104,97,116,32,99,97,110,39,116,32,98,101]}] 295,.cells #[.string {data:=#[97,32,110,105,108,32,116,104,105,110,103]}] 295,.cells #[.string {data:=#[110,111,32,114,111,111,109]}] 295,.cells #[.string {data:=#[110,111,116,32,110,111,119]}] 295,.cells #[.string {data:=#[97,32,115,108,111,116,32,116,104,97,116,32,105,115,32,102,114,101,101]}] 295,.cells #[.string {data:=#[97,32,115,108,111,116,32,116,104,97,116,32,105,115,32,97,110,111,116,104,101,114,32,111,110,101,32,110,111,119]}] 295,.cells #[.string {data:=#[100,111,110,101,32,97,108,114,101,97,100,121]}] 295],#[],[]⟩
 {w0 with heap:=((((((((((((((w0.heap).modify 0 fun | .cells _ t lP=>.cells #[.iface 229 (.pointer (some ⟨BD+0,0,none⟩))] t lP | o=>o)).modify 2 fun | .cells _ t lP=>.cells #[.iface 229 (.pointer (some ⟨BD+1,0,none⟩))] t lP | o=>o)).modify 3 fun | .cells _ t lP=>.cells #[.iface 229 (.pointer (some ⟨BD+2,0,none⟩))] t lP | o=>o)).modify 1 fun | .cells _ t lP=>.cells #[.iface 229 (.pointer (some ⟨BD+3,0,none⟩))] t lP | o=>o)).modify 5 fun | .cells _ t lP=>.cells #[.iface 229 (.pointer (some ⟨BD+4,0,none⟩))] t lP | o=>o)).modify 6 fun | .cells _ t lP=>.cells #[.iface 229 (.pointer (some ⟨BD+5,0,none⟩))] t lP | o=>o)).modify 4 fun | .cells _ t lP=>.cells #[.iface 229 (.pointer (some ⟨BD+6,0,none⟩))] t lP | o=>o)}
def QV:Array Value:=#[.agg #[.int .i64 0,.int .i64 0,.int .i64 0,.int .i64 0],.slice none 0 0]
theorem WN (os:Os):laidMet Tryz.prog Rows.vergerStepsRow.laid ((Ay os).forCall (fun _ _=>0) ⟨#[],QV,[]⟩).memory :=
 laidMet_of_run' 8 (by kernel_rfl) (by kernel_rfl)
theorem reads (os:Os) {H:Type} (bx:TypeId×Value->H):∃places,DataW.whole bx Tryz.prog ((Ay os).forCall (fun _ _=>0) ⟨#[],QV,[]⟩).memory Tryz.f4.params.toList Rows.vergerStepsSpec.vars false QV.toList 8=some ([.agg [.lit (.int .i64 0),.lit (.int .i64 0),.lit (.int .i64 0),.lit (.int .i64 0)],.nil],[],places) :=
 ⟨[],by kernel_rfl⟩
set_option maxRecDepth 100000 in
theorem agt (os:Os) (started:os.Started) (H:Type) (bx:TypeId×Value->H) (F:Stop.Interp) :
 ReturnsInHanded {} Tryz.checked os 4 .any ((OpenSpec.ofChange Rows.vergerStepsSpec).preRow bx Tryz.prog Tryz.f4 Rows.vergerStepsRow.domain false Rows.vergerStepsRow.laid) (((OpenSpec.ofChange Rows.vergerStepsSpec).at F).post bx Tryz.prog Tryz.f4 false true false false):=by
 obtain⟨places,hx⟩:=reads os bx
 refine returnsInHanded_of_row (C:=Tryz.checked) (s:=OpenSpec.ofChange Rows.vergerStepsSpec) own started (by kernel_rfl) Tryz.func4
  (witness_row_at (enc:=bx) (C:=Tryz.checked) false (Ay os) QV rfl (by kernel_rfl) (by kernel_rfl) (by kernel_rfl)
    (OpenSpec.preRow_of_cond 8 hx (by kernel_rfl) (fun k hk=>by cases hk) (by kernel_rfl) (WN os))) ?_
 intro W base args ds gs before pQ hW _ _ _ hL hS _
 exact Yo H bx W base args ds gs before pQ hW hL hS
theorem apB:Rows.VergerStepsSaid :=
 OpenClaim.holds_of_cond 4 Tryz.f4 rfl rfl rfl rfl rfl rfl rfl ⟨rfl,rfl,rfl,rfl,rfl⟩ rfl rfl rfl rfl rfl (by kernel_rfl) Tryz.func4 (by kernel_rfl)
  (aaV (by kernel_rfl)) (by unfold Func.isWrapper;first | (rw [if_pos (by decide +kernel)];kernel_rfl) | (rw [if_neg (by decide +kernel)];exact⟨rfl,rfl⟩))
  (fun os started H bx _ F=>by rw [OpenClaim.pre_eq_preRow];exact agt os started H bx F)
theorem plain (f:FuncId) (fn:Func) (hf:Tryz.pinned.checked.prog.funcNamed "sexton/sextonlaw13.VergerSteps" = some f) (Zj:Tryz.pinned.checked.prog.funcs[f]?=some fn) :
 true=Tryz.pinned.checked.prog.looks [] /\ ∀(j:Nat) t,fn.params[j]?=some t->Tryz.pinned.checked.prog.wantsStandIn t=false:=by
 obtain rfl:f=4:=agM ((show Tryz.prog.funcNamed "sexton/sextonlaw13.VergerSteps" = some 4 by kernel_rfl).symm.trans hf) |>.symm
 obtain rfl:fn=Tryz.f4:=(agM (Tryz.func4.symm.trans Zj)).symm
 refine⟨by kernel_rfl,fun j t ht=>?_⟩
 have h:=(show (Tryz.f4.params.toList.all fun t=>Tryz.prog.wantsStandIn t==false)=true by kernel_rfl)
 have:=List.all_eq_true.1 h t (afP.2 (Array.mem_of_getElem? ht))
 exact(show Tryz.prog.wantsStandIn t=false by simpa using this)
theorem card:Rows.VergerStepsCardSaid :=
 Claim7.holds_tied_plain_at .later [] _ _ _ _ apB (fun _ h=>by cases h) (by kernel_rfl) (fun _ h=>by cases h) vergerSteps_row_tie rfl ⟨rfl,rfl⟩ (by kernel_rfl) rfl plain (by kernel_rfl)
#print axioms card
