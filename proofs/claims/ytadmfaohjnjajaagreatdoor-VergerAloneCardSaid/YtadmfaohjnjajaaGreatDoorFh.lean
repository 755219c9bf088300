/- VergerAlone: for every input the law returns true (the row, and the card that ties its listed variables to the program's text); no condition. -/
import Derived.Test.YtadmfaohjnjajaaGreatDoorFf
import Derived.Test.YtadmfaohjnjajaaGreatDoorFd
import Derived.Test.YtadmfaohjnjajaaGreatDoorCards
import Derived.Test.YtadmfaohjnjajaaGreatDoorTie
import Derived.Stop.ErrReads
import Derived.Lib.SmallJoins
set_option linter.unusedVariables false
set_option linter.unusedSimpArgs false
set_option maxHeartbeats 0
set_option maxRecDepth 100000
namespace Go.Proofs.YtadmfaohjnjajaaGreatDoor
open Go Go.Sx Go.Proofs Go.ChangeShapes Go.WideShapes Go.RowKit
namespace vergerAlone
theorem IH:∀(n:Nat) {vs:List Value},gQ (List.replicate n (.int .i64)) vs->∃l:List Int,l.length=n /\ vs=l.map (Value.int .i64)
 | 0,[],_=>⟨[],rfl,rfl⟩
 | 0,_::_,h=>by simp [gQ] at h
 | n+1,[],h=>by simp [List.replicate,gQ] at h
 | n+1,v::vs,h=>by
   cases v with
   | int k x =>obtain⟨rfl,h⟩:k=.i64 /\ gQ (List.replicate n (.int .i64)) vs:=h;obtain⟨l,h1,h2⟩:=IH n h;exact⟨x::l,by simp [h1],by simp [h2]⟩
   | _=>simp [List.replicate,gQ] at h
theorem own:ownKnob Tryz.prog.godebug=none:=by kernel_rfl
theorem amf : "*" ++ "errors.errorString" = "*errors.errorString" := by decide
theorem ahp:aaD Tryz.prog 29 229 295 9 where
 hi:=⟨_,Tryz.underlying29⟩
 row:=fun u h=>typeName_ptr_named (nm := "errors.errorString") (by rw [amf];kernel_rfl) (by kernel_rfl) (by decide) u (by rw [amf];exact h)
 hp:=Tryz.underlying229
 he:=⟨_,Tryz.underlying295,rfl,rfl⟩
 hs:=Tryz.underlying9
 hc:=by kernel_rfl
 hcs:=by kernel_rfl
theorem ak8:((begin Tryz.prog (fun _ _=>0) default).world.heap[(0:Nat)]?).bind Obj.row?=some (#[.nilIface],29):=by kernel_rfl
theorem ak7:((begin Tryz.prog (fun _ _=>0) default).world.heap[(2:Nat)]?).bind Obj.row?=some (#[.nilIface],29):=by kernel_rfl
theorem ak6:((begin Tryz.prog (fun _ _=>0) default).world.heap[(3:Nat)]?).bind Obj.row?=some (#[.nilIface],29):=by kernel_rfl
theorem ak5:((begin Tryz.prog (fun _ _=>0) default).world.heap[(1:Nat)]?).bind Obj.row?=some (#[.nilIface],29):=by kernel_rfl
theorem ak4:((begin Tryz.prog (fun _ _=>0) default).world.heap[(5:Nat)]?).bind Obj.row?=some (#[.nilIface],29):=by kernel_rfl
theorem ak3:((begin Tryz.prog (fun _ _=>0) default).world.heap[(6:Nat)]?).bind Obj.row?=some (#[.nilIface],29):=by kernel_rfl
theorem ak2:((begin Tryz.prog (fun _ _=>0) default).world.heap[(4:Nat)]?).bind Obj.row?=some (#[.nilIface],29):=by kernel_rfl
theorem anP {W:World} (h:laidMetH Tryz.prog Rows.vergerAloneRow.laid W) (hS:W.ShapedOpen Tryz.prog):∃ad:Nat->Addr,(∀n,n < 7->W.heap[(n:Nat)]?=some (.cells #[.iface 229 (.pointer (some (ad n)))] 29 (0,0))) /\ KX (zg W ad) (ad QF) (ad KY):=by
 have hm:=((laidMetH_iff.1 h).1).filter (fun x:String×DataW Unit=>(fun x=>["sexton/api.ErrArg", "sexton/api.ErrNil", "sexton/api.ErrFull", "sexton/api.ErrState", "sexton/api.ErrFreed", "sexton/api.ErrStale", "sexton/api.ErrTwice"].contains x.1) x)
 rw [show ((Rows.vergerAloneRow.laid.filter fun x=>x.2.handleName?.isNone).filter (fun x:String×DataW Unit=>(fun x=>["sexton/api.ErrArg", "sexton/api.ErrNil", "sexton/api.ErrFull", "sexton/api.ErrState", "sexton/api.ErrFreed", "sexton/api.ErrStale", "sexton/api.ErrTwice"].contains x.1) x))=([("sexton/api.ErrArg",[97,110,32,97,114,103,117,109,101,110,116,32,116,104,97,116,32,99,97,110,39,116,32,98,101]),("sexton/api.ErrNil",[97,32,110,105,108,32,116,104,105,110,103]),("sexton/api.ErrFull",[110,111,32,114,111,111,109]),("sexton/api.ErrState",[110,111,116,32,110,111,119]),("sexton/api.ErrFreed",[97,32,115,108,111,116,32,116,104,97,116,32,105,115,32,102,114,101,101]),("sexton/api.ErrStale",[97,32,115,108,111,116,32,116,104,97,116,32,105,115,32,97,110,111,116,104,101,114,32,111,110,101,32,110,111,119]),("sexton/api.ErrTwice",[100,111,110,101,32,97,108,114,101,97,100,121])].map fun x:String×List UInt8=>(x.1,gH x.2)) from by kernel_rfl] at hm
 obtain⟨ps,hL,jQ,hr⟩:=hm;obtain⟨ad,d1,d2⟩:=WW ahp (l:=[("sexton/api.ErrArg",[97,110,32,97,114,103,117,109,101,110,116,32,116,104,97,116,32,99,97,110,39,116,32,98,101]),("sexton/api.ErrNil",[97,32,110,105,108,32,116,104,105,110,103]),("sexton/api.ErrFull",[110,111,32,114,111,111,109]),("sexton/api.ErrState",[110,111,116,32,110,111,119]),("sexton/api.ErrFreed",[97,32,115,108,111,116,32,116,104,97,116,32,105,115,32,102,114,101,101]),("sexton/api.ErrStale",[97,32,115,108,111,116,32,116,104,97,116,32,105,115,32,97,110,111,116,104,101,114,32,111,110,101,32,110,111,119]),("sexton/api.ErrTwice",[100,111,110,101,32,97,108,114,101,97,100,121])]) (gs:=[0,2,3,1,5,6,4]) (by kernel_rfl) (fun g hg=>by simp at hg;rcases hg with rfl | rfl | rfl | rfl | rfl | rfl | rfl<;>kernel_rfl) (by decide) hL jQ hr
 have k0:W.heap[(0:Nat)]?=some (.cells #[.iface 229 (.pointer (some (ad 0)))] 29 (0,0)):=by obtain⟨t,ht⟩:=(d2 0 (by decide)).2.2;obtain⟨cs,hcs,_⟩:=hS.1 0 _ _ (aaF (by kernel_rfl)) ak8;rw [hcs] at ht;simp only [aaf,Obj.cells.injEq] at ht;obtain⟨rfl,rfl,_⟩:=ht;exact hcs
 have k1:W.heap[(2:Nat)]?=some (.cells #[.iface 229 (.pointer (some (ad 2)))] 29 (0,0)):=by obtain⟨t,ht⟩:=(d2 2 (by decide)).2.2;obtain⟨cs,hcs,_⟩:=hS.1 2 _ _ (aaF (by kernel_rfl)) ak7;rw [hcs] at ht;simp only [aaf,Obj.cells.injEq] at ht;obtain⟨rfl,rfl,_⟩:=ht;exact hcs
 have k2:W.heap[(3:Nat)]?=some (.cells #[.iface 229 (.pointer (some (ad 3)))] 29 (0,0)):=by obtain⟨t,ht⟩:=(d2 3 (by decide)).2.2;obtain⟨cs,hcs,_⟩:=hS.1 3 _ _ (aaF (by kernel_rfl)) ak6;rw [hcs] at ht;simp only [aaf,Obj.cells.injEq] at ht;obtain⟨rfl,rfl,_⟩:=ht;exact hcs
 have k3:W.heap[(1:Nat)]?=some (.cells #[.iface 229 (.pointer (some (ad 1)))] 29 (0,0)):=by obtain⟨t,ht⟩:=(d2 1 (by decide)).2.2;obtain⟨cs,hcs,_⟩:=hS.1 1 _ _ (aaF (by kernel_rfl)) ak5;rw [hcs] at ht;simp only [aaf,Obj.cells.injEq] at ht;obtain⟨rfl,rfl,_⟩:=ht;exact hcs
 have k4:W.heap[(5:Nat)]?=some (.cells #[.iface 229 (.pointer (some (ad 5)))] 29 (0,0)):=by obtain⟨t,ht⟩:=(d2 5 (by decide)).2.2;obtain⟨cs,hcs,_⟩:=hS.1 5 _ _ (aaF (by kernel_rfl)) ak4;rw [hcs] at ht;simp only [aaf,Obj.cells.injEq] at ht;obtain⟨rfl,rfl,_⟩:=ht;exact hcs
 have k5:W.heap[(6:Nat)]?=some (.cells #[.iface 229 (.pointer (some (ad 6)))] 29 (0,0)):=by obtain⟨t,ht⟩:=(d2 6 (by decide)).2.2;obtain⟨cs,hcs,_⟩:=hS.1 6 _ _ (aaF (by kernel_rfl)) ak3;rw [hcs] at ht;simp only [aaf,Obj.cells.injEq] at ht;obtain⟨rfl,rfl,_⟩:=ht;exact hcs
 have k6:W.heap[(4:Nat)]?=some (.cells #[.iface 229 (.pointer (some (ad 4)))] 29 (0,0)):=by obtain⟨t,ht⟩:=(d2 4 (by decide)).2.2;obtain⟨cs,hcs,_⟩:=hS.1 4 _ _ (aaF (by kernel_rfl)) ak2;rw [hcs] at ht;simp only [aaf,Obj.cells.injEq] at ht;obtain⟨rfl,rfl,_⟩:=ht;exact hcs
 have hg:∀n,n < 7->W.heap[(n:Nat)]?=some (.cells #[.iface 229 (.pointer (some (ad n)))] 29 (0,0)):=fun n hn=>by
  rcases (by omega:n=0 \/ n=1 \/ n=2 \/ n=3 \/ n=4 \/ n=5 \/ n=6) with rfl | rfl | rfl | rfl | rfl | rfl | rfl;all_goals first
   | exact k0
   | exact k1
   | exact k2
   | exact k3
   | exact k4
   | exact k5
   | exact k6
 exact⟨ad,hg,XG hg (d2 QF (by decide)).1 (d2 KY (by decide)).1 (d2 QF (by decide)).2.1 (d2 KY (by decide)).2.1 (d1 QF (by decide) KY (by decide) (by decide)) fun b off hb=>(hr b off hb).1⟩
theorem acL:laidOutB Tryz.prog=true:=by kernel_rfl
theorem par:∀t∈Tryz.f5.params.toList,Tryz.prog.readableRec t=true /\ t < Tryz.prog.types.size:=by
 have:(Tryz.f5.params.toList.all fun t=>Tryz.prog.readableRec t&&decide (t < Tryz.prog.types.size))=true:=by kernel_rfl
 intro t ht;have:=List.all_eq_true.1 this t ht;simpa using this
theorem ZW (H:Type) (enc:TypeId×Value->H) (W:World) (base:Nat) (args:Array Value) (ds gs:List (DataW H)) (before:List MemPlace)
 (lO:∀(j:Nat) t v,Tryz.f5.params[j]?=some t->args[j]?=some v->Value.okWide Tryz.prog W .any base t v)
 (hW:DataW.Whole enc Tryz.prog Tryz.f5.params.toList Rows.vergerAloneSpec.vars false W args.toList ds gs before) (hL:laidMetH Tryz.prog Rows.vergerAloneRow.laid W) (hS:W.ShapedOpen Tryz.prog) :
 Calls Tryz.prog 5 args W fun e W'=>∃v,e=.returned v /\ Rows.vergerAloneSpec.post enc Tryz.prog Tryz.f5 false true false false W args v W':=by
 have hW':=hW;obtain⟨p,q,hA,hV,rfl,hfz,jQ⟩:=hW;rw [show Tryz.f5.params=#[44,22] from Tryz.params5] at hA lO;obtain⟨v0,vs0,d0,ds0,p0,q0,bZ,rfl,rfl,h0,r0⟩:=trodAll_cons hA;obtain⟨v1,vs1,d1,ds1,p1,q1,rfl,rfl,rfl,h1,r1⟩:=trodAll_cons r0;obtain⟨rfl,rfl,rfl⟩:=trodAll_nil r1;obtain rfl:args=#[v0,v1]:=by cases args;simp_all
 obtain⟨ad,hg,ho⟩:=anP hL hS;have hsb:∀k,k < 7->∃te ty p z,W.heap[k]?=some (.cells #[.iface te p] ty z):=fun k hk=>⟨_,_,_,_,hg k hk⟩;obtain⟨lc1,l1,rfl,hq1⟩:=TV CR (ad:=ad) Tryz.underlying22 (by kernel_rfl) (by kernel_rfl) rfl ajP ang (lO 1 _ v1 rfl rfl) h1 hsb;obtain⟨Vr,Vq,Vp,Vo,rfl⟩:∃Vr Vq Vp Vo:Int,v0=.agg #[.int .i64 Vr,.int .i64 Vq,.int .i64 Vp,.int .i64 Vo]:=by
  have ok:=lO 0 44 v0 rfl rfl;simp only [Value.okWide,Tryz.underlying44] at ok;obtain⟨cs,rfl,hcs,_⟩:=ok;obtain⟨fu,hfu⟩:=h0;have hf:=wD 12 _ _ [.int .i64,.int .i64,.int .i64,.int .i64] _ _ (by kernel_rfl) hfu (by kernel_rfl);obtain⟨l,hl,hcl⟩:=IH 4 hf;obtain⟨cl⟩:=cs;simp only [Value.cells] at hcl;subst hcl
  match l,hl with
  | [Vr,Vq,Vp,Vo],_=>exact⟨Vr,Vq,Vp,Vo,rfl⟩
 refine(yV Vr Vq Vp Vo lc1 l1 ad W hq1 hg ho).mono ?_;rintro e W' ⟨rfl,hq⟩;exact⟨_,rfl,G4 acL rfl par (by kernel_rfl) Tryz.underlying4 hW' rfl hq⟩
noncomputable def Cj:Nat:=(World.holding Tryz.prog default ⟨#[],#[],[]⟩).heap.size
noncomputable def Bm (os:Os):World :=
 let w0:=World.holding Tryz.prog os ⟨#[.cells #[.string {data:=#[97,110,32,97,114,103,117,109,101,110,116,32,116,104,97,116,32,99,97,110,39,116,32,98,101]}] 295,.cells #[.string {data:=#[97,32,110,105,108,32,116,104,105,110,103]}] 295,.cells #[.string {data:=#[110,111,32,114,111,111,109]}] 295,.cells #[.string {data:=#[110,111,116,32,110,111,119]}] 295,.cells #[.string {data:=#[97,32,115,108,111,116,32,116,104,97,116,32,105,115,32,102,114,101,101]}] 295,.cells #[.string {data:=#[97,32,115,108,111,116,32,116,104,97,116,32,105,115,32,97,110,111,116,104,101,114,32,111,110,101,32,110,111,119]}] 295,.cells #[.string {data:=#[100,111,110,101,32,97,108,114,101,97,100,121]}] 295],#[],[]⟩
 {w0 with heap:=((((((((((((((w0.heap).modify 0 fun | .cells _ t mf=>.cells #[.iface 229 (.pointer (some ⟨Cj+0,0,none⟩))] t mf | o=>o)).modify 2 fun | .cells _ t mf=>.cells #[.iface 229 (.pointer (some ⟨Cj+1,0,none⟩))] t mf | o=>o)).modify 3 fun | .cells _ t mf=>.cells #[.iface 229 (.pointer (some ⟨Cj+2,0,none⟩))] t mf | o=>o)).modify 1 fun | .cells _ t mf=>.cells #[.iface 229 (.pointer (some ⟨Cj+3,0,none⟩))] t mf | o=>o)).modify 5 fun | .cells _ t mf=>.cells #[.iface 229 (.pointer (some ⟨Cj+4,0,none⟩))] t mf | o=>o)).modify 6 fun | .cells _ t mf=>.cells #[.iface 229 (.pointer (some ⟨Cj+5,0,none⟩))] t mf | o=>o)).modify 4 fun | .cells _ t mf=>.cells #[.iface 229 (.pointer (some ⟨Cj+6,0,none⟩))] t mf | o=>o)}
def SN:Array Value:=#[.agg #[.int .i64 0,.int .i64 0,.int .i64 0,.int .i64 0],.slice none 0 0]
theorem Yv (os:Os):laidMet Tryz.prog Rows.vergerAloneRow.laid ((Bm os).forCall (fun _ _=>0) ⟨#[],SN,[]⟩).memory :=
 laidMet_of_run' 8 (by kernel_rfl) (by kernel_rfl)
theorem reads (os:Os) {H:Type} (enc:TypeId×Value->H):∃places,DataW.whole enc Tryz.prog ((Bm os).forCall (fun _ _=>0) ⟨#[],SN,[]⟩).memory Tryz.f5.params.toList Rows.vergerAloneSpec.vars false SN.toList 8=some ([.agg [.lit (.int .i64 0),.lit (.int .i64 0),.lit (.int .i64 0),.lit (.int .i64 0)],.nil],[],places) :=
 ⟨[],by kernel_rfl⟩
set_option maxRecDepth 100000 in
theorem aik (os:Os) (started:os.Started) (H:Type) (enc:TypeId×Value->H) (F:Stop.Interp) :
 ReturnsInHanded {} Tryz.checked os 5 .any ((OpenSpec.ofChange Rows.vergerAloneSpec).preRow enc Tryz.prog Tryz.f5 Rows.vergerAloneRow.domain false Rows.vergerAloneRow.laid) (((OpenSpec.ofChange Rows.vergerAloneSpec).at F).post enc Tryz.prog Tryz.f5 false true false false):=by
 obtain⟨places,hx⟩:=reads os enc
 refine returnsInHanded_of_row (C:=Tryz.checked) (s:=OpenSpec.ofChange Rows.vergerAloneSpec) own started (by kernel_rfl) Tryz.func5
  (witness_row_at (enc:=enc) (C:=Tryz.checked) false (Bm os) SN rfl (by kernel_rfl) (by kernel_rfl) (by kernel_rfl)
    (OpenSpec.preRow_of_cond 8 hx (by kernel_rfl) (fun k hk=>by cases hk) (by kernel_rfl) (Yv os))) ?_
 intro W base args ds gs before lO hW _ _ _ hL hS _;exact ZW H enc W base args ds gs before lO hW hL hS
theorem ar0:Rows.VergerAloneSaid :=
 OpenClaim.holds_of_cond 5 Tryz.f5 rfl rfl rfl rfl rfl rfl rfl ⟨rfl,rfl,rfl,rfl,rfl⟩ rfl rfl rfl rfl rfl (by kernel_rfl) Tryz.func5 (by kernel_rfl)
  (aaF (by kernel_rfl)) (by unfold Func.isWrapper;first | (rw [if_pos (by decide +kernel)];kernel_rfl) | (rw [if_neg (by decide +kernel)];exact⟨rfl,rfl⟩))
  (fun os started H enc _ F=>by rw [OpenClaim.pre_eq_preRow];exact aik os started H enc F)
theorem plain (f:FuncId) (fn:Func) (hf:Tryz.pinned.checked.prog.funcNamed "sexton/sextonlaw13.VergerAlone" = some f) (Nu:Tryz.pinned.checked.prog.funcs[f]?=some fn) :
 true=Tryz.pinned.checked.prog.looks [] /\ ∀(j:Nat) t,fn.params[j]?=some t->Tryz.pinned.checked.prog.wantsStandIn t=false:=by
 obtain rfl:f=5:=afT ((show Tryz.prog.funcNamed "sexton/sextonlaw13.VergerAlone" = some 5 by kernel_rfl).symm.trans hf) |>.symm
 obtain rfl:fn=Tryz.f5:=(afT (Tryz.func5.symm.trans Nu)).symm;refine⟨by kernel_rfl,fun j t ht=>?_⟩;have h:=(show (Tryz.f5.params.toList.all fun t=>Tryz.prog.wantsStandIn t==false)=true by kernel_rfl);have:=List.all_eq_true.1 h t (afF.2 (Array.mem_of_getElem? ht));exact(show Tryz.prog.wantsStandIn t=false by simpa using this)
theorem card:Rows.VergerAloneCardSaid :=
 Claim7.holds_tied_plain_at .later [] _ _ _ _ ar0 (fun _ h=>by cases h) (by kernel_rfl) (fun _ h=>by cases h) vergerAlone_row_tie rfl ⟨rfl,rfl⟩ (by kernel_rfl) rfl plain (by kernel_rfl)
#print axioms card
