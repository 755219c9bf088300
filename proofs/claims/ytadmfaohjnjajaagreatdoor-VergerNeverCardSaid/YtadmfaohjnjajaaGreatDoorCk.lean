import Derived.Test.YtadmfaohjnjajaaGreatDoorCe
import Derived.Test.YtadmfaohjnjajaaGreatDoorSxM
import Derived.WideKeyArgs
import Derived.ChangeSame
import Derived.RowKit
import Derived.RowKit3
import Derived.LaidLaws
import Derived.Deep.DeepHandedRow
import Derived.SevenTiedAt
import Derived.JoinedCond
import Derived.OpenShut
import Derived.Deep.Slices
import Derived.Test.YtadmfaohjnjajaaGreatDoorRd
import Derived.LaidSub
set_option linter.unusedVariables false
set_option linter.unusedSimpArgs false
set_option maxHeartbeats 4000000
namespace Go.Proofs.YtadmfaohjnjajaaGreatDoor
section
open Go Go.Sx Go.Proofs
set_option maxRecDepth 100000
set_option maxHeartbeats 0
variable {σ:Sg}
def opN (ops:List O) (i:Int):O:=let o:=ops.getD (0+i.toNat) kops.dflt;⟨o.kind,o.key,o.val,o.tall⟩
def Xg (ops:List O) (no:Nat) (i:Int) (p:PlotM) (v:VerM):Prop:=SV.v (.c (.vs 7 0 no 4 false))=.v (.c (.vs 7 0 no 4 false)) /\ SV.v (.c (.ptr 8 0))=.v (.c (.ptr 8 0)) /\ SV.v (.c (.ptr 9 0))=.v (.c (.ptr 9 0)) /\ SV.v (.c (.it .i64 i))=.v (.c (.it .i64 i)) /\ SV.v (.c (.il .i64 (Int.ofNat 0)))=.v (.c (.il .i64 (Int.ofNat 0))) /\ yT ops p v=yT ops p v
theorem TV {ops:List O} {no:Nat} {i:Int} {p:PlotM} {v:VerM}:Xg ops no i p v:=⟨rfl,rfl,rfl,rfl,rfl,rfl⟩
noncomputable def Ny (F:VlF) (e:PlotM->VerM->MI) (c:PlotM->VerM->Prop) (ops:List O) (no:Nat) (i:Int) (p:PlotM) (v:VerM) (o:O):T (Ex×Sx.St AV) :=
 .need (F.okk v) (.ite (!F.fit v o) (.leaf (.normal,xY ops no (IntKind.wrap .i64 (i+1)) p v)) (.need (F.okg v o) (.need (fO (Xg ops no i p (F.gv v o) /\ c p (F.gv v o)))
  (.ite (jG (e p (F.gv v o)).v==false) (.need (decide ((e p (F.gv v o)).v.rite.notes.length<=1000000)) (.ite ((((e p (F.gv v o)).v.rite.notes.length:Nat):Int) != 0) (.leaf (.ret,xY ops no i (e p (F.gv v o)).p (e p (F.gv v o)).v)) (.leaf (.normal,xY ops no (IntKind.wrap .i64 (i+1)) (e p (F.gv v o)).p (e p (F.gv v o)).v))))
    (.leaf (.ret,xY ops no i (e p (F.gv v o)).p (e p (F.gv v o)).v))))))
theorem XX (σ:Sg) (F:VlF) (e:PlotM->VerM->MI) (c:PlotM->VerM->Prop) (ops:List O) (no:Nat) (i:Int) (p:PlotM) (v:VerM):(xc (NV σ) (aN (lv (NV σ) (F7 σ F) 8)) (LX e c) 81 N11 (xY ops no i p v)).bind (cM 10 81 Iz cP) =
 .ite (decide (i < (no:Int))) (.need (decide (0<=i /\ i < (no:Int))) (.need (decide (0+i.toNat < ops.length)) (Ny F e c ops no i p v (opN ops i)))) (.leaf (.exit 0,xY ops no i p v)):=by kernel_rfl
structure MO where
 i:Nat
 p:PlotM
 v:VerM
def xU (n:Nat) (ops:List O) (m:MO):Prop:=m.i<=ops.length /\ ops.length<=40 /\ NvI n 0 m.v m.p /\ m.v.doing=0
noncomputable def Bi (o:O) (m:MO):MO:=cond (iw m.v.sort o) ⟨m.i+1,(mA m.p (fB m.v o)).p,(mA m.p (fB m.v o)).v⟩ ⟨m.i+1,m.p,m.v⟩
noncomputable def nO (n:Nat) (ops:List O) (m:MO):T (Ex×MO):=.need (fO (xU n ops m)) (.leaf (if m.i < ops.length then(.normal,Bi (opN ops m.i) m) else(.exit 0,m)))
def GW (ops:List O) (m:MO):Sx.St AV:=xY ops ops.length (m.i:Int) m.p m.v
theorem JV:bO Tryz.prog (NV σ) (F7 σ vlM):=au DC (au Tx (au LB aJ))
theorem Wd {n k:Nat} {v:VerM} {p:PlotM} (h:NvI n k v p):yO v:=h.wf.kj
theorem Lj {n:Nat} {ops:List O} {m:MO} (h:xU n ops m) (hl:m.i < ops.length) (o:O):xU n ops (Bi o m):=by
 obtain⟨h1,h2,h3,h4⟩:=h
 unfold Bi
 cases hf:iw m.v.sort o with
 | false=>exact⟨hl,h2,h3,h4⟩
 | true =>
   obtain⟨g1,g2,g3⟩:=GA h3 h4 hf
   obtain⟨_,b,c,d⟩:=Bz (n:=n) (f:=19000) (m:=⟨0,m.p,fB m.v o⟩) rfl g2
   exact⟨hl,h2,b,c⟩
theorem Ej (σ:Sg) (n:Nat) (ops:List O) (m:MO) (r:Ex×MO) (h:(nO n ops m).val=some r) :
 ((xc (NV σ) (aN (lv (NV σ) (F7 σ vlM) 8)) (LX mA fun p v=>NvI n 19000 v p) 81 N11 (GW ops m)).bind (cM 10 81 Iz cP)).val=some (r.1,GW ops r.2):=by
 obtain⟨hb,h⟩:=aj (h:(T.need _ _).val=_)
 obtain⟨hi,hs,hv,hd⟩:=eU hb
 obtain⟨i,p,v⟩:=m
 dsimp only at hi hv hd
 simp only [T.val,Option.some.injEq] at h
 subst h
 show ((xc (NV σ) _ _ 81 N11 (xY ops ops.length i p v)).bind _).val=_
 rw [XX]
 by_cases hl:i < ops.length
 ·rw [if_pos hl,ivT (decide_eq_true (by omega)),nv (decide_eq_true ⟨by omega,by omega⟩),nv (decide_eq_true (by omega))]
  unfold Ny
  refine(nv (fN ⟨Wd hv,hd⟩)).trans ?_
  show (T.ite (!iw v.sort (opN ops i)) _ _).val=some (Ex.normal,GW ops (Bi (opN ops i) ⟨i,p,v⟩))
  unfold Bi
  dsimp only
  cases hf:iw v.sort (opN ops i) with
  | false =>
    refine(ivT rfl).trans ?_
    show some (Ex.normal,xY ops ops.length (IntKind.wrap .i64 ((i:Int)+1)) p v)=_
    rw [FI (by omega)];rfl
  | true =>
    obtain⟨g1,g2,g3⟩:=GA hv hd hf
    obtain⟨_,b,c,d⟩:=Bz (n:=n) (f:=19000) (m:=⟨0,p,fB v (opN ops i)⟩) rfl g2
    have hn:=qf b.run
    have hw:jG (mA p (fB v (opN ops i))).v=false:=by unfold jG;rw [show (mA p (fB v (opN ops i))).v.doing=0 from c];rfl
    have hn:(mA p (fB v (opN ops i))).v.rite.notes=[]:=hn
    refine(ivF rfl).trans ((nv (fN g1)).trans ((nv (fN ⟨TV,g2⟩)).trans ((ivT (by show (jG (mA p (fB v (opN ops i))).v==false)=true;rw [hw];rfl)).trans ((nv (decide_eq_true (by show (mA p (fB v (opN ops i))).v.rite.notes.length<=_;rw [hn];exact Nat.zero_le _))).trans
     ((ivF (by show ((((mA p (fB v (opN ops i))).v.rite.notes.length:Nat):Int) != 0)=false;rw [hn];rfl)).trans ?_)))))
    show some (Ex.normal,xY ops ops.length (IntKind.wrap .i64 ((i:Int)+1)) _ _)=_
    rw [FI (by omega)];rfl
 ·rw [if_neg hl]
  exact ivF (decide_eq_false (by omega))
noncomputable def wK (ops:List O):Nat->MO->MO
 | 0,m=>m
 | f+1,m=>wK ops f (Bi (opN ops m.i) m)
theorem SZ {o:O} {m:MO}:(Bi o m).i=m.i+1:=by unfold Bi;cases iw m.v.sort o<;>rfl
theorem My {n:Nat} {ops:List O}:∀{f:Nat} {m:MO},m.i+f=ops.length->xU n ops m->dj (nO n ops) (f+1) m=some (.exit 0,wK ops f m) /\ (wK ops f m).i=ops.length
 | 0,m,hk,h=>by
   rw [dj,nO,nv (fN h)]
   simp only [T.val]
   rw [if_neg (by omega)]
   exact⟨rfl,hk⟩
 | f+1,m,hk,h=>by
   rw [dj,nO,nv (fN h)]
   simp only [T.val]
   rw [if_pos (by omega)]
   exact My (f:=f) (m:=Bi (opN ops m.i) m) (by rw [SZ];omega) (Lj h (by omega) _)
def Xn (ops:List O) (no:Nat) (p:PlotM) (v:VerM) (s:Sx.St AV):Prop:=Sx.look s.E 1=.v (.c (.vs 7 0 no 4 false)) /\ Sx.look s.E 5=.v (.c (.ptr 8 0)) /\ Sx.look s.E 6=.v (.c (.ptr 9 0)) /\ Sx.look s.E 8=.v (.c (.il .i64 (Int.ofNat 0))) /\ s.H=yT ops p v
noncomputable def g11 (ops:List O) (no:Nat) (p:PlotM) (v:VerM) (e:MO) (c:Prop) (s:Sx.St AV):T (Ex×Sx.St AV):=.need (fO (Xn ops no p v s /\ c)) (.leaf (.exit 0,xY ops no e.i e.p e.v))
theorem TS {N':Env AV} (hF:N'.F=(NV σ).F) (hG:N'.G=(NV σ).G) (n:Nat) (ops:List O) (p:PlotM) (v:VerM):dG Tryz.prog N' 81 N11 (g11 ops ops.length p v (wK ops ops.length ⟨0,p,v⟩) (xU n ops ⟨0,p,v⟩)):=by
 have hcal:dM Tryz.prog (NV σ) (aN (lv (NV σ) (F7 σ vlM) 8)):=bK (iH okV oq hvV JV 8)
 refine cJ (N:=NV σ) hF hG okV hcal (lp:=LX mA fun p v=>NvI n 19000 v p) (Pp n) fun s s' ex hgs=>?_
 obtain⟨E1,H1⟩:=s
 unfold g11 at hgs
 replace hgs:=aj hgs
 obtain⟨hb,hgs⟩:=hgs
 obtain⟨⟨e1,e5,e6,e8,eH⟩,hv⟩:=eU hb
 simp only at e1 e5 e6 e8 eH
 subst eH
 simp only [T.val,Option.some.injEq,Prod.mk.injEq] at hgs
 obtain⟨rfl,rfl⟩:=hgs
 refine⟨{M:=MO,fam:=GW ops,step:=nO n ops,ks:=Iz,pk:=cP,hpk:=fun d a h=>(by cases h),L:=10,len:=rfl,hGL:=(by show 7<=10;decide),run:=Ej σ n ops,m:=⟨0,p,v⟩,k:=ops.length+1,m':=wK ops ops.length ⟨0,p,v⟩,ent:=?_,it:=(My (m:=⟨0,p,v⟩) (by show 0+_=_;omega) hv).1,fin:=rfl}⟩
 have he:=eT (N:=NV σ) (nt:=81) (s:={E:=E1,H:=yT ops p v}) (ks:=Iz) (E':=[(1,.v (.c (.vs 7 0 ops.length 4 false))),(5,.v (.c (.ptr 8 0))),(6,.v (.c (.ptr 9 0))),(8,.v (.c (.it .i64 ((0:Nat):Int))))]) (l:=[]) (fun a h=>by cases h) (by show 7<=10;decide) fun k hk=>by
  simp only [Iz,List.mem_cons,List.not_mem_nil,or_false] at hk
  rcases hk with rfl | rfl | rfl | rfl
  ·exact .inl e1.symm
  ·exact .inl e5.symm
  ·exact .inl e6.symm
  ·refine .inr (.inl ⟨?_,?_,fun ρ=>?_⟩)
   ·show Sx.look E1 8≠_
    rw [e8];exact fun h=>by cases h
   ·exact pL 0
   ·show _=(Sx.look E1 8).den ρ
    rw [e8];rfl
 exact he
end
section
open Go Go.Sx Go.Proofs
set_option maxRecDepth 100000
set_option maxHeartbeats 0
noncomputable def mAw:List Bool:=mkM 6
theorem HW (σ:Sg):gg σ Sc 6 mAw [] []=.need (decide (σ ErS=σ ErS)) (.need (decide (σ ErA=σ ErA)) (.leaf (.v (.c (.bt true)),[],[]))):=by kernel_rfl
variable {σ:Sg}
theorem JG {tab:Tab} (ht:bO Tryz.prog (NV σ) tab) {f:FuncId} {M:List Bool} (hM:7=M.length) (h:(gg σ tab f M [] []).val=some (.v (.c (.bt true)),[],[])):FnOk Tryz.prog (NV σ) f (aZ isS M FU):=by
 refine dQ bR hM fun args l v l' nw h' hl hargs=>?_
 unfold FU at h'
 split at h'
 ·simp only [T.val,Option.some.injEq,Prod.mk.injEq] at h'
  obtain⟨rfl,rfl,rfl⟩:=h'
  exact mZ (oY ht hM (fun x hx=>by cases hx) h).1 (fun c hc n hn=>by simp [V1.cells] at hc;subst hc;cases hn) fun ρ=>rfl
 ·simp [T.val] at h'
theorem ND:FnOk Tryz.prog (NV σ) 6 (aZ isS mAw FU):=JG FV (gC _) (by rw [HW];simp [T.val])
noncomputable def Re (F:VlF):Tab:=aQ 6 (aZ isS mAw FU) (aQ 7 (aZ isS mLd (Mi F.okl F.ld)) (aQ 8 (aZ isS noM (mP aI5 oVer (fun x=>some (!(F.bad x))) F.mv)) bm))
theorem JQ:bO Tryz.prog (NV σ) (Re vlM):=au ND (au Mh (au Hn aJ))
def jR (s:Int):Int:=1+Int.tmod (IntKind.wrap .u64 s) 5
noncomputable def WD (ops:List O) (no:Nat) (p:PlotM) (v:VerM) (e:MO) (c:Prop):Lp:=gT 3 11 (g11 ops no p v e c) fJ
noncomputable def KJ (σ:Sg) (F:VlF) (s:Int) (ops:List O) (no:Nat) (e:MO) (c:Prop):T (SV×Hp AV) :=
 Q.lv (NVl (WD ops no (F.ld (jR s) 200) (F.mv (jR s,1,0,1,1)) e c) σ) (Re F) 24 (.fn 3) [.v (.c (.it .i64 s)),.v (.c (.vs 7 0 no 4 false))] (hpO allM [.opsA ops])
end
end Go.Proofs.YtadmfaohjnjajaaGreatDoor

namespace Go.Sx
section
open Go.ChangeShapes Go.WideShapes Go.RowKit
theorem Quiet.same {W W':World} (h:Quiet W W') {p:MemPlace} (hp:p.block < W.heap.size):W.sameAt W' p:=by
 cases p with
 | cell b off =>
   have:=h.block b hp
   simp only [World.sameAt,World.cell?,this]
 | map b=>exact h.block b hp
theorem Quiet.frozen {W W':World} (h:Quiet W W') (a:Addr) (ha:a.block < W.heap.size):W'.frozen? a=W.frozen? a:=by
 simp only [World.frozen?,h.block a.block ha]
theorem Quiet.kept {W W':World} (h:Quiet W W') (may:MemPlace->Prop):W.keptBut W' may:=by
 refine⟨h.os,h.output,fun i hi=>?_⟩
 rw [h.block i hi]
 cases hx:W.heap[i]? with
 | none=>trivial
 | some o=>cases o<;>simp
section
variable {H:Type} {enc:TypeId×Value->H} {P:Program}
theorem pR (hl:laidOutB P=true) {W W':World} {sp':Nat->Bool}:∀{ts:List TypeId} {vs:List Value} {ds:List (DataW H)} {ps:List MemPlace},(∀t∈ts,P.readableRec t=true /\ t < P.types.size) ->
 DataW.TrodAll enc P W 0 (fun _=>true) true ts vs ds ps->(∀p∈ps,W.sameAt W' p)->(∀p∈ps,sp' p.block=true)->DataW.TrodAll enc P W' 0 sp' true ts vs ds ps
 | [],[],[],_,_,h,_,_=>h
 | t::ts,v::vs,d::ds,ps,ht,h,hs,hsp=>by
   obtain⟨p,q,h1,h2,rfl⟩:=h
   have:=ht t (List.mem_cons_self ..)
   refine⟨p,q,WideElems.Trod_stays hl this.1 this.2 h1 (fun x hx=>hs x (List.mem_append_left _ hx)) (fun x hx=>hsp x (List.mem_append_left _ hx)),?_,rfl⟩
   exact pR hl (fun x hx=>ht x (List.mem_cons_of_mem _ hx)) h2 (fun x hx=>hs x (List.mem_append_right _ hx)) (fun x hx=>hsp x (List.mem_append_right _ hx))
 | [],[],_::_,_,_,h,_,_=>by simp [DataW.TrodAll] at h
 | [],_::_,_,_,_,h,_,_=>by simp [DataW.TrodAll] at h
 | _::_,[],_,_,_,h,_,_=>by simp [DataW.TrodAll] at h
 | _::_,_::_,[],_,_,h,_,_=>by simp [DataW.TrodAll] at h
theorem yN (hl:laidOutB P=true) {f:Func} {s:ChangeSpec} {apart fresh handsOn again:Bool} {W W':World} {args:Array Value} {ds gs:List (DataW H)} {before:List MemPlace} {tb:TypeId}
 (hvars:s.vars=[]) (hpar:∀t∈f.params.toList,P.readableRec t=true /\ t < P.types.size) (hres:f.resultTypes=#[tb]) (htb:P.underlying tb=some .bool)
 (hW:DataW.Whole enc P f.params.toList s.vars apart W args.toList ds gs before)
 (hspec:s.fn H ds={results:=[.lit (.bool true)],args:=ds}) (hq:Quiet W W') :
 s.post enc P f apart fresh handsOn again W args (.bool true) W':=by
 have hW':=hW
 obtain⟨p,q,hA,hV,rfl,hfz,hnd⟩:=hW
 rw [hvars] at hV
 obtain⟨rfl,rfl⟩:=trodVars_none hV
 have hlt:=hW'.lt
 simp only [List.append_nil] at hW' hlt hfz
 have hspec':s.fn H (ds++[])={results:=[.lit (.bool true)],args:=ds}:=by rw [List.append_nil];exact hspec
 have hok:=ok_one (P:=P) (W':=W') (f:=f) (v:=.bool true) hres rfl (okWide_bool_mk htb true)
 have hold:∀p'∈p,(fun b=>decide (b < W.heap.size)) p'.block=true:=fun p' hp=>by simpa using hlt p' hp
 have hargs:∀sp:Nat->Bool,(∀x∈p,sp x.block=true)->DataW.TrodAll enc P W' 0 sp true f.params.toList args.toList (s.fn H (ds++[])).args p:=by
  intro sp hsp
  rw [hspec']
  exact pR hl hpar hA (fun x hx=>hq.same (hlt x hx)) hsp
 have hres':∀(b:Nat) (sp:Nat->Bool) (hd:Bool),DataW.TrodAll enc P W' b sp hd f.resultTypes.toList ((Value.bool true).resultList f.resultTypes.size) (s.fn H (ds++[])).results []:=by
  intro b sp hd
  rw [hspec',hres]
  exact⟨[],[],shut_bool htb _,rfl,rfl⟩
 have hvars':∀sp:Nat->Bool,DataW.TrodVars enc P W' sp s.vars (s.fn H (ds++[])).vars []:=by
  intro sp
  rw [hspec',hvars]
  exact rfl
 refine⟨ds,[],p,[],p,[],hW',hres' _ _ _,hargs _ hold,hvars' _,World.keptBut_mono (fun x hx=>⟨hx,Or.inr (by simpa using hx)⟩) (hq.kept _),fun _=>?_⟩
 obtain⟨_,_,_,_,_,hz,hn⟩:=hW'
 refine⟨hok,_,_,([]++p)++[],⟨[]++p,[],trodAll_append (hargs _ (fun _ _=>rfl)) (hres' _ _ _),hvars' _,rfl,?_,?_⟩,?_⟩
 ·intro b off hp
  simp only [List.nil_append,List.append_nil] at hp
  rw [hq.frozen _ (hlt _ hp)]
  exact hfz b off hp
 ·intro ha
  simpa using hnd ha
 ·intro x hx _
  simpa using hx
end
structure SentTy (P:Program) (ti tp te ts:TypeId):Prop where
 hi:∃ms,P.underlying ti=some (.interface ms)
 row:∀u,P.typeName? 3 u=some "*errors.errorString" -> u=tp
 hp:P.underlying tp=some (.pointer te)
 he:∃f:Field,P.underlying te=some (.struct #[f]) /\ f.type=ts /\ f.offset=0
 hs:P.underlying ts=some .string
 hc:P.cellsOf te=1
 hcs:P.cellsOf ts=1
def sent (text:List UInt8):DataW Unit:=.iface "*errors.errorString" (.ptr (.agg [.lit (.string text)]))
end
section
open Go.ChangeShapes Go.WideShapes
def dC:List FK->List Value->Prop
 | [],[]=>True
 | .bool::ks,.bool _::vs=>dC ks vs
 | .int k::ks,.int k' _::vs=>k'=k /\ dC ks vs
 | .str::ks,.string _::vs=>dC ks vs
 | _,_=>False
theorem lM:∀{ks ks':List FK} {vs vs':List Value},dC ks vs->dC ks' vs'->dC (ks++ks') (vs++vs')
 | [],_,[],_,_,h'=>h'
 | [],_,_::_,_,h,_=>by simp [dC] at h
 | k::_,_,[],_,h,_=>by cases k<;>simp [dC] at h
 | k::ks,ks',v::vs,vs',h,h'=>by
   cases k<;>cases v<;>first | exact lM (ks:=ks) (vs:=vs) h h' | exact⟨h.1,lM (ks:=ks) (vs:=vs) h.2 h'⟩ | exact absurd h (by simp [dC])
theorem m6 {P:Program} {t:TypeId} {n:Nat} (h:jo P t=some n):P.cellsOf t=n:=by
 unfold jo at h
 unfold Program.cellsOf
 cases hi:P.info? t with
 | none=>rw [hi] at h;cases h
 | some i=>rw [hi] at h;cases h;rfl
section
variable {H:Type} {enc:TypeId×Value->H} {P:Program} {w:World} {base:Nat} {sp:Nat->Bool} {held:Bool}
theorem oD {rec:TypeId->Option (List FK)} {cs:List Value} {n:Nat}
 (hrec:∀t ks vs x,rec t=some ks->DataW.trod enc P w base sp held n t vs=some x->P.cellsOf t=ks.length->dC ks vs) :
 ∀(fs:List Field) (off:Nat) (ks:List FK),mY P rec fs off=some ks->(∀f∈fs,∃y,DataW.trod enc P w base sp held n f.type ((cs.drop f.offset).take (P.cellsOf f.type))=some y)->dC ks ((cs.drop off).take ks.length)
 | [],off,ks,h,_=>by
   simp only [mY,Option.some.injEq] at h
   subst h
   simp [dC]
 | f::fs,off,ks,h,hf=>by
   simp only [mY] at h
   split at h
   ·cases h
   ·split at h
    ·cases h
    ·rename_i hoff
     have hoff:=(ai _ _).1 hoff
     split at h
     ·cases h
     ·rename_i k1 hk1
      split at h
      ·cases h
      ·rename_i m hm
       split at h
       ·cases h
       ·rename_i hlen
        have hlen:=(ai _ _).1 hlen
        split at h
        ·rename_i l hl
         cases h
         have hc:=m6 hm
         obtain⟨y,hy⟩:=hf f (List.mem_cons_self ..)
         have h1:=hrec f.type k1 _ y hk1 hy (hc.trans hlen)
         rw [hoff,hc,hlen] at h1
         have h2:=oD hrec fs (off+m) l hl (fun g hg=>hf g (List.mem_cons_of_mem _ hg))
         have e:(cs.drop off).take (k1++l).length=(cs.drop off).take k1.length++(cs.drop (off+m)).take l.length:=by
          rw [List.length_append,List.take_add,List.drop_drop,hlen]
         rw [e]
         exact lM h1 h2
        ·cases h
theorem sI:∀(d n:Nat) (t:TypeId) (ks:List FK) (cs:List Value) (x:DataW H×List MemPlace),jU P d t=some ks->DataW.trod enc P w base sp held n t cs=some x->P.cellsOf t=ks.length->dC ks cs
 | 0,_,_,_,_,_,h,_,_=>by simp [jU] at h
 | d+1,n,t,ks,cs,x,h,ht,hc=>by
   simp only [jU] at h
   split at h
   ·rename_i hu
    cases h
    obtain⟨b,rfl,_⟩:=DataW.trod_bool hu ht
    simp [dC]
   ·rename_i k hu
    cases h
    obtain⟨m,rfl,_⟩:=DataW.trod_int hu ht
    simp [dC]
   ·rename_i hu
    cases h
    obtain⟨m,rfl,_⟩:=DataW.trod_string hu ht
    simp [dC]
   ·rename_i fs hu
    split at h
    ·cases h
    ·obtain⟨xs,m,rfl,_,hl,hxl,hx⟩:=DataW.trod_struct hu ht
     have:=oD (H:=H) (enc:=enc) (w:=w) (base:=base) (sp:=sp) (held:=held) (n:=m) (cs:=cs) (fun t ks vs x h1 h2 h3=>sI d m t ks vs x h1 h2 h3) fs.toList 0 ks h (fun f hf=>by
      obtain⟨i,hi⟩:=List.mem_iff_getElem?.1 hf
      have hi':fs[i]?=some f:=by simpa using hi
      have hlt:i < xs.length:=by rw [hxl];exact(Array.getElem?_eq_some_iff.1 hi').1
      exact⟨xs[i],by rw [hx i f hi',List.getElem?_eq_getElem hlt]⟩)
     rw [List.drop_zero,List.take_of_length_le (by omega)] at this
     exact this
   ·rename_i len e hu
    split at h
    ·rename_i sz hs
     obtain⟨xs,m,rfl,_,hl,hxl,hx⟩:=DataW.trod_array hu ht
     have:=oD (H:=H) (enc:=enc) (w:=w) (base:=base) (sp:=sp) (held:=held) (n:=m) (cs:=cs) (fun t ks vs x h1 h2 h3=>sI d m t ks vs x h1 h2 h3) (AE e sz len 0) 0 ks h (fun f hf=>by
      rw [arrFs_eq] at hf
      obtain⟨i,hi,rfl⟩:=List.mem_map.1 hf
      have hi:i < len:=by simpa using List.mem_range'_1.1 hi
      have hlt:i < xs.length:=by omega
      have hx:=hx i hi
      rw [m6 hs] at hx
      exact⟨xs[i],by simp only [Hf];rw [m6 hs,hx,List.getElem?_eq_getElem hlt]⟩)
     rw [List.drop_zero,List.take_of_length_le (by omega)] at this
     exact this
    ·cases h
   ·cases h
end
end
end Go.Sx

namespace Go.Proofs.YtadmfaohjnjajaaGreatDoor
section
open Go Go.Sx Go.Proofs Go.ChangeShapes Go.WideShapes
set_option maxRecDepth 100000
section
variable {P:Program} {W:World}
theorem KC {ti tp te ts:TypeId} (S:SentTy P ti tp te ts):∀{l:List (String×List UInt8)} {gs:List Nat} {ps:List MemPlace},
 l.map (fun x=>P.globalNamed x.1)=gs.map some->(∀g∈gs,(P.globals[g]?).map (·.type)=some ti)->gs.Nodup ->
 DataW.LaidVars P W (l.map fun x=>(x.1,sent x.2)) ps->ps.Nodup->(∀b off,MemPlace.cell b off∈ps->(∃c t,W.heap[b]?=some (.cells c t (0,0))) /\ ∀u v,W.cell? ⟨b,off,none⟩=some (.iface u v)->Value.okWide P W .any 0 u v) ->
 ∃ad:Nat->Addr,(∀i∈gs,∀j∈gs,i≠j->ad i≠ad j) /\ ∀i∈gs,MemPlace.cell (ad i).block (ad i).off∈ps /\ (∃s,W.cell? (ad i)=some (.string s)) /\ ∃t,W.heap[i]?=some (.cells #[.iface tp (.pointer (some (ad i)))] t (0,0))
 | [],[],_,_,_,_,_,_,_=>⟨fun _=>default,(fun i h=>by cases h),fun i h=>by cases h⟩
 | [],_::_,_,h,_,_,_,_,_=>by simp at h
 | _::_,[],_,h,_,_,_,_,_=>by simp at h
 | (n,text)::l,g::gs,ps,hn,ht,hgn,h,hnd,hr=>by
   simp only [List.map_cons,List.cons.injEq] at hn
   obtain⟨g',t,cs,fuel,p,q,hg,hty,hv,hd,hq,rfl⟩:=h
   obtain rfl:=Option.some.inj (hn.1.symm.trans hg)
   obtain rfl:=Option.some.inj ((ht g (List.mem_cons_self ..)).symm.trans hty)
   obtain⟨l0⟩:=cs
   obtain⟨ms,hi⟩:=S.hi
   obtain⟨f,he,hft,hfo⟩:=S.he
   have ok0:∀u v,l0=[.iface u v]->Value.okWide P W .any 0 u v:=fun u v e=>by
    subst e
    exact(hr g 0 (by simp [MemPlace.row])).2 u v (by simpa using World.var?_cell hg hv 0)
   obtain⟨a,s,rfl,hc0,hs0,hz0,rfl⟩:=errorString_of_trod hi S.row S.hp he hft hfo S.hs S.hc S.hcs hd ok0
   have hnd':=List.nodup_append.1 hnd
   have hgn':=List.nodup_cons.1 hgn
   obtain⟨ad,h1,h2⟩:=KC S hn.2 (fun x hx=>ht x (List.mem_cons_of_mem _ hx)) hgn'.2 hq hnd'.2.1 (fun b off hb=>hr b off (List.mem_append_right _ hb))
   have self:MemPlace.cell a.block a.off∈MemPlace.row ⟨g,0,none⟩ 1++MemPlace.row a 1:=List.mem_append_right _ (by simp [MemPlace.row])
   have isg:∀i∈gs,i≠g:=fun i hi e=>hgn'.1 (e▸hi)
   have apart:∀i∈gs,ad i≠a:=fun i hi e=>by
    have:=(h2 i hi).1
    rw [e] at this
    exact hnd'.2.2 _ self _ this rfl
   refine⟨fun i=>if i=g then a else ad i,fun i hi j hj hij=>?_,fun i hi=>?_⟩
   ·rcases List.mem_cons.1 hi with rfl | hi2
    ·rcases List.mem_cons.1 hj with rfl | hj
     ·exact absurd rfl hij
     ·simp only [if_pos rfl,if_neg (isg j hj)];exact fun e=>apart j hj e.symm
    ·rcases List.mem_cons.1 hj with ej | hj
     ·subst ej
      simp only [if_pos rfl,if_neg (isg i hi2)];exact apart i hi2
     ·simp only [if_neg (isg i hi2),if_neg (isg j hj)];exact h1 i hi2 j hj hij
   ·rcases List.mem_cons.1 hi with rfl | hi
    ·simp only [if_pos rfl]
     refine⟨List.mem_append_left _ self,⟨s,hc0⟩,?_⟩
     obtain⟨c,t,hb⟩:=(hr i 0 (by simp [MemPlace.row])).1
     refine⟨t,?_⟩
     simp only [World.var?,hg,Option.bind_some,hb] at hv
     rw [hb]
     simpa using hv
    ·simp only [if_neg (isg i hi)]
     obtain⟨g1,g2,g3⟩:=h2 i hi
     exact⟨List.mem_append_right _ g1,g2,g3⟩
end
def rj (W:World) (ad:Nat->Addr):Sg:=⟨ad,fun k=>if k < 7 then none else W.heap[k]?⟩
theorem KA (W:World) (ad:Nat->Addr):(rj W ad).has W:=fun k o h=>by
 unfold rj at h
 simp only at h
 split at h
 ·cases h
 ·exact h
theorem Kk {W:World} {r:Reach} {b0:Nat} {t e:TypeId} {v:Value} (ht:Tryz.prog.underlying t=some (.slice e)) (hval:Value.okWide Tryz.prog W r b0 t v):v=.slice none 0 0 \/ ∃b o len cap,v=.slice (some ⟨b,o,none⟩) len cap /\ len<=cap:=by
 unfold Value.okWide at hval
 rw [ht] at hval
 unfold Cell.okWide at hval
 rw [ht] at hval
 dsimp only at hval
 unfold Cell.ok at hval
 rw [ht] at hval
 cases v with
 | slice a len cap =>
   cases a with
   | none =>
     cases len with
     | zero =>
       cases cap with
       | zero=>exact .inl rfl
       | succ=>exact hval.elim
     | succ=>exact hval.elim
   | some a =>
     obtain⟨b,o,s⟩:=a
     obtain⟨h1,_,_,h2,_⟩:=hval
     simp only at h2
     subst h2
     exact .inr ⟨b,o,len,cap,rfl,h1⟩
 | _=>exact hval.elim
theorem Ik {α:Type} [Inhabited α] (K:AK α) {H:Type} {enc:TypeId×Value->H} {W:World} {base:Nat} {sp:Nat->Bool} {held:Bool} {t e:TypeId} {ks:List FK} (ht:Tryz.prog.underlying t=some (.slice e)) (hc:Tryz.prog.cellsOf e=K.es) (hfl:jU Tryz.prog 12 e=some ks) (hks:ks.length=K.es)
 (hdec:∀cs,dC ks cs->∃a:α,cs=ah Nm.id (K.enc a)) (hno:∀(a:α) (j:Nat) (t:TypeId) (x:Value),(ah Nm.id (K.enc a))[j]?≠some (.iface t x)) {r:Reach} {b0:Nat} {v:Value} {d:DataW H} {ps:List MemPlace}
 (hval:Value.okWide Tryz.prog W r b0 t v) (hd:DataW.Trod enc Tryz.prog W base sp held t v d ps) {ad:Nat->Addr} (hs:∀k,k < 7->∃te ty p z,W.heap[k]?=some (.cells #[.iface te p] ty z)) :
 ∃(lc:Sx.Loc) (l:List α),v=aW lc 0 l.length K.es /\ PW (rj W ad) K l lc (fun _=>False):=by
 obtain⟨fu,hfu⟩:=hd
 rcases Kk ht hval with rfl | ⟨b,o,len,cap,rfl,hlc⟩
 ·exact⟨⟨0,0,0⟩,[],rfl,fun k h=>h,fun w _=>⟨Nat.zero_le _,fun j v h=>(by simp [AK.vals] at h)⟩⟩
 ·rcases Deep.open_slice ht hfu with⟨h0,_⟩ | ⟨a,len',cap',m,n,D,Pl,hcs,hb,hl,hm,hmm,hx,hel⟩
  ·cases h0
  ·cases hcs
   have each:∀i,i < len->∃x:α,∀k,k < K.es->W.cell? ((⟨b,o,none⟩:Addr).add (i * K.es+k))=(ah Nm.id (K.enc x))[k]?:=fun i hi=>by
    obtain⟨cs',h1,h2⟩:=hel i (by rw [hmm];split<;>omega)
    have hf:=sI 12 _ _ ks _ _ hfl h2 (by rw [hc,hks])
    obtain⟨x,hx⟩:=hdec cs' hf
    obtain⟨_,_,h5⟩:=World.cells?_some h1
    refine⟨x,fun k hk=>?_⟩
    have:=h5 k (by rw [hc];exact hk)
    rw [Deep.add_add,hc] at this
    rw [this,hx]
   obtain⟨f,hf⟩:=Deep.choose_lt each
   refine⟨⟨b,o,cap+1⟩,(List.range len).map f,?_,fun k h=>h,fun w hw=>⟨?_,fun j v hj=>?_⟩⟩
   ·rw [vsDen_eq,if_neg (fun h=>by cases h.2)]
    simp
   ·rw [AK.vals_len]
    simp only [List.length_map,List.length_range,Nat.add_sub_cancel]
    exact Nat.mul_le_mul_right _ hlc
   ·have hjl:j < len * K.es:=by
     have:=(List.getElem?_eq_some_iff.1 hj).1
     rw [AK.vals_len] at this
     simpa using this
    have hpos:0 < K.es:=Nat.pos_of_ne_zero fun h=>by rw [h] at hjl;omega
    have hi:j / K.es < len:=(Nat.div_lt_iff_lt_mul hpos).2 hjl
    have hk:j % K.es < K.es:=Nat.mod_lt _ hpos
    have ej:j=(j / K.es) * K.es+j % K.es:=by rw [Nat.mul_comm];exact(Nat.div_add_mod _ _).symm
    have hg:=K.vals_get ((List.range len).map f) (j / K.es) (j % K.es) (by simpa using hi) hk
    rw [<- ej,hj] at hg
    have hfi:((List.range len).map f).getD (j / K.es) K.dflt=f (j / K.es):=by simp [List.getD,hi]
    rw [hfi] at hg
    have hW:=hf _ hi _ hk
    rw [<- ej,<- hg] at hW
    have hb3:¬b < 7:=fun h3=>by
     obtain⟨te,ty,p,z,hh⟩:=hs b h3
     have eb:((⟨b,o,none⟩:Addr).add j).block=b:=by unfold Addr.add;split<;>rfl
     unfold World.cell? at hW
     rw [eb,hh] at hW
     simp only at hW
     split at hW
     ·cases hW
     ·rcases Nat.eq_zero_or_pos ((⟨b,o,none⟩:Addr).add j).off with h0 | h0
      ·rw [h0] at hW
       have hW:some (Value.iface te p)=some v:=hW
       cases hW
       exact hno _ _ _ _ hg.symm
      ·rw [Array.getElem?_eq_none (show 1<=_ from h0)] at hW
       cases hW
    have hR:(rj W ad).R b=W.heap[b]?:=if_neg hb3
    have eb:((⟨b,o,none⟩:Addr).add j).block=b:=by unfold Addr.add;split<;>rfl
    show w.cell? ((⟨b,o,none⟩:Addr).add j)=some v
    cases hh:W.heap[b]? with
    | none =>
      unfold World.cell? at hW
      rw [eb,hh] at hW
      cases hW
    | some ob =>
      have:=hw b ob (by rw [hR,hh])
      rw [<- hW]
      unfold World.cell?
      rw [eb,hh,this]
def nmL (L:List (Sx.Loc×AV)):Nm:=⟨fun n=>if n < 7 then⟨n,0,0⟩ else(L.map Prod.fst).getD (n - 7) ⟨0,0,0⟩,fun n k=>n < 7 /\ k=n⟩
theorem CO (L:List (Sx.Loc×AV)) {n:Nat} (h:n < 7):(nmL L).L n=⟨n,0,0⟩:=if_pos h
theorem SQ {σ:Sg} {lp:Lp} {f:FuncId} {args:List SV} {L:List (Sx.Loc×AV)} {v:SV} {l':List AV} {W:World} (h:Ctr Tryz.prog (NVl lp σ) f args (hpO allM (L.map Prod.snd)) v (hpO allM l')) (hv:∀ρ:Nm,v.den ρ=.bool true)
 (hq:∀x∈L,∀w,σ.has w->(F6 σ).q x.2 x.1 (fun _=>False) w) (hs:σ.has W) (hR:∀k,k < 7->σ.R k=none)
 (hg:∀n,n < 7->W.heap[n]?=some (.cells #[.iface 229 (.pointer (some (σ n)))] 29 (0,0))) :
 Calls Tryz.prog f (args.map (SV.den (nmL L))).toArray W fun e w'=>e=.returned (.bool true) /\ Quiet W w':=by
 have hlin:∀n,allM[n]?=some true↔n < 7:=fun n=>by
  unfold allM
  rw [List.getElem?_replicate]
  by_cases h:n < 7<;>simp [h]
 have get:∀n c,ab (hpO allM (L.map Prod.snd)) n=some c->(n < 7 /\ c=.abs (.sent n)) \/ ∃x,L[n - 7]?=some x /\ 7<=n /\ c=.abs x.2:=fun n c h=>by
  unfold hpO at h
  rw [aH,dv] at h
  split at h
  ·obtain⟨h1,h2⟩:=(iM _ _ _ _ _).1 h
   exact .inl ⟨(hlin n).1 h1,by rw [h2,Nat.zero_add]⟩
  ·rename_i hn
   obtain⟨a,h1,h2⟩:=(bL _ _ _).1 h
   rw [List.getElem?_map,Option.map_eq_some_iff] at h1
   obtain⟨x,h1,h3⟩:=h1
   exact .inr ⟨x,h1,Nat.le_of_not_lt hn,by rw [h2,h3]⟩
 have fp:∀n c k,ab (hpO allM (L.map Prod.snd)) n=some c->c.fp (nmL L) n k->n < 7 /\ k=n:=fun n c k h hk=>by
  rcases get n c h with⟨h1,rfl⟩ | ⟨x,h1,h2,rfl⟩
  ·have hk:n < 7 /\ k=n:=hk
   exact⟨h1,hk.2⟩
  ·have hk:n < 7 /\ k=n:=hk
   omega
 have hO:Own (NVl lp σ) (nmL L) (hpO allM (L.map Prod.snd)) W:=by
  refine⟨⟨fun n c h=>?_,fun n m c d hnm h h' k hk hk'=>?_,fun g hg'=>?_⟩,hs,fun n c k h hk=>?_⟩
  ·rcases get n c h with⟨h1,rfl⟩ | ⟨x,h1,h2,rfl⟩
   ·have e:(nmL L).L n=⟨n,0,0⟩:=CO L (by omega)
    refine(nV (N:=NVl lp σ) (σ:=σ) rfl rfl _ _ _).2 ⟨fun k=>?_,?_⟩
    ·show (n < 7 /\ k=n)↔k=((nmL L).L n).b
     rw [e]
     exact⟨fun hh=>hh.2,fun hh=>⟨by omega,hh⟩⟩
    ·rw [e];exact hg n h1
   ·have hm:x∈L:=List.mem_of_getElem? h1
    have e:(nmL L).L n=x.1:=by
     show (if n < 7 then _ else _)=_
     rw [if_neg (by omega)]
     simp [List.getD,h1]
    have eS:(nmL L).S n=fun _=>False:=funext fun k=>propext ⟨fun hh=>by have hh:n < 7 /\ k=n:=hh;omega,fun hh=>hh.elim⟩
    show (F6 σ).q x.2 ((nmL L).L n) ((nmL L).S n) W
    rw [e,eS]
    exact hq x hm W hs
  ·obtain⟨a1,a2⟩:=fp n c k h hk
   obtain⟨b1,b2⟩:=fp m d k h' hk'
   exact hnm (a2.symm.trans b2)
  ·show ((nmL L).L g).b=g
   rw [CO L hg']
  ·obtain⟨a1,a2⟩:=fp n c k h hk
   subst a2
   exact hR k a1
 refine(h.2.2 _ W hO).mono ?_
 rintro e w' ⟨ρ',rfl,hO',hE⟩
 refine⟨by rw [hv ρ'],⟨fun k hk=>?_,hE.os,hE.tape,hE.output,hE.size⟩⟩
 by_cases e0:k < 7
 ·have hk':ab (hpO allM l') k=some (.abs (.sent k)):=by
   unfold hpO
   rw [aH,dv,if_pos (by rw [show allM.length=7 from List.length_replicate];exact e0)]
   exact(iM _ _ _ _ _).2 ⟨(hlin k).2 e0,by rw [Nat.zero_add]⟩
  have hq':=(nV (N:=NVl lp σ) (σ:=σ) rfl rfl _ _ _).1 (hO'.q k _ hk')
  have hr0:ρ' k=k:=hO'.glb k (by show k < 7;omega)
  have this:w'.heap[ρ' k]?=some (.cells #[.iface 229 (.pointer (some (σ k)))] 29 (0,0)):=hq'.2
  rw [hr0] at this
  rw [this,hg k e0]
 ·refine hE.frame k hk fun n c h hf=>?_
  obtain⟨a1,a2⟩:=fp n c k h hf
  omega
theorem T4 (cs:List Value) (h:dC [.int .i64,.int .i64,.int .i64,.int .i64] cs):∃a:O,cs=ah Nm.id (kops.enc a):=by
 match cs,h with
 | [.int _ a,.int _ b,.int _ c,.int _ d],h =>
   obtain⟨rfl,rfl,rfl,rfl,_⟩:=h
   exact⟨⟨a,b,c,d⟩,rfl⟩
theorem Wg (a:O) (j:Nat) (t:TypeId) (x:Value):(ah Nm.id (kops.enc a))[j]?≠some (.iface t x):=fun h=>by
 rcases j with _ | _ | _ | _ | j<;>cases h
section
def BU (σ:Sg) (a b:Addr):Prop:=a≠b /\ (∃c t,σ.R a.block=some (.cells c t (0,0))) /\ ∃c t,σ.R b.block=some (.cells c t (0,0))
theorem Ih {W:World} {ad:Nat->Addr} (hg:∀n,n < 7->W.heap[n]?=some (.cells #[.iface 229 (.pointer (some (ad n)))] 29 (0,0))) {a:Addr} (hs:∃s,W.cell? a=some (.string s)):¬a.block < 7:=fun h3=>by
 obtain⟨s,hs⟩:=hs
 have hh:=hg _ h3
 unfold World.cell? at hs
 rw [hh] at hs
 simp only at hs
 split at hs
 ·cases hs
 ·rcases Nat.eq_zero_or_pos a.off with h0 | h0
  ·rw [h0] at hs
   have hs:some (Value.iface 229 (.pointer (some (ad a.block))))=some (Value.string s):=hs
   cases hs
  ·rw [Array.getElem?_eq_none (show 1<=_ from h0)] at hs;cases hs
theorem Lh {W:World} {ad:Nat->Addr} {ps:List MemPlace} (hg:∀n,n < 7->W.heap[n]?=some (.cells #[.iface 229 (.pointer (some (ad n)))] 29 (0,0))) {a b:Addr} (h1:MemPlace.cell a.block a.off∈ps) (h2:MemPlace.cell b.block b.off∈ps)
 (s1:∃s,W.cell? a=some (.string s)) (s2:∃s,W.cell? b=some (.string s)) (hne:a≠b) (hr:∀b off,MemPlace.cell b off∈ps->∃c t,W.heap[b]?=some (.cells c t (0,0))):BU (rj W ad) a b:=by
 have hR:∀c:Addr,(∃s,W.cell? c=some (.string s))->(rj W ad).R c.block=W.heap[c.block]?:=fun c hc=>if_neg (Ih hg hc)
 exact⟨hne,by rw [hR a s1];exact hr _ _ h1,by rw [hR b s2];exact hr _ _ h2⟩
end
end
section
open Go Go.Sx Go.Proofs
set_option maxRecDepth 100000
set_option maxHeartbeats 0
variable {σ:Sg}
def X9 (ops:List O) (no:Nat) (p:PlotM) (v:VerM):Prop:=SV.v (.c (.vs 7 0 no 4 false))=.v (.c (.vs 7 0 no 4 false)) /\ SV.v (.c (.ptr 8 0))=.v (.c (.ptr 8 0)) /\ SV.v (.c (.ptr 9 0))=.v (.c (.ptr 9 0)) /\ SV.v (.c (.il .i64 (Int.ofNat 0)))=.v (.c (.il .i64 (Int.ofNat 0))) /\ yT ops p v=yT ops p v
theorem neR (σ:Sg) (F:VlF) (s:Int) (ops:List O) (no:Nat) (e:MO) (c:Prop):KJ σ F s ops no e c=.ite (decide ((no:Int) > 40)) (.leaf (.v (.c (.bl true)),hpO allM [.opsA ops]))
 (.need (F.okl (jR s) 200) (.need (!F.bad (jR s,1,0,1,1)) (.need (fO (X9 ops no (F.ld (jR s) 200) (F.mv (jR s,1,0,1,1)) /\ c)) (.leaf (.v (.c (.bl true)),hpO allM [.opsA ops]))))):=by kernel_rfl
theorem SC (s:Int):1<=jR s /\ jR s<=5:=by
 have h:0<=IntKind.wrap .u64 s:=by
  unfold IntKind.wrap
  simp only [IntKind.bits,IntKind.signed,Bool.false_and,Bool.false_eq_true,if_false]
  exact Int.emod_nonneg _ (by decide)
 have h1:0<=Int.tmod (IntKind.wrap .u64 s) 5:=Int.tmod_nonneg _ h
 have h2:Int.tmod (IntKind.wrap .u64 s) 5 < 5:=Int.tmod_lt_of_pos _ (by decide)
 unfold jR;omega
theorem Lt {s:Int} (hs:1<=s /\ s<=5):NvI 200 0 (oe (s,1,0,1,1)) (zK s 200):=by
 obtain⟨w,hd,⟨h,A,hi⟩,_⟩:=GM (k:=200) (by decide) (by decide) (s:=s.toNat) (by omega)
 obtain⟨w1,w2⟩:=Ir (n:=(200:Nat)) (by decide) (s:=s) (e:=1) (me:=0) (th:=1) (no:=1) hs (by decide) (by decide) (by decide)
 rw [show ((s.toNat:Nat):Int)=s by omega] at hd
 exact⟨hs,w1,w2,w,hd,.inl ⟨⟨rfl,rfl,rfl,rfl,rfl⟩,⟨0,0⟩,h,A,hi⟩⟩
theorem S0 (σ:Sg) (s:Int) (ops:List O):(KJ σ vlM s ops ops.length (wK ops ops.length ⟨0,zK (jR s) 200,oe (jR s,1,0,1,1)⟩) (xU 200 ops ⟨0,zK (jR s) 200,oe (jR s,1,0,1,1)⟩)).val=some (.v (.c (.bl true)),hpO allM [.opsA ops]):=by
 rw [neR]
 have hs:=SC s
 by_cases h40:ops.length<=40
 ·refine(ivF (decide_eq_false (by omega))).trans ((nv (decide_eq_true ⟨hs.1,hs.2,by decide,by decide⟩)).trans ((nv (by show (!yx (jR s,1,0,1,1))=true;rw [NB hs (by decide) (by decide) (by decide) (by decide)];rfl)).trans ((nv (fN ⟨⟨rfl,rfl,rfl,rfl,rfl⟩,?_⟩)).trans rfl)))
  exact⟨Nat.zero_le _,h40,Lt hs,rfl⟩
 ·exact(ivT (decide_eq_true (by omega))).trans rfl
theorem Wu (ops:List O) (p:PlotM) (v:VerM) (n:Nat):cV Tryz.prog (NVl (WD ops ops.length p v (wK ops ops.length ⟨0,p,v⟩) (xU n ops ⟨0,p,v⟩)) σ) :=
 gJ jM (fn:=Tryz.f3) (by kernel_rfl) (c:=cB Tryz.f3) (by kernel_rfl) (nt:=81) (by kernel_rfl) (b:=N11) (br (by kernel_rfl)) (TS (σ:=σ) (N':=NVl fJ σ) rfl rfl n ops p v)
theorem qP (x0:Int) (lc1:Sx.Loc) (l1:List O) (ad:Nat->Addr) (W:World)
 (hq1:PW (rj W ad) kops l1 lc1 (fun _=>False))
 (hg:∀n,n < 7->W.heap[n]?=some (.cells #[.iface 229 (.pointer (some (ad n)))] 29 (0,0))) (ho:BU (rj W ad) (ad ErA) (ad ErS)) :
 Calls Tryz.prog 3 #[.int .i64 x0,aW lc1 0 l1.length 4] W fun e w'=>e=.returned (.bool true) /\ Quiet W w':=by
 have hv:=S0 (rj W ad) x0 l1
 unfold KJ at hv
 rw [Q.lv_eq] at hv
 have hC:=(PT (σ:=rj W ad) (Wu (σ:=rj W ad) l1 (zK (jR x0) 200) (oe (jR x0,1,0,1,1)) 200) (wh JQ) 24 3).ctr hv (kR.1 (by kernel_rfl)) ⟨eY.1 (by kernel_rfl),trivial⟩
 have hJ:=SQ (L:=[(lc1,.opsA l1)]) (W:=W) (l':=[.opsA l1]) hC (fun ρ=>rfl) (fun x hx w hw=>?_) (KA W ad) (fun k hk=>if_pos hk) hg
 ·exact hJ
 ·simp only [List.mem_cons,List.not_mem_nil,or_false] at hx
  rcases hx with rfl
  exact(nV (N:=NV (rj W ad)) (σ:=rj W ad) rfl rfl _ _ _).2 hq1
end
end Go.Proofs.YtadmfaohjnjajaaGreatDoor
