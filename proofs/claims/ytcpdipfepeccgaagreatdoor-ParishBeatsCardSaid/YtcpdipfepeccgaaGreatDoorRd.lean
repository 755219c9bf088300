import Derived.Test.YtcpdipfepeccgaaGreatDoorQy
set_option linter.unusedVariables false
set_option linter.unusedSimpArgs false
set_option maxHeartbeats 4000000
namespace Go.Proofs.YtcpdipfepeccgaaGreatDoor
open Go Go.Sx Go.Proofs
set_option maxRecDepth 100000
variable {σ:Sg} {lp:Lp}
noncomputable def Ll:List Bool:=mkM 18
def tB (b:Bool):T (SV×List AV×List AV):=.leaf (.v (.c (.bt b)),[],[])
noncomputable def gT (σ:Sg) (s:Cell) (o:O):T (SV×List AV×List AV):=eG σ aQ 18 Ll [.v (.c s),.v (.agg (gsC (O.wr o)))] []
theorem Tj (σ:Sg) (o:O):gT σ (.il .i64 1) o=ku tI (tB true) (tB false) o:=by kernel_rfl
theorem Ti (σ:Sg) (o:O):gT σ (.il .i64 2) o=kK tI (tB true) (tB false) o:=by kernel_rfl
theorem Th (σ:Sg) (o:O):gT σ (.il .i64 3) o=kU tI (tB true) (tB false) (tB true) o:=by kernel_rfl
theorem Tg (σ:Sg) (o:O):gT σ (.il .i64 4) o=oz tI (tB true) (tB false) o:=by kernel_rfl
theorem Tf (σ:Sg) (o:O):gT σ (.il .i64 5) o=oL tI (tB true) (tB false) o:=by kernel_rfl
theorem Tk (σ:Sg) (s:Int) (h:∀c∈[(1:Int),2,3,4,5],(s==c)=false) (o:O):gT σ (.iv .i64 s [1,2,3,4,5] h) o=tB false:=by kernel_rfl
def aIO:ArgK (Int×O) where
 enc x:=[.v (.c (.it .i64 x.1)),.v (.agg (gsC (O.wr x.2)))]
 dec:=fun | [.v (.c c),.v (.agg cs)]=>(match iOf c,O.rd ((rD cs).map .p) with | some s,some (o,[])=>some (s,o) | _,_=>none) | _=>none
 ok:=fun l a h ρ=>by
  split at h
  ·split at h
   ·rename_i h0 h1
    cases h
    have:=O.rd_s h1
    rw [List.append_nil] at this
    rw [<- this,ju]
    simp only [List.map_cons,List.map_nil,SV.den,V1.den,lK,aM h0 ρ]
    rfl
   ·cases h
  ·cases h
 free:=fun _=>rfl
theorem spB {α β:Type} {d:α->Option β} {b:Bool} {t e:T α} {x y:β} (h1:(t.map d).val=some (some x)) (h2:(e.map d).val=some (some y)):((tI b t e).map d).val=some (some (cond b x y)):=by cases b<;>assumption
theorem vTB (b:Bool):((tB b).map (iW vBo)).val=some (some b):=rfl
theorem DJ:FnOk Tryz.prog (NV σ) 18 (aL isS Ll (n7 aIO vBo (fun _=>none) (fun x=>cX x.1 x.2))) :=
 my au (bQ _) fun x _=>by
  obtain⟨s,o⟩:=x
  unfold cX
  dsimp only
  by_cases h1:s=1
  ·subst h1
   refine⟨[.v (.c (.il .i64 1)),.v (.agg (gsC (O.wr o)))],rfl,fun _=>rfl,?_⟩
   show ((gT σ _ o).map (iW vBo)).val=_
   rw [Tj,if_pos rfl];unfold ku
   repeat' first | exact vTB _ | apply spB
  rw [if_neg h1]
  by_cases h2:s=2
  ·subst h2
   refine⟨[.v (.c (.il .i64 2)),.v (.agg (gsC (O.wr o)))],rfl,fun _=>rfl,?_⟩
   show ((gT σ _ o).map (iW vBo)).val=_
   rw [Ti,if_pos rfl];unfold kK
   repeat' first | exact vTB _ | apply spB
  rw [if_neg h2]
  by_cases h3:s=3
  ·subst h3
   refine⟨[.v (.c (.il .i64 3)),.v (.agg (gsC (O.wr o)))],rfl,fun _=>rfl,?_⟩
   show ((gT σ _ o).map (iW vBo)).val=_
   rw [Th,if_pos rfl];unfold kU
   repeat' first | exact vTB _ | apply spB
  rw [if_neg h3]
  by_cases h4:s=4
  ·subst h4
   refine⟨[.v (.c (.il .i64 4)),.v (.agg (gsC (O.wr o)))],rfl,fun _=>rfl,?_⟩
   show ((gT σ _ o).map (iW vBo)).val=_
   rw [Tg,if_pos rfl];unfold oz
   repeat' first | exact vTB _ | apply spB
  rw [if_neg h4]
  by_cases h5:s=5
  ·subst h5
   refine⟨[.v (.c (.il .i64 5)),.v (.agg (gsC (O.wr o)))],rfl,fun _=>rfl,?_⟩
   show ((gT σ _ o).map (iW vBo)).val=_
   rw [Tf,if_pos rfl];unfold oL
   repeat' first | exact vTB _ | apply spB
  rw [if_neg h5]
  have h:∀c∈[(1:Int),2,3,4,5],(s==c)=false:=tD (by simp [h1,h2,h3,h4,h5])
  refine⟨[.v (.c (.iv .i64 s [1,2,3,4,5] h)),.v (.agg (gsC (O.wr o)))],rfl,fun _=>rfl,?_⟩
  show ((gT σ _ o).map (iW vBo)).val=_
  rw [Tk];rfl
theorem uR {α:Type} {b:Bool} {t e:T (Option α)} {x y:Bool} {j:α} (h:cond b x y=true) (h1:x=true->t.val=some (some j)) (h2:y=true->e.val=some (some j)):(tI b t e).val=some (some j):=by
 cases b
 ·exact h2 h
 ·exact h1 h
theorem EI:FnOk Tryz.prog (NV σ) 29 (aL isS noM (jh aOp oPile (fun o=>some (ku cond true false o)) tO)) :=
 kz au rfl fun o h=>⟨aOp.enc o,rfl,fun _=>rfl,by
  have h:ku cond true false o=true:=h
  rw [K7];unfold ku at h ⊢
  revert h
  repeat' first | exact fun _=>rfl | exact fun h=>absurd h (by decide) | (refine fun h=>uR h ?_ ?_)⟩
theorem Fu:FnOk Tryz.prog (NV σ) 30 (aL isS noM (jh aOp oCort (fun o=>some (kK cond true false o)) tP)) :=
 kz au rfl fun o h=>⟨aOp.enc o,rfl,fun _=>rfl,by
  have h:kK cond true false o=true:=h
  rw [Mi];unfold kK at h ⊢
  revert h
  repeat' first | exact fun _=>rfl | exact fun h=>absurd h (by decide) | (refine fun h=>uR h ?_ ?_)⟩
theorem Iz:FnOk Tryz.prog (NV σ) 31 (aL isS noM (jh aOp oLit (fun o=>some (kU cond true false false o)) zU)) :=
 kz au rfl fun o h=>⟨aOp.enc o,rfl,fun _=>rfl,by
  have h:kU cond true false false o=true:=h
  rw [Pp];unfold kU at h ⊢
  revert h
  repeat' first | exact fun _=>rfl | exact fun h=>absurd h (by decide) | (refine fun h=>uR h ?_ ?_)⟩
theorem FY:FnOk Tryz.prog (NV σ) 32 (aL isS noM (jh aOp oVau (fun o=>some (oz cond true false o)) zS)) :=
 kz au rfl fun o h=>⟨aOp.enc o,rfl,fun _=>rfl,by
  have h:oz cond true false o=true:=h
  rw [Of];unfold oz at h ⊢
  revert h
  repeat' first | exact fun _=>rfl | exact fun h=>absurd h (by decide) | (refine fun h=>uR h ?_ ?_)⟩
theorem GN:FnOk Tryz.prog (NV σ) 33 (aL isS noM (jh aOp oSte (fun o=>some (oL cond true false o)) zT)) :=
 kz au rfl fun o h=>⟨aOp.enc o,rfl,fun _=>rfl,by
  have h:oL cond true false o=true:=h
  rw [OD];unfold oL at h ⊢
  revert h
  repeat' first | exact fun _=>rfl | exact fun h=>absurd h (by decide) | (refine fun h=>uR h ?_ ?_)⟩
end Go.Proofs.YtcpdipfepeccgaaGreatDoor

namespace Go.Proofs.YtcpdipfepeccgaaGreatDoor
open Go Go.Sx Go.Proofs
set_option maxRecDepth 100000
variable {σ:Sg} {lp:Lp}
structure GvF where
 fit:Int->O->Bool
 oks:Nat->O->Bool
 okb:RiteM->Cl->Bool
 bg:RiteM->Cl->RiteM
noncomputable def Nr (σ:Sg) (G:GvF) (F:StF) (k:Nat):Tab:=aC 18 (aL isS Ll (n7 aIO vBo (fun _=>none) (fun x=>G.fit x.1 x.2)))
 (aC 29 (aL isS noM (jh aOp oPile (fun o=>some (G.oks 1 o)) tO)) (aC 30 (aL isS noM (jh aOp oCort (fun o=>some (G.oks 2 o)) tP))
 (aC 31 (aL isS noM (jh aOp oLit (fun o=>some (G.oks 3 o)) zU)) (aC 32 (aL isS noM (jh aOp oVau (fun o=>some (G.oks 4 o)) zS))
 (aC 33 (aL isS noM (jh aOp oSte (fun o=>some (G.oks 5 o)) zT)) (aC 58 (aL isS noM (cU aNo vBo oRite (fun _ _=>none) (fun m _=>(eE m,m))))
 (aC 57 (aL isS noM (cU aCl sg oRite (fun m c=>some (G.okb m c)) (fun m c=>((),G.bg m c))))
 (aC 36 (FU σ (aL isS noM (zX 2 aNo oVer (fun v _=>some (F.oka v)) fun v _=>(.tup [],adK F k v,[])))) aQ))))))))
noncomputable def mGv:List Bool:=mkM 20
def P6:SV×List AV×List AV->Option (SV×VerM)
 | (v,[.ver a],[])=>some (v,a)
 | _=>none
noncomputable def lu (σ:Sg) (G:GvF) (F:StF) (k:Nat) (v:VerM) (o:O):T (Option (SV×VerM)):=(oP cZ σ (Nr σ G F k) 20 mGv [.v (.c (.ptr 8 0)),.v (.agg (gsC (O.wr o)))] [dV v] (cD AV.len kX (bh 0 (VerM.wr v)))).map P6
def fN:Cl:=⟨1,fc,aq,aq,0,0,⟨0,0⟩⟩
def fq (s:Nat) (o:O):JobM:=match s with | 1=>.pile (tO o) | 2=>.cort (tP o) | 3=>.lit (zU o) | 4=>.vau (zS o) | _=>.ste (zT o)
def vn (bg:RiteM->Cl->RiteM) (s:Nat) (v:VerM) (o:O):VerM:={v with rite:=bg v.rite fN,doing:=1,call:=fN,op:=o,job:=some (fq s o),answer:=⟨0,0⟩}
def pw {β:Type} (I:Bool->β->β->β) (N:Bool->β->β) (E:Nat->β) (L:VerM->β) (G:GvF) (oka:VerM->Bool) (ad:VerM->VerM) (s:Nat) (v:VerM) (o:O):β :=
 I (v.doing != 0) (N true (E ErS)) (I (!G.fit v.sort o) (N true (E ErA)) (N (G.oks s o) (N (G.okb v.rite fN) (N true (N (oka (vn G.bg s v o)) (N true (L (ad (vn G.bg s v o)))))))))
def gvL (v:VerM):T (Option (SV×VerM)):=.leaf (some (.v (.c .inil),v))
def gvE (σ:Sg) (v:VerM) (i:Nat):T (Option (SV×VerM)):=.leaf (some (.v (jl σ i),v))
theorem PL (σ:Sg) (G:GvF) (F:StF) (v:VerM) (o:O):lu σ G F 1 {v with sort:=1,job:=none} o=pw tI tN (gvE σ {v with sort:=1,job:=none}) gvL G F.oka (adK F 1) 1 {v with sort:=1,job:=none} o:=by kernel_rfl
theorem PK (σ:Sg) (G:GvF) (F:StF) (v:VerM) (j:PileM) (o:O):lu σ G F 1 {v with sort:=1,job:=some (.pile j)} o=pw tI tN (gvE σ {v with sort:=1,job:=some (.pile j)}) gvL G F.oka (adK F 1) 1 {v with sort:=1,job:=some (.pile j)} o:=by kernel_rfl
theorem PJ (σ:Sg) (G:GvF) (F:StF) (v:VerM) (o:O):lu σ G F 2 {v with sort:=2,job:=none} o=pw tI tN (gvE σ {v with sort:=2,job:=none}) gvL G F.oka (adK F 2) 2 {v with sort:=2,job:=none} o:=by kernel_rfl
theorem PI (σ:Sg) (G:GvF) (F:StF) (v:VerM) (j:CortM) (o:O):lu σ G F 2 {v with sort:=2,job:=some (.cort j)} o=pw tI tN (gvE σ {v with sort:=2,job:=some (.cort j)}) gvL G F.oka (adK F 2) 2 {v with sort:=2,job:=some (.cort j)} o:=by kernel_rfl
theorem PH (σ:Sg) (G:GvF) (F:StF) (v:VerM) (o:O):lu σ G F 3 {v with sort:=3,job:=none} o=pw tI tN (gvE σ {v with sort:=3,job:=none}) gvL G F.oka (adK F 3) 3 {v with sort:=3,job:=none} o:=by kernel_rfl
theorem PG (σ:Sg) (G:GvF) (F:StF) (v:VerM) (j:LitM) (o:O):lu σ G F 3 {v with sort:=3,job:=some (.lit j)} o=pw tI tN (gvE σ {v with sort:=3,job:=some (.lit j)}) gvL G F.oka (adK F 3) 3 {v with sort:=3,job:=some (.lit j)} o:=by kernel_rfl
theorem PF (σ:Sg) (G:GvF) (F:StF) (v:VerM) (o:O):lu σ G F 4 {v with sort:=4,job:=none} o=pw tI tN (gvE σ {v with sort:=4,job:=none}) gvL G F.oka (adK F 4) 4 {v with sort:=4,job:=none} o:=by kernel_rfl
theorem PE (σ:Sg) (G:GvF) (F:StF) (v:VerM) (j:VauM) (o:O):lu σ G F 4 {v with sort:=4,job:=some (.vau j)} o=pw tI tN (gvE σ {v with sort:=4,job:=some (.vau j)}) gvL G F.oka (adK F 4) 4 {v with sort:=4,job:=some (.vau j)} o:=by kernel_rfl
theorem PD (σ:Sg) (G:GvF) (F:StF) (v:VerM) (o:O):lu σ G F 5 {v with sort:=5,job:=none} o=pw tI tN (gvE σ {v with sort:=5,job:=none}) gvL G F.oka (adK F 5) 5 {v with sort:=5,job:=none} o:=by kernel_rfl
theorem PC (σ:Sg) (G:GvF) (F:StF) (v:VerM) (j:SteM) (o:O):lu σ G F 5 {v with sort:=5,job:=some (.ste j)} o=pw tI tN (gvE σ {v with sort:=5,job:=some (.ste j)}) gvL G F.oka (adK F 5) 5 {v with sort:=5,job:=some (.ste j)} o:=by kernel_rfl
theorem Ih (i:Nat):∀(gs:Gs),dz (bh i gs)=dz gs:=by
 induction i with
 | zero=>intro gs;match gs with
   | []=>rfl
   | .p c::r=>cases c<;>rfl
   | .s _ _::r=>rfl
   | .r _::r=>rfl
   | .i _ _::r=>rfl
 | succ i ih=>intro gs;match gs with
   | []=>rfl
   | .p c::r=>show GC.p (tC c)::dz (bh i r)=_;rw [ih r];rfl
   | .s a e::r=>show GC.s a e::dz (bh i r)=_;rw [ih r];rfl
   | .r a::r=>show GC.r a::dz (bh i r)=_;rw [ih r];rfl
   | .i t a::r=>show GC.i t a::dz (bh i r)=_;rw [ih r];rfl
def stB (k:Nat) (o:O):Bool:=match k with | 1=>ku cond true false o | 2=>kK cond true false o | 3=>kU cond true false false o | 4=>oz cond true false o | _=>oL cond true false o
noncomputable def gvM:GvF:=⟨cX,stB,zG,db⟩
theorem TG (k:Nat):FnOk Tryz.prog (NV σ) 36 (FU σ (aL isS noM (zX 2 aNo oVer (fun v _=>some ((stF k).oka v)) fun v _=>(.tup [],adK (stF k) k v,[])))):=by
 refine xD (zW rfl fun v x h=>?_)
 have h:(stF k).oka v=true:=h
 show Ctr _ _ _ _ _ (.tup []) (hpO noM [dV (adK (stF k) k v)])
 rw [adK_eq h]
 exact DW σ v (xM h).1
theorem Gj (k:Nat):bm Tryz.prog (NV σ) (Nr σ gvM (stF k) k) :=
 aj DJ (aj EI (aj Fu (aj Iz (aj FY (aj GN (aj pX (aj AZ (aj (TG k) au))))))))
theorem Fs {r:SV×List AV×List AV} {v:SV} {a:VerM} (h:P6 r=some (v,a)):r=(v,[.ver a],[]):=by
 unfold P6 at h
 split at h
 ·cases h;rfl
 ·cases h
def vd (v:VerM):Prop:=1<=v.sort /\ v.sort<=5 /\ (bj v=0 \/ (bj v:Int)=v.sort)
theorem LR (σ:Sg) (v:VerM) (o:O) (hk:vd v) (r:Option (SV×VerM)) (h:(pw tI tN (gvE σ v) gvL gvM (stF v.sort.toNat).oka (adK (stF v.sort.toNat) v.sort.toNat) v.sort.toNat v o).val=some r):(lu σ gvM (stF v.sort.toNat) v.sort.toNat v o).val=some r:=by
 obtain⟨so,en,ri,dg,cl,op,job,an⟩:=v
 obtain⟨h1,h2,h3⟩:=hk
 dsimp only at h1 h2 h3
 rcases (by omega:so=1 \/ so=2 \/ so=3 \/ so=4 \/ so=5) with rfl | rfl | rfl | rfl | rfl
 ·cases job with
  | none=>exact(congrArg T.val (PL σ gvM (stF 1) ⟨1,en,ri,dg,cl,op,none,an⟩ o)).trans h
  | some j =>
    cases j with
    | pile j=>exact(congrArg T.val (PK σ gvM (stF 1) ⟨1,en,ri,dg,cl,op,none,an⟩ j o)).trans h
    | _=>simp [bj] at h3
 ·cases job with
  | none=>exact(congrArg T.val (PJ σ gvM (stF 2) ⟨2,en,ri,dg,cl,op,none,an⟩ o)).trans h
  | some j =>
    cases j with
    | cort j=>exact(congrArg T.val (PI σ gvM (stF 2) ⟨2,en,ri,dg,cl,op,none,an⟩ j o)).trans h
    | _=>simp [bj] at h3
 ·cases job with
  | none=>exact(congrArg T.val (PH σ gvM (stF 3) ⟨3,en,ri,dg,cl,op,none,an⟩ o)).trans h
  | some j =>
    cases j with
    | lit j=>exact(congrArg T.val (PG σ gvM (stF 3) ⟨3,en,ri,dg,cl,op,none,an⟩ j o)).trans h
    | _=>simp [bj] at h3
 ·cases job with
  | none=>exact(congrArg T.val (PF σ gvM (stF 4) ⟨4,en,ri,dg,cl,op,none,an⟩ o)).trans h
  | some j =>
    cases j with
    | vau j=>exact(congrArg T.val (PE σ gvM (stF 4) ⟨4,en,ri,dg,cl,op,none,an⟩ j o)).trans h
    | _=>simp [bj] at h3
 ·cases job with
  | none=>exact(congrArg T.val (PD σ gvM (stF 5) ⟨5,en,ri,dg,cl,op,none,an⟩ o)).trans h
  | some j =>
    cases j with
    | ste j=>exact(congrArg T.val (PC σ gvM (stF 5) ⟨5,en,ri,dg,cl,op,none,an⟩ j o)).trans h
    | _=>simp [bj] at h3
theorem Lg (v:VerM):dz (VerM.wr v)=VerM.wr v:=by
 obtain⟨so,en,ri,dg,cl,op,job,an⟩:=v
 cases job with
 | none=>rfl
 | some j=>cases j<;>rfl
theorem LS (σ:Sg) (v:VerM) (o:O) (hk:vd v) {x:SV} {v':VerM} (h:(pw tI tN (gvE σ v) gvL gvM (stF v.sort.toNat).oka (adK (stF v.sort.toNat) v.sort.toNat) v.sort.toNat v o).val=some (some (x,v'))) :
 Ctr Tryz.prog (NV σ) 20 [.v (.c (.ptr 8 0)),.v (.agg (gsC (O.wr o)))] (hpO mGv [dV v]) x (hpO mGv [dV v']):=by
 obtain⟨y,h1,h2⟩:=map_some (LR σ v o hk _ h)
 rw [Fs h2] at h1
 exact gZ (jR fL (ny (Gj _)) (bQ _) (a:=dV v) (K:=cD AV.len kX (bh 0 (VerM.wr v))) ⟨_,rfl⟩ (fun L S w hq=>o7 ((jW (N:=NVl cZ σ) rfl (by rw [Ih,Lg];exact rfl) rfl L S w).1 hq)) (fun x hx=>by
  simp only [List.mem_cons,List.not_mem_nil,or_false] at hx
  rcases hx with rfl | rfl
  ·exact tc (bQ _)
  ·exact pS rfl) h1).1
noncomputable def lT (v:VerM) (o:O):VerM:=dI (vn db v.sort.toNat v o)
def zF (v:VerM) (o:O):Prop:=zG v.rite fN=true /\ rC (vn db v.sort.toNat v o)=true
noncomputable def DG (σ:Sg) (args:List SV) (l:List AV):T (SV×List AV×List AV):=match args,l with
 | [.v (.c (.ptr 8 0)),a],[.ver v]=>match aOp.dec [a] with
   | some o=>.need (cH (vd v)) (.ite (v.doing != 0) (.leaf (.v (jl σ ErS),[.ver v],[])) (.ite (!cX v.sort o) (.leaf (.v (jl σ ErA),[.ver v],[])) (.need (cH (zF v o)) (.leaf (.v (.c .inil),[.ver (lT v o)],[])))))
   | none=>.fail "Give"
 | _,_=>.fail "Give"
theorem Ma {v:VerM} {o:O} (hk:vd v) (h:cX v.sort o=true):stB v.sort.toNat o=true:=by
 obtain⟨h1,h2,h3⟩:=hk
 generalize v.sort=s at h1 h2 h
 rcases (by omega:s=1 \/ s=2 \/ s=3 \/ s=4 \/ s=5) with rfl | rfl | rfl | rfl | rfl
 ·exact h
 ·exact h
 ·have h:kU cond true false true o=true:=h
  show kU cond true false false o=true
  unfold kU at h ⊢
  cases hb:l5 o with
  | true=>rw [hb] at h;cases h
  | false =>
    show cond _ _ _=true
    have hg:(!lR o)=false:=by
     unfold l5 at hb
     split at hb
     ·rename_i hg;exact eq_of_beq hg
     ·cases hb
    have hg:lR o=true:=by simpa using hg
    unfold lR at hg
    cases h6:o.kind==6 with
    | true=>rfl
    | false =>
      cases h7:o.kind==7 with
      | true=>rfl
      | false =>
        cases h8:o.kind==8 with
        | true=>rfl
        | false =>
          rw [h6,h7,h8] at hg
          split at hg
          ·cases hg
          ·cases hg
 ·exact h
 ·exact h
theorem LQ:FnOk Tryz.prog (NV σ) 20 (aL isS mGv (DG σ)):=by
 refine b9 bk (bQ _) fun args l x l' nw h hl hargs=>?_
 unfold DG at h
 split at h
 ·rename_i a v
  split at h
  ·rename_i o ho
   obtain⟨hk,h⟩:=ah (h:(T.need _ _).val=_)
   have hk:=cK hk
   have fin:∀{x0:SV} {v0:VerM},(pw tI tN (gvE σ v) gvL gvM (stF v.sort.toNat).oka (adK (stF v.sort.toNat) v.sort.toNat) v.sort.toNat v o).val=some (some (x0,v0))->some (x0,[AV.ver v0],([]:List AV))=some (x,l',nw)->Ctr Tryz.prog (NV σ) 20 [.v (.c (.ptr 8 0)),a] (hpO mGv [dV v]) x (hpO mGv (l'++nw)):=fun {x0 v0} h1 h2=>by
    simp only [Option.some.injEq,Prod.mk.injEq] at h2
    obtain⟨rfl,rfl,rfl⟩:=h2
    exact bE (LS σ v o hk h1) fun ρ=>congrArg (List.cons (SV.den ρ (.v (.c (.ptr 8 0))))) (aOp.ok _ _ ho ρ).symm
   unfold pw at fin
   cases hb:(v.doing != 0) with
   | true =>
     rw [hb] at h fin
     exact fin rfl h
   | false =>
     rw [hb] at h fin
     cases hf:cX v.sort o with
     | false =>
       rw [hf] at h
       exact fin (show (tI (!cX v.sort o) _ _).val=_ by rw [hf];rfl) h
     | true =>
       rw [hf] at h
       obtain⟨h2,h⟩:=ah (h:(T.need _ _).val=_)
       obtain⟨h3,h4⟩:=cK h2
       have ho:(stF v.sort.toNat).oka (vn db v.sort.toNat v o)=true:=by
        show (match rC (vn db v.sort.toNat v o) with | true=>Nat.beq (bj (vn db v.sort.toNat v o)) v.sort.toNat | false=>false)=true
        rw [h4]
        refine(af _ _).2 ?_
        have h1:=hk.1;have h2:=hk.2.1
        unfold vn
        generalize v.sort=s at h1 h2
        rcases (by omega:s=1 \/ s=2 \/ s=3 \/ s=4 \/ s=5) with rfl | rfl | rfl | rfl | rfl<;>rfl
       refine fin (x0:=.v (.c .inil)) (v0:=lT v o) ?_ h
       show (tI (!cX v.sort o) _ (tN (stB v.sort.toNat o) (tN (zG v.rite fN) _))).val=_
       rw [hf]
       refine(nv (Ma hk hf)).trans ((nv h3).trans ((nv rfl).trans ((nv ho).trans ((nv rfl).trans ?_))))
       show some (some (SV.v (V1.c Cell.inil),adK _ _ _))=_
       rw [show gvM.bg=db from rfl,adK_eq ho];rfl
  ·simp [T.val] at h
 ·simp [T.val] at h
end Go.Proofs.YtcpdipfepeccgaaGreatDoor

namespace Go.Proofs.YtcpdipfepeccgaaGreatDoor
open Go Go.Sx Go.Proofs
set_option maxRecDepth 100000
variable {σ:Sg} {lp:Lp}
def tu (σ:Sg) (n:Nat) (H:Hp AV):Option (Hp AV):=match hget H n with
 | some (.abs a)=>match Lm σ a with
   | some (some c::K)=>match Nat.ble 8 n,clHs H H with
     | true,true=>some (g0 H n (some c::K))
     | _,_=>none
   | _=>none
 | _=>none
theorem v8 {N:Env AV} (hF:N.F=F6 σ) (hG:N.G=8) {n:Nat} {H H':Hp AV} (h:tu σ n H=some H'):Opn N H H' /\ H.length<=H'.length /\ ∀m c,hget H m=some c->∃c',hget H' m=some c':=by
 unfold tu at h
 split at h
 ·rename_i a hn
  split at h
  ·rename_i c K hK
   split at h
   ·rename_i h1 h2
    cases h
    have hlt:=aH hn
    refine⟨oZ (K:=some c::K) ⟨cn.1 h2,trivial⟩ hn ⟨c,rfl⟩ (by rw [hG];exact Nat.le_of_ble_eq_true h1) fun l S w hq=>?_,?_,fun m d hm=>?_⟩
    ·have:=DB (σ:=σ) a _ l S w hK (by rw [show (NV σ).F=F6 σ from rfl,<- hF];exact hq)
     exact H7 (N:=NV σ) (N':=N) (fun a l S w h=>by rw [hF];exact h) this
    ·show H.length<=(lset H n _++_).length
     rw [List.length_append,bn];omega
    ·rw [mu hlt (by simp)]
     by_cases e:m=n
     ·subst e
      exact⟨c.ren (opn m H.length),by rw [if_pos rfl];rfl⟩
     ·rw [if_neg e,if_pos (aH hm)];exact⟨d,hm⟩
   ·cases h
  ·cases h
 ·cases h
noncomputable def yE (σ:Sg) (M:List Bool) (k n2:Nat) (HA:Hp AV) (r:SV×Hp AV):T (SV×List AV×List AV) :=
 (ox σ r.2 n2).bind fun x=>match jx HA (gP n2 x.2 x.1 0 r.2) with
   | R=>match lk HA R,clVs R [r.1],clHs R R with
     | true,true,true=>ou (ox σ) isS M k [M.length] (r.1,R)
     | _,_,_=>.fail "close"
noncomputable def Ez (lp:Lp) (σ:Sg) (tab:Tab) (f:FuncId) (M:List Bool) (n2:Nat) (args:List SV) (l:List AV):T (SV×List AV×List AV) :=
 match tu σ M.length (hpO M l) with
 | some HA=>match tu σ n2 HA with
   | some HB=>match Q.clVs HB args,Q.clHs HB HB,Nat.ble 8 M.length with
     | true,true,true=>(Q.bind (Q.lv (NVl lp σ) tab 24 (.fn f) args HB) (yE σ M l.length n2 HA)).map B4
     | _,_,_=>.fail "run: names"
   | none=>.fail "run: second"
 | none=>.fail "run: first"
theorem KH (hlp:bS Tryz.prog (NVl lp σ)) {tab:Tab} (ht:bm Tryz.prog (NVl lp σ) tab) {f:FuncId} {M:List Bool} (hM:8=M.length) {n2:Nat} {args:List SV} {l:List AV} {v:SV} {l' nw:List AV}
 (hargs:∀x∈args,ClV (hpO M l) x) (h:(Ez lp σ tab f M n2 args l).val=some (v,l',nw)):Ctr Tryz.prog (NVl lp σ) f args (hpO M l) v (hpO M (l'++nw)) /\ l'.length=l.length:=by
 unfold Ez at h
 split at h
 ·rename_i HA hA
  split at h
  ·rename_i HB hB
   split at h
   ·rename_i h1 h2 h3
    rw [Q.clVs_eq] at h1
    rw [Q.clHs_eq] at h2
    obtain⟨v0,rfl,h0⟩:=mo h
    rw [Q.bind_eq,Q.lv_eq] at h0
    obtain⟨⟨v1,H2⟩,hr,hc⟩:=T.bind_some h0
    obtain⟨oA,lA,pA⟩:=v8 (N:=NVl lp σ) rfl rfl hA
    obtain⟨oB,lB,pB⟩:=v8 (N:=NVl lp σ) rfl rfl hB
    have hctr:=(Fc hlp ht 24 f).ctr hr (eP.1 h1) ⟨cn.1 h2,trivial⟩
    unfold yE at hc
    obtain⟨⟨a0,ns⟩,hv,hc⟩:=T.bind_some hc
    dsimp only at hc
    split at hc
    ·rename_i c1 c2 c3
     have hfl:Fl (NVl lp σ) H2 (jx HA (gP n2 ns a0 0 H2)):=(rV ((fB (N:=NVl lp σ) rfl) H2 n2 a0 ns hv)).trans (ur HA _)
     generalize jx HA (gP n2 ns a0 0 H2)=R at *
     have hfd:Fld (NVl lp σ) H2 R:=fun ρ w hO=>by
      obtain⟨ρ1,o1,e1,f1⟩:=hfl ρ w hO
      exact⟨ρ1,o1,fun m _ _=>e1 m,f1⟩
     obtain⟨s1,s2,s3⟩:=dY c1
     have hargsA:∀x∈args,ClV HA x:=fun x hx=>(hargs x hx).mono fun m c hm=>pA m c hm
     have hctA:=yC oB pB hctr hfd hargsA (eP.1 c2 v1 (List.mem_cons_self)) ⟨cn.1 c3,trivial⟩ s2 s3 s1
     refine(fun x=>⟨mH x.1,x.2⟩) (iz (N:=NVl lp σ) (fB rfl) bk hM hargs oA (fun m c h=>pA m c h) hctA hc)
    ·simp [T.val] at hc
   ·simp [T.val] at h
  ·simp [T.val] at h
 ·simp [T.val] at h
end Go.Proofs.YtcpdipfepeccgaaGreatDoor

namespace Go.Proofs.YtcpdipfepeccgaaGreatDoor
open Go Go.Sx Go.Proofs
set_option maxRecDepth 100000
variable {σ:Sg} {lp:Lp}
structure PkF where
 fit:Int->O->Bool
 kj:VerM->Bool
 gk:VerM->O->Bool
 gv:VerM->O->VerM
 pk:PlotM->Bool
 vl:VerM->PlotM->Bool
 sk:VerM->PlotM->Bool
 sr:VerM->PlotM->Strd
 sv:VerM->PlotM->VerM
 sp:VerM->PlotM->PlotM
def bf (v:VerM):Bool:=v.doing != 0
def I8 (σ:Sg) (F:PkF) (args:List SV) (l:List AV):T (SV×List AV×List AV):=match args,l with
 | [.v (.c (.ptr 8 0)),a],[.ver v]=>match aOp.dec [a] with
   | some o=>.need (F.kj v) (.ite (bf v) (.leaf (.v (jl σ ErS),[.ver v],[])) (.ite (!F.fit v.sort o) (.leaf (.v (jl σ ErA),[.ver v],[])) (.need (F.gk v o) (.leaf (.v (.c .inil),[.ver (F.gv v o)],[])))))
   | none=>.fail "Give"
 | _,_=>.fail "Give"
def GM (σ:Sg) (F:PkF) (args:List SV) (l:List AV):T (SV×List AV×List AV):=match args,l with
 | [.v (.c (.ptr 8 0)),.v (.c (.ptr 9 0))],[.ver v,.plot p] =>
   .ite (!bf v) (.leaf (.tup [zc,jl σ ErS],[.ver v,.plot p],[]))
    (.need (F.pk p) (.ite (F.vl v p) (.need (F.sk v p) (.leaf (.tup [Kz (F.sr v p),.c .inil],[.ver (F.sv v p),.plot (F.sp v p)],[]))) (.leaf (.tup [zc,jl σ ErA],[.ver v,.plot p],[]))))
 | _,_=>.fail "Step"
noncomputable def vw (σ:Sg) (F:PkF):Tab:=aC 18 (aL isS Ll (n7 aIO vBo (fun _=>none) (fun x=>F.fit x.1 x.2)))
 (aC 19 (aL isS noM (cU aNo vBo oVer (fun _ _=>none) (fun v _=>(bf v,v))))
 (aC 20 (aL isS mGv (I8 σ F)) (aC 21 (aL isS mSt (GM σ F)) aQ)))
noncomputable def mPk:List Bool:=mkM 8
noncomputable def mQu:List Bool:=mkM 7
noncomputable def mId:List Bool:=mkM 13
def Cw:SV×List AV×List AV->Option (SV×ParM)
 | (v,[.par a],[])=>some (v,a)
 | _=>none
def gV:SV:=.v (.c (.ptr 8 0))
def Ak (k:Nat):SV:=.v (.c (.il .i64 (Int.ofNat k)))
noncomputable def NH (σ:Sg) (F:PkF) (k:Nat) (m:ParM):T (Option (SV×ParM)):=(Ez cZ σ (vw σ F) 8 mPk 10 [gV,Ak k] [gH m]).map Cw
noncomputable def NG (σ:Sg) (F:PkF) (k:Nat) (m:ParM) (o:O):T (Option (SV×ParM)):=(Ez cZ σ (vw σ F) 7 mQu 10 [gV,Ak k,.v (.agg (gsC (O.wr o)))] [gH m]).map Cw
noncomputable def NI (σ:Sg) (F:PkF) (k:Nat) (m:ParM):T (Option (SV×ParM)):=(Ez cZ σ (vw σ F) 13 mId 10 [gV,Ak k] [gH m]).map Cw
end Go.Proofs.YtcpdipfepeccgaaGreatDoor

namespace Go.Proofs.YtcpdipfepeccgaaGreatDoor
open Go Go.Sx Go.Proofs
set_option maxRecDepth 100000
variable {σ:Sg}
def ErF:Nat:=3
def lqB:List (Nat×List O)->Bool
 | []=>true
 | x::r=>match decide (x.1=AV.len (AV.ops x.2)) with | true=>lqB r | false=>false
def lpB (n0:Nat) (ts:List RosM) (nb:Nat) (bs:List Bt):Bool:=match decide (n0=AV.len (nD ts)) with
 | true=>(match decide (nb=AV.len (AV.beats bs)) with | true=>true | false=>false)
 | false=>false
def vm (ts:List RosM):List (Nat×List O):=ts.map fun r=>(AV.len (.ops r.queue),r.queue)
def aA:RosM:=⟨⟨0,0,⟨bu,0,wu,aq,aq,0,[],[],0,0,0,0,N2,⟨false,0,0⟩,[],0,⟨aq,false⟩⟩,0,bu,⟨0,0,0,0⟩,none,⟨0,0⟩⟩,[],0,0⟩
section
variable {β:Type} (I:Bool->β->β->β) (N:Bool->β->β)
def fnP (hq:List (Nat×List O)) (n0 nb:Nat) (m:ParM) (t:β):β:=N (lqB hq) (N (lpB n0 m.threads nb m.beats) t)
def fn0 (m:ParM) (t:β):β:=fnP N (vm m.threads) (AV.len (nD m.threads)) (AV.len (.beats m.beats)) m t
def idF (L:Bool->ParM->β) (k:Nat) (m:ParM):β :=
 let t:=m.threads.getD k aA
 I true (N true (I ((!bf t.ver)==true) (N true (fn0 N m (L (((AV.len (.ops t.queue):Nat):Int)==0) m))) (fn0 N m (L false m)))) (fn0 N m (L true m))
def quF (E:Nat->ParM->β) (L:ParM->β) (F:PkF) (k:Nat) (m:ParM) (o:O):β :=
 let t:=m.threads.getD k aA
 let nq:=AV.len (.ops t.queue)
 let m2:ParM:={m with threads:=m.threads.set k {t with queue:=t.queue++[o],given:=bp t.given}}
 I true (I (!F.fit m.sort o) (fn0 N m (E ErA m)) (N true (I (decide (t.given>=64)) (fn0 N m (E ErF m))
   (N (decide (nq=AV.len (AV.ops t.queue) /\ (nq+1) * (SI.bytes Eu+1)<=lim)) (fnP N ((vm m.threads).set k (nq+1,t.queue++[o])) (AV.len (nD m.threads)) (AV.len (.beats m.beats)) m2 (L m2)))))) (fn0 N m (E ErA m))
def td (E:Nat->ParM->β) (L:Bt->ParM->β) (F:PkF) (k:Nat) (m:ParM) (v:VerM) (q:List O) (hq:List (Nat×List O)) (bg:Bool) (o:O) (g l:Int):β :=
 let setT (x:RosM):List RosM:=m.threads.set k x
 let nb:=AV.len (.beats m.beats)
 let n0:=AV.len (nD m.threads)
 let m1:ParM:={m with threads:=setT ⟨v,q,g,l⟩}
 let err (i:Nat):β:=fnP N hq n0 nb m1 (E i m1)
 let s:=F.sr v m.plot
 let b:Bt:=⟨(k:Int),bg,o.kind,o.key,o.val,o.tall,s.real==0,s.over,s.code,s.val⟩
 let fin (bs:List Bt):β:=N (decide (nb=AV.len (AV.beats bs) /\ (nb+1) * (SI.bytes BK+1)<=lim))
  (let m2:ParM:={m with plot:=F.sp v m.plot,threads:=setT ⟨F.sv v m.plot,q,g,(nb:Int)⟩,beats:=bs++[b]};fnP N hq n0 (nb+1) m2 (L b m2))
 I (!bf v) (err ErS) (N (F.pk m.plot) (I (F.vl v m.plot) (N (F.sk v m.plot)
   (I (de (s.real==1) (decide (l>=0))) (N (decide (0<=l /\ l < (nb:Int))) (N (decide (0+l.toNat < m.beats.length)) (fin (m.beats.set (0+l.toNat) {m.beats.getD (0+l.toNat) kbeats.dflt with real:=true})))) (fin m.beats))) (err ErA)))
def pkF (E:Nat->ParM->β) (L:Bt->ParM->β) (F:PkF) (k:Nat) (m:ParM):β :=
 let t:=m.threads.getD k aA
 let q:=t.queue
 let o:=q.getD 0 kops.dflt
 let nq:=AV.len (.ops q)
 let go:β:=N true (I (!bf t.ver)
  (N (decide ((0:Int)<=0 /\ (0:Int) < (nq:Int))) (N (decide (0 < q.length)) (N (F.kj t.ver) (I (bf t.ver) (fn0 N m (E ErS m)) (I (!F.fit t.ver.sort o) (fn0 N m (E ErA m)) (N (F.gk t.ver o)
    (N (decide ((0:Int)<=1 /\ (1:Int)<=(nq:Int) /\ (nq:Int)<=(nq:Int) /\ nq=AV.len (AV.ops q)))
      (td I N E L F k m (F.gv t.ver o) ((q.take ((nq:Int)).toNat).drop 1) ((vm m.threads).set k (((nq:Int)).toNat - 1,(q.take ((nq:Int)).toNat).drop 1)) true o t.given t.last))))))))
  (td I N E L F k m t.ver q (vm m.threads) false ⟨0,0,0,0⟩ t.given t.last))
 I false (fn0 N m (E ErA m)) (I true (N true (I ((!bf t.ver)==true) (N true (I ((nq:Int)==0) (fn0 N m (E ErS m)) go)) go)) (fn0 N m (E ErS m)))
end
def btZ:V1:=.agg [.it .i64 0,.bt false,.it .i64 0,.it .i64 0,.it .i64 0,.it .i64 0,.bt false,.bt false,.it .i64 0,.it .i64 0]
def pkE (σ:Sg) (i:Nat) (m:ParM):T (Option (SV×ParM)):=.leaf (some (.tup [btZ,jl σ i],m))
def pkL (b:Bt) (m:ParM):T (Option (SV×ParM)):=.leaf (some (.tup [.agg b.enc,.c .inil],m))
def quE (σ:Sg) (i:Nat) (m:ParM):T (Option (SV×ParM)):=.leaf (some (.v (jl σ i),m))
def quL (m:ParM):T (Option (SV×ParM)):=.leaf (some (.v (.c .inil),m))
def idL (b:Bool) (m:ParM):T (Option (SV×ParM)):=.leaf (some (.v (.c (.bt b)),m))
noncomputable def nC (σ:Sg) (F:PkF) (f:FuncId) (M:List Bool) (args:List SV) (m:ParM):T (Option (SV×ParM)):=(oP cZ σ (vw σ F) f M args [gH m] (cD AV.len Bl (ParM.wr m))).map Cw
def PV {α:Type}:T α->Option (Bool×T α)
 | .ite c t _=>some (c,t)
 | _=>none
def GV {α:Type}:T α->Option (Bool×T α)
 | .ite c _ t=>some (c,t)
 | _=>none
def j8 (n:Nat) (k:Int):Bool:=de (decide (k>=0)) (decide (k < (n:Int)))
def lpM (m:ParM):Bool:=lpB (AV.len (nD m.threads)) m.threads (AV.len (.beats m.beats)) m.beats
end Go.Proofs.YtcpdipfepeccgaaGreatDoor

namespace Go.Proofs.YtcpdipfepeccgaaGreatDoor
open Go Go.Sx Go.Proofs
set_option maxRecDepth 100000
variable {σ:Sg} {lp:Lp}
def rH {γ α:Type} (f:γ->α) (t:T (Option α)) (b:Bool) (x:γ):Prop:=b=true->t.val=some (some (f x))
theorem jT {γ α:Type} {f:γ->α} {c:Bool} {t e:T (Option α)} {b b':Bool} {x y:γ} (h1:rH f t b x) (h2:rH f e b' y):rH f (tI c t e) (cond c b b') (cond c x y):=by cases c<;>assumption
theorem fT {γ α:Type} {f:γ->α} {c:Bool} {t:T (Option α)} {b:Bool} {x:γ} (h:rH f t b x):rH f (tN c t) (c&&b) x:=fun hb=>by
 cases c with
 | true=>exact h hb
 | false=>cases hb
abbrev bN:Bool->Bool->Bool:=fun b t=>b&&t
abbrev cN {β:Type}:Bool->β->β:=fun _ t=>t
noncomputable def pkM:PkF where
 fit:=cX
 kj v:=cH (vd v)
 gk v o:=cH (zF v o)
 gv:=lT
 pk p:=decide p.Ok
 vl v p:=decide (p.valid (fJ v.rite).1)
 sk v p:=cH (Dn v p)
 sr v p:=(cL v p).1
 sv v p:=(cL v p).2.1
 sp v p:=(cL v p).2.2
theorem JH:FnOk Tryz.prog (NV σ) 19 (aL isS noM (cU aNo vBo oVer (fun _ _=>none) (fun v _=>(bf v,v)))) :=
 fK au rfl fun v x _=>by
  obtain⟨so,en,ri,dg,cl,op,job,an⟩:=v
  rcases job with _ | ⟨j | j | j | j | j⟩<;>exact⟨kX,VerM.wr _,rfl,[],rfl,fun _=>rfl,congrArg T.val (by kernel_rfl:_=tN true (.leaf (some (bf _,_))))⟩
theorem give_eq:I8 σ pkM=DG σ:=by funext args l;unfold I8 DG;rfl
theorem stepS_eq:GM σ pkM=C4 σ:=by funext args l;unfold GM C4;rfl
theorem y6:bm Tryz.prog (NV σ) (vw σ pkM):=aj DJ (aj JH (aj (by rw [give_eq];exact LQ) (aj (by rw [stepS_eq];exact KA) au)))
def btD:Bt:=⟨0,false,0,0,0,0,false,false,0,0⟩
def Dl (F:PkF) (m:ParM) (k:Nat):(Nat×Bt)×ParM:=pkF cond cN (fun i m=>((i+1,btD),m)) (fun b m=>((0,b),m)) F k m
def HW (F:PkF) (m:ParM) (k:Nat):Bool:=pkF cond bN (fun _ _=>true) (fun _ _=>true) F k m
def sY (F:PkF) (m:ParM) (k:Nat) (o:O):Nat×ParM:=quF cond cN (fun i m=>(i+1,m)) (fun m=>(0,m)) F k m o
def Dq (F:PkF) (m:ParM) (k:Nat) (o:O):Bool:=quF cond bN (fun _ _=>true) (fun _=>true) F k m o
def wK (m:ParM) (k:Nat):Bool:=idF cond cN (fun b _=>b) k m
noncomputable def dR:ParM->Nat->(Nat×Bt)×ParM:=Dl pkM
noncomputable def ES:ParM->Nat->Bool:=HW pkM
noncomputable def cj:ParM->Nat->O->Nat×ParM:=sY pkM
noncomputable def BX:ParM->Nat->O->Bool:=Dq pkM
def QC (σ:Sg):(Nat×Bt)×ParM->SV×ParM
 | ((0,b),m)=>(.tup [.agg b.enc,.c .inil],m)
 | ((i+1,_),m)=>(.tup [btZ,jl σ i],m)
def QB (σ:Sg):Nat×ParM->SV×ParM
 | (0,m)=>(.v (.c .inil),m)
 | (i+1,m)=>(.v (jl σ i),m)
theorem O1 (σ:Sg) (F:PkF) (k:Nat) (m:ParM):rH (QC σ) (pkF tI tN (pkE σ) pkL F k m) (HW F m k) (Dl F m k):=by
 unfold HW Dl pkF td fn0 fnP
 dsimp only
 repeat' first | exact fun _=>rfl | apply fT | apply jT
theorem OX (σ:Sg) (F:PkF) (k:Nat) (m:ParM) (o:O):rH (QB σ) (quF tI tN (quE σ) quL F k m o) (Dq F m k o) (sY F m k o):=by
 unfold Dq sY quF fn0 fnP
 dsimp only
 repeat' first | exact fun _=>rfl | apply fT | apply jT
theorem NS:∀ts:List RosM,lqB (vm ts)=true
 | []=>rfl
 | r::ts=>by
   show (match decide (AV.len (.ops r.queue)=AV.len (.ops r.queue)) with | true=>lqB (vm ts) | false=>false)=true
   rw [decide_eq_true rfl];exact NS ts
theorem z6 (m:ParM):lpM m=true:=by
 unfold lpM lpB
 rw [decide_eq_true rfl,decide_eq_true rfl]
theorem Py (k:Nat) (m:ParM):(idF tI tN idL k m).val=some (some (.v (.c (.bt (wK m k))),m)):=by
 have h:rH (fun b:Bool=>((.v (.c (.bt b)):SV),m)) (idF tI tN idL k m) (idF cond bN (fun _ _=>true) k m) (wK m k):=by
  unfold wK idF fn0 fnP
  dsimp only
  repeat' first | exact fun _=>rfl | apply fT | apply jT
 refine h ?_
 unfold idF fn0 fnP
 have e1:lqB (vm m.threads)=true:=NS _
 have e2:lpB (AV.len (nD m.threads)) m.threads (AV.len (.beats m.beats)) m.beats=true:=z6 m
 rw [e1,e2]
 show cond _ true true=true
 cases _:((!bf (m.threads.getD k aA).ver)==true)<;>rfl
theorem LZ {α:Type} {t u:T α} {c:Bool} (h:PV t=some (c,u)) (hc:c=true):t.val=u.val:=by
 cases t with
 | ite b x y=>cases h;subst hc;rfl
 | _=>cases h
theorem C6 {α:Type} {t u:T α} {c:Bool} (h:GV t=some (c,u)) (hc:c=false):t.val=u.val:=by
 cases t with
 | ite b x y=>cases h;subst hc;rfl
 | _=>cases h
theorem xf {r:SV×List AV×List AV} {v:SV} {a:ParM} (h:Cw r=some (v,a)):r=(v,[.par a],[]):=by
 unfold Cw at h
 split at h
 ·cases h;rfl
 ·cases h
theorem uf {M:List Bool} (hM:8=M.length) {a:AV} {args:List SV} (hf:cS args=true):∀x∈gV::args,ClV (hpO M [a]) x:=fun x hx=>by
 rcases List.mem_cons.1 hx with rfl | hx
 ·exact tc hM
 ·exact bL hf x hx
theorem xW {f:FuncId} {M:List Bool} (hM:8=M.length) {args:List SV} (hf:cS args=true) {m:ParM} {v:SV} {m':ParM} (h:((Ez cZ σ (vw σ pkM) f M 10 (gV::args) [gH m]).map Cw).val=some (some (v,m'))) :
 Ctr Tryz.prog (NV σ) f (gV::args) (hpO M [gH m]) v (hpO M [gH m']):=by
 obtain⟨y,h1,h2⟩:=map_some h
 rw [xf h2] at h1
 exact gZ (KH fL (ny y6) hM (uf hM hf) h1).1
theorem xX {f:FuncId} {M:List Bool} (hM:8=M.length) {args:List SV} (hf:cS args=true) {m:ParM} {v:SV} {m':ParM} (h:(nC σ pkM f M (gV::args) m).val=some (some (v,m'))) :
 Ctr Tryz.prog (NV σ) f (gV::args) (hpO M [gH m]) v (hpO M [gH m']):=by
 obtain⟨y,h1,h2⟩:=map_some h
 rw [xf h2] at h1
 exact gZ (jR fL (ny y6) hM (a:=gH m) (K:=cD AV.len Bl (ParM.wr m)) ⟨_,rfl⟩ (fun L S w hq=>(jW (N:=NVl cZ σ) rfl (by exact rfl) rfl L S w).1 hq) (uf hM hf) h1).1
theorem SP {c:Cell} {k:Nat} (h:iOf c=some (k:Int)) (ρ:Nm):SV.den ρ (.v (.c c))=SV.den ρ (Ak k):=by
 show c.den ρ=_
 rw [aM h ρ];rfl
theorem Ps {c:Cell} {k:Int} (h:iOf c=some k) (ρ:Nm):SV.den ρ (.v (.c c))=SV.den ρ (.v (.c (.it .i64 k))):=by
 show c.den ρ=_
 rw [aM h ρ];rfl
theorem Hk {P:List RosM->Nat->Prop} {ts:List RosM} {k:Nat} (hn:ts.length<=6) (hk:k < ts.length) (_:∀a,P [a] 0) (_:∀a b,P [a,b] 0) (_:∀a b,P [a,b] 1) (_:∀a b c,P [a,b,c] 0) (_:∀a b c,P [a,b,c] 1) (_:∀a b c,P [a,b,c] 2) (_:∀a b c d,P [a,b,c,d] 0) (_:∀a b c d,P [a,b,c,d] 1) (_:∀a b c d,P [a,b,c,d] 2) (_:∀a b c d,P [a,b,c,d] 3) (_:∀a b c d e,P [a,b,c,d,e] 0) (_:∀a b c d e,P [a,b,c,d,e] 1) (_:∀a b c d e,P [a,b,c,d,e] 2) (_:∀a b c d e,P [a,b,c,d,e] 3) (_:∀a b c d e,P [a,b,c,d,e] 4) (_:∀a b c d e f,P [a,b,c,d,e,f] 0) (_:∀a b c d e f,P [a,b,c,d,e,f] 1) (_:∀a b c d e f,P [a,b,c,d,e,f] 2) (_:∀a b c d e f,P [a,b,c,d,e,f] 3) (_:∀a b c d e f,P [a,b,c,d,e,f] 4) (_:∀a b c d e f,P [a,b,c,d,e,f] 5):P ts k:=by
 rcases ts with _ | ⟨a,_ | ⟨b,_ | ⟨c,_ | ⟨d,_ | ⟨e,_ | ⟨f,_ | ⟨g,ts⟩⟩⟩⟩⟩⟩⟩<;>simp only [List.length_cons,List.length_nil] at hn hk<;>(try omega) <;>
  rcases (by omega:k=0 \/ k=1 \/ k=2 \/ k=3 \/ k=4 \/ k=5) with rfl | rfl | rfl | rfl | rfl | rfl<;>first | omega | solve_by_elim
theorem Df {P:List RosM->Prop} {ts:List RosM} (hn:ts.length<=6) (h0:1<=ts.length) (_:∀a,P [a]) (_:∀a b,P [a,b]) (_:∀a b c,P [a,b,c]) (_:∀a b c d,P [a,b,c,d]) (_:∀a b c d e,P [a,b,c,d,e]) (_:∀a b c d e f,P [a,b,c,d,e,f]):P ts:=by
 rcases ts with _ | ⟨a,_ | ⟨b,_ | ⟨c,_ | ⟨d,_ | ⟨e,_ | ⟨f,_ | ⟨g,ts⟩⟩⟩⟩⟩⟩⟩<;>simp only [List.length_cons,List.length_nil] at hn h0<;>first | omega | solve_by_elim
theorem O2 (σ:Sg) (F:PkF) (m:ParM) (hn:m.threads.length<=6) (k:Nat) (hk:k < m.threads.length):NH σ F k m=pkF tI tN (pkE σ) pkL F k m:=by
 obtain⟨so,p,ts,bs⟩:=m
 apply Hk (P:=fun ts k=>NH σ F k (⟨so,p,ts,bs⟩:ParM)=pkF tI tN (pkE σ) pkL F k (⟨so,p,ts,bs⟩:ParM)) hn hk<;>(intros;as_aux_lemma=>kernel_rfl)
theorem K4 (σ:Sg) (F:PkF) (m:ParM) (hn:m.threads.length<=6) (h0:1<=m.threads.length) (k:Int):PV (nC σ F 8 mPk [gV,.v (.c (.it .i64 k))] m)=some (!(j8 m.threads.length k),tN (lpM m) (pkE σ ErA m)):=by
 obtain⟨so,p,ts,bs⟩:=m
 apply Df (P:=fun ts=>PV (nC σ F 8 mPk [gV,.v (.c (.it .i64 k))] (⟨so,p,ts,bs⟩:ParM))=some (!(j8 ts.length k),tN (lpM (⟨so,p,ts,bs⟩:ParM)) (pkE σ ErA (⟨so,p,ts,bs⟩:ParM)))) hn h0<;>(intros;as_aux_lemma=>kernel_rfl)
theorem OY (σ:Sg) (F:PkF) (m:ParM) (o:O) (hn:m.threads.length<=6) (k:Nat) (hk:k < m.threads.length):NG σ F k m o=quF tI tN (quE σ) quL F k m o:=by
 obtain⟨so,p,ts,bs⟩:=m
 apply Hk (P:=fun ts k=>NG σ F k (⟨so,p,ts,bs⟩:ParM) o=quF tI tN (quE σ) quL F k (⟨so,p,ts,bs⟩:ParM) o) hn hk<;>(intros;as_aux_lemma=>kernel_rfl)
theorem KZ (σ:Sg) (F:PkF) (m:ParM) (o:O) (hn:m.threads.length<=6) (h0:1<=m.threads.length) (k:Int):GV (nC σ F 7 mQu [gV,.v (.c (.it .i64 k)),.v (.agg (gsC (O.wr o)))] m)=some ((!(j8 m.threads.length k))==false,tN (lpM m) (quE σ ErA m)):=by
 obtain⟨so,p,ts,bs⟩:=m
 apply Df (P:=fun ts=>GV (nC σ F 7 mQu [gV,.v (.c (.it .i64 k)),.v (.agg (gsC (O.wr o)))] (⟨so,p,ts,bs⟩:ParM))=some ((!(j8 ts.length k))==false,tN (lpM (⟨so,p,ts,bs⟩:ParM)) (quE σ ErA (⟨so,p,ts,bs⟩:ParM)))) hn h0<;>(intros;as_aux_lemma=>kernel_rfl)
theorem Pz (σ:Sg) (F:PkF) (m:ParM) (hn:m.threads.length<=6) (k:Nat) (hk:k < m.threads.length):NI σ F k m=idF tI tN idL k m:=by
 obtain⟨so,p,ts,bs⟩:=m
 apply Hk (P:=fun ts k=>NI σ F k (⟨so,p,ts,bs⟩:ParM)=idF tI tN idL k (⟨so,p,ts,bs⟩:ParM)) hn hk<;>(intros;as_aux_lemma=>kernel_rfl)
theorem LL (σ:Sg) (F:PkF) (m:ParM) (hn:m.threads.length<=6) (h0:1<=m.threads.length) (k:Int):GV (nC σ F 13 mId [gV,.v (.c (.it .i64 k))] m)=some ((!(j8 m.threads.length k))==false,tN (lpM m) (idL true m)):=by
 obtain⟨so,p,ts,bs⟩:=m
 apply Df (P:=fun ts=>GV (nC σ F 13 mId [gV,.v (.c (.it .i64 k))] (⟨so,p,ts,bs⟩:ParM))=some ((!(j8 ts.length k))==false,tN (lpM (⟨so,p,ts,bs⟩:ParM)) (idL true (⟨so,p,ts,bs⟩:ParM)))) hn h0<;>(intros;as_aux_lemma=>kernel_rfl)
theorem Cf {n:Nat} {k:Int} (h:j8 n k=true):∃i:Nat,k=(i:Int) /\ i < n:=by
 obtain⟨h1,h2⟩:=fP h
 have h1:=of_decide_eq_true h1
 have h2:=of_decide_eq_true h2
 exact⟨k.toNat,by omega,by omega⟩
def okN (m:ParM):Bool:=decide (1<=m.threads.length /\ m.threads.length<=6)
def Dk (σ:Sg) (ok:ParM->Nat->Bool) (pk:ParM->Nat->(Nat×Bt)×ParM) (args:List SV) (l:List AV):T (SV×List AV×List AV):=match args,l with
 | [.v (.c (.ptr 8 0)),.v (.c c)],[.par m]=>match iOf c with
   | some k=>.need (okN m) (.ite (!(j8 m.threads.length k)) (.leaf (.tup [btZ,jl σ ErA],[.par m],[])) (.need (ok m k.toNat)
     (.ite (Nat.beq (pk m k.toNat).1.1 0) (.leaf (.tup [.agg (pk m k.toNat).1.2.enc,.c .inil],[.par (pk m k.toNat).2],[]))
       (.ite (Nat.beq (pk m k.toNat).1.1 (ErS+1)) (.leaf (.tup [btZ,jl σ ErS],[.par (pk m k.toNat).2],[])) (.need (Nat.beq (pk m k.toNat).1.1 (ErA+1)) (.leaf (.tup [btZ,jl σ ErA],[.par (pk m k.toNat).2],[])))))))
   | none=>.fail "Pick"
 | _,_=>.fail "Pick"
def xU (σ:Sg) (ok:ParM->Nat->O->Bool) (qu:ParM->Nat->O->Nat×ParM) (args:List SV) (l:List AV):T (SV×List AV×List AV):=match args,l with
 | [.v (.c (.ptr 8 0)),.v (.c c),a],[.par m]=>match iOf c,aOp.dec [a] with
   | some k,some o=>.need (okN m) (.ite (!(j8 m.threads.length k)) (.leaf (.v (jl σ ErA),[.par m],[])) (.need (ok m k.toNat o)
     (.ite (Nat.beq (qu m k.toNat o).1 0) (.leaf (.v (.c .inil),[.par (qu m k.toNat o).2],[]))
       (.ite (Nat.beq (qu m k.toNat o).1 (ErF+1)) (.leaf (.v (jl σ ErF),[.par (qu m k.toNat o).2],[])) (.need (Nat.beq (qu m k.toNat o).1 (ErA+1)) (.leaf (.v (jl σ ErA),[.par (qu m k.toNat o).2],[])))))))
   | _,_=>.fail "Queue"
 | _,_=>.fail "Queue"
def uo (m:ParM) (k:Int):Bool:=match j8 m.threads.length k with | true=>wK m k.toNat | false=>true
def IZ (idl:ParM->Int->Bool) (args:List SV) (l:List AV):T (SV×List AV×List AV):=match args,l with
 | [.v (.c (.ptr 8 0)),.v (.c c)],[.par m]=>match iOf c with
   | some k=>.need (okN m) (.leaf (.v (.c (.bt (idl m k))),[.par m],[]))
   | none=>.fail "Idle"
 | _,_=>.fail "Idle"
theorem Ds {m:ParM} (h:okN m=true):1<=m.threads.length /\ m.threads.length<=6:=of_decide_eq_true h
theorem Qe (c:Cell) (k:Nat) (h:iOf c=some (k:Int)) (r:List SV) (ρ:Nm):(gV::.v (.c c)::r).map (SV.den ρ)=(gV::Ak k::r).map (SV.den ρ):=by
 simp only [List.map_cons,SP h ρ]
theorem Qf (c:Cell) (k:Int) (h:iOf c=some k) (r:List SV) (ρ:Nm):(gV::.v (.c c)::r).map (SV.den ρ)=(gV::.v (.c (.it .i64 k))::r).map (SV.den ρ):=by
 simp only [List.map_cons,Ps h ρ]
theorem CW (i:Nat):(i:Int).toNat=i:=rfl
theorem K8:FnOk Tryz.prog (NV σ) 8 (aL isS mPk (Dk σ ES dR)):=by
 refine b9 bk (bQ _) fun args l x l' nw h hl hargs=>?_
 unfold Dk at h
 split at h
 ·rename_i c m
  split at h
  ·rename_i k hc
   obtain⟨hn,h⟩:=ah (h:(T.need _ _).val=_)
   obtain⟨hn1,hn6⟩:=Ds hn
   have fin:∀{x0:SV} {m0:ParM},Ctr Tryz.prog (NV σ) 8 [gV,.v (.c c)] (hpO mPk [gH m]) x0 (hpO mPk [gH m0])->some (x0,[AV.par m0],([]:List AV))=some (x,l',nw)->Ctr Tryz.prog (NV σ) 8 [gV,.v (.c c)] (hpO mPk [gH m]) x (hpO mPk (l'++nw)):=fun {x0 m0} h1 h2=>by
    simp only [Option.some.injEq,Prod.mk.injEq] at h2
    obtain⟨rfl,rfl,rfl⟩:=h2
    exact h1
   cases hb:j8 m.threads.length k with
   | false =>
     rw [hb] at h
     refine fin (bE (xX (args:=[.v (.c (.it .i64 k))]) (bQ _) rfl ((LZ (K4 σ pkM m hn6 hn1 k) (by rw [hb];rfl)).trans (nv (z6 m)))) fun ρ=>Qf c k hc [] ρ) h
   | true =>
     rw [hb] at h
     obtain⟨i,rfl,hi⟩:=Cf hb
     obtain⟨hok,h⟩:=ah (h:(T.need _ _).val=_)
     rw [CW] at hok h
     have hctr:=bE (xW (args:=[Ak i]) (bQ _) rfl ((congrArg T.val (O2 σ pkM m hn6 i hi)).trans (O1 σ pkM i m hok))) fun ρ=>Qe c i hc [] ρ
     rw [show Dl pkM m i=dR m i from rfl] at hctr
     generalize dR m i=r at h hctr
     obtain⟨⟨e,b⟩,m2⟩:=r
     cases e with
     | zero=>exact fin hctr h
     | succ e =>
       replace h:(T.ite (Nat.beq (e+1) (ErS+1)) _ _).val=_:=h
       cases h1:Nat.beq (e+1) (ErS+1) with
       | true =>
         rw [h1] at h
         have h1:=(af _ _).1 h1
         cases h1
         exact fin hctr h
       | false =>
         rw [h1] at h
         obtain⟨h2,h⟩:=ah (h:(T.need _ _).val=_)
         have h2:=(af _ _).1 h2
         cases h2
         exact fin hctr h
  ·simp [T.val] at h
 ·simp [T.val] at h
theorem HI:FnOk Tryz.prog (NV σ) 7 (aL isS mQu (xU σ BX cj)):=by
 refine b9 bk (bQ _) fun args l x l' nw h hl hargs=>?_
 unfold xU at h
 split at h
 ·rename_i c a m
  split at h
  ·rename_i k o hc ho
   obtain⟨hn,h⟩:=ah (h:(T.need _ _).val=_)
   obtain⟨hn1,hn6⟩:=Ds hn
   have fin:∀{x0:SV} {m0:ParM},Ctr Tryz.prog (NV σ) 7 [gV,.v (.c c),.v (.agg (gsC (O.wr o)))] (hpO mQu [gH m]) x0 (hpO mQu [gH m0])->some (x0,[AV.par m0],([]:List AV))=some (x,l',nw)->Ctr Tryz.prog (NV σ) 7 [gV,.v (.c c),a] (hpO mQu [gH m]) x (hpO mQu (l'++nw)):=fun {x0 m0} h1 h2=>by
    simp only [Option.some.injEq,Prod.mk.injEq] at h2
    obtain⟨rfl,rfl,rfl⟩:=h2
    exact bE h1 fun ρ=>congrArg (fun z=>SV.den ρ gV::SV.den ρ (.v (.c c))::z) (aOp.ok _ _ ho ρ).symm
   cases hb:j8 m.threads.length k with
   | false =>
     rw [hb] at h
     refine fin (bE (xX (args:=[.v (.c (.it .i64 k)),.v (.agg (gsC (O.wr o)))]) (bQ _) rfl ((C6 (KZ σ pkM m o hn6 hn1 k) (by rw [hb];rfl)).trans (nv (z6 m)))) fun ρ=>Qf c k hc _ ρ) h
   | true =>
     rw [hb] at h
     obtain⟨i,rfl,hi⟩:=Cf hb
     obtain⟨hok,h⟩:=ah (h:(T.need _ _).val=_)
     rw [CW] at hok h
     have hctr:=bE (xW (args:=[Ak i,.v (.agg (gsC (O.wr o)))]) (bQ _) rfl ((congrArg T.val (OY σ pkM m o hn6 i hi)).trans (OX σ pkM i m o hok))) fun ρ=>Qe c i hc _ ρ
     rw [show sY pkM m i o=cj m i o from rfl] at hctr
     generalize cj m i o=r at h hctr
     obtain⟨e,m2⟩:=r
     cases e with
     | zero=>exact fin hctr h
     | succ e =>
       replace h:(T.ite (Nat.beq (e+1) (ErF+1)) _ _).val=_:=h
       cases h1:Nat.beq (e+1) (ErF+1) with
       | true =>
         rw [h1] at h
         have h1:=(af _ _).1 h1
         cases h1
         exact fin hctr h
       | false =>
         rw [h1] at h
         obtain⟨h2,h⟩:=ah (h:(T.need _ _).val=_)
         have h2:=(af _ _).1 h2
         cases h2
         exact fin hctr h
  ·simp [T.val] at h
 ·simp [T.val] at h
theorem LK:FnOk Tryz.prog (NV σ) 13 (aL isS mId (IZ uo)):=by
 refine b9 bk (bQ _) fun args l x l' nw h hl hargs=>?_
 unfold IZ at h
 split at h
 ·rename_i c m
  split at h
  ·rename_i k hc
   obtain⟨hn,h⟩:=ah (h:(T.need _ _).val=_)
   obtain⟨hn1,hn6⟩:=Ds hn
   simp only [T.val,Option.some.injEq,Prod.mk.injEq] at h
   obtain⟨rfl,rfl,rfl⟩:=h
   show Ctr Tryz.prog (NV σ) 13 [gV,.v (.c c)] (hpO mId [gH m]) _ (hpO mId [gH m])
   unfold uo
   cases hb:j8 m.threads.length k with
   | false=>exact bE (xX (args:=[.v (.c (.it .i64 k))]) (bQ _) rfl ((C6 (LL σ pkM m hn6 hn1 k) (by rw [hb];rfl)).trans (nv (z6 m)))) fun ρ=>Qf c k hc [] ρ
   | true =>
     obtain⟨i,rfl,hi⟩:=Cf hb
     exact bE (xW (args:=[Ak i]) (bQ _) rfl ((congrArg T.val (Pz σ pkM m hn6 i hi)).trans (Py i m))) fun ρ=>Qe c i hc [] ρ
  ·simp [T.val] at h
 ·simp [T.val] at h
end Go.Proofs.YtcpdipfepeccgaaGreatDoor

namespace Go.Proofs.YtcpdipfepeccgaaGreatDoor
open Go Go.Sx Go.Proofs
set_option maxRecDepth 100000
set_option maxHeartbeats 0
noncomputable def mAw:List Bool:=mkM 5
theorem Ey (σ:Sg):eG σ Ow 5 mAw [] [] =
 .need (decide (σ ErS=σ ErS)) (.need (decide (σ ErA=σ ErA)) (.need (decide (σ ErA=σ ErA)) (.leaf (.v (.c (.bt true)),[],[])))):=by kernel_rfl
variable {σ:Sg}
theorem Ga {tab:Tab} (ht:bm Tryz.prog (NV σ) tab) {f:FuncId} {M:List Bool} (hM:8=M.length) (h:(eG σ tab f M [] []).val=some (.v (.c (.bt true)),[],[])):FnOk Tryz.prog (NV σ) f (aL isS M CV):=by
 refine b9 bk hM fun args l v l' nw h' hl hargs=>?_
 unfold CV at h'
 split at h'
 ·simp only [T.val,Option.some.injEq,Prod.mk.injEq] at h'
  obtain⟨rfl,rfl,rfl⟩:=h'
  exact kJ (mh ht hM (fun x hx=>by cases hx) h).1 (fun c hc n hn=>by simp [V1.cells] at hc;subst hc;cases hn) fun ρ=>rfl
 ·simp [T.val] at h'
theorem JP:FnOk Tryz.prog (NV σ) 5 (aL isS mAw CV) :=
 Ga CX (bQ _) (by rw [Ey];simp [T.val])
end Go.Proofs.YtcpdipfepeccgaaGreatDoor
