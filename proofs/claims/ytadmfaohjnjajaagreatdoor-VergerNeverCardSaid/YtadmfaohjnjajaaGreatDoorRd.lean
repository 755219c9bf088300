import Derived.Test.YtadmfaohjnjajaaGreatDoorQy
import Derived.Test.YtadmfaohjnjajaaGreatDoorRu
import Derived.Test.YtadmfaohjnjajaaGreatDoorRr
set_option linter.unusedVariables false
set_option linter.unusedSimpArgs false
set_option maxHeartbeats 4000000
namespace Go.Proofs.YtadmfaohjnjajaaGreatDoor
section
open Go Go.Sx Go.Proofs
set_option maxRecDepth 100000
variable {σ:Sg} {lp:Lp}
noncomputable def S9:List Bool:=mkM 15
def tB (b:Bool):T (SV×List AV×List AV):=.leaf (.v (.c (.bt b)),[],[])
noncomputable def jI (σ:Sg) (s:Cell) (o:O):T (SV×List AV×List AV):=gg σ bm 15 S9 [.v (.c s),.v (.agg (gsC (O.wr o)))] []
theorem Xb (σ:Sg) (o:O):jI σ (.il .i64 1) o=mM tI (tB true) (tB false) o:=by kernel_rfl
theorem Xa (σ:Sg) (o:O):jI σ (.il .i64 2) o=m4 tI (tB true) (tB false) o:=by kernel_rfl
theorem W9 (σ:Sg) (o:O):jI σ (.il .i64 3) o=nu tI (tB true) (tB false) (tB true) o:=by kernel_rfl
theorem W8 (σ:Sg) (o:O):jI σ (.il .i64 4) o=qR tI (tB true) (tB false) o:=by kernel_rfl
theorem W7 (σ:Sg) (o:O):jI σ (.il .i64 5) o=ra tI (tB true) (tB false) o:=by kernel_rfl
theorem Xc (σ:Sg) (s:Int) (h:∀c∈[(1:Int),2,3,4,5],(s==c)=false) (o:O):jI σ (.iv .i64 s [1,2,3,4,5] h) o=tB false:=by kernel_rfl
def aIO:ArgK (Int×O) where
 enc x:=[.v (.c (.it .i64 x.1)),.v (.agg (gsC (O.wr x.2)))]
 dec:=fun | [.v (.c c),.v (.agg cs)]=>(match iOf c,O.rd ((u0 cs).map .p) with | some s,some (o,[])=>some (s,o) | _,_=>none) | _=>none
 ok:=fun l a h ρ=>by
  split at h
  ·split at h
   ·rename_i h0 h1
    cases h
    have:=O.rd_s h1
    rw [List.append_nil] at this
    rw [<- this,lF]
    simp only [List.map_cons,List.map_nil,SV.den,V1.den,oc,bp h0 ρ]
    rfl
   ·cases h
  ·cases h
 free:=fun _=>rfl
theorem spB {α β:Type} {d:α->Option β} {b:Bool} {t e:T α} {x y:β} (h1:(t.map d).val=some (some x)) (h2:(e.map d).val=some (some y)):((tI b t e).map d).val=some (some (cond b x y)):=by cases b<;>assumption
theorem vTB (b:Bool):((tB b).map (kP vBo)).val=some (some b):=rfl
theorem PY:FnOk Tryz.prog (NV σ) 15 (aZ isS S9 (rW aIO vBo (fun _=>none) (fun x=>iw x.1 x.2))) :=
 pf aJ (gC _) fun x _=>by
  obtain⟨s,o⟩:=x
  unfold iw
  dsimp only
  by_cases h1:s=1
  ·subst h1
   refine⟨[.v (.c (.il .i64 1)),.v (.agg (gsC (O.wr o)))],rfl,fun _=>rfl,?_⟩
   show ((jI σ _ o).map (kP vBo)).val=_
   rw [Xb,if_pos rfl];unfold mM
   repeat' first | exact vTB _ | apply spB
  rw [if_neg h1]
  by_cases h2:s=2
  ·subst h2
   refine⟨[.v (.c (.il .i64 2)),.v (.agg (gsC (O.wr o)))],rfl,fun _=>rfl,?_⟩
   show ((jI σ _ o).map (kP vBo)).val=_
   rw [Xa,if_pos rfl];unfold m4
   repeat' first | exact vTB _ | apply spB
  rw [if_neg h2]
  by_cases h3:s=3
  ·subst h3
   refine⟨[.v (.c (.il .i64 3)),.v (.agg (gsC (O.wr o)))],rfl,fun _=>rfl,?_⟩
   show ((jI σ _ o).map (kP vBo)).val=_
   rw [W9,if_pos rfl];unfold nu
   repeat' first | exact vTB _ | apply spB
  rw [if_neg h3]
  by_cases h4:s=4
  ·subst h4
   refine⟨[.v (.c (.il .i64 4)),.v (.agg (gsC (O.wr o)))],rfl,fun _=>rfl,?_⟩
   show ((jI σ _ o).map (kP vBo)).val=_
   rw [W8,if_pos rfl];unfold qR
   repeat' first | exact vTB _ | apply spB
  rw [if_neg h4]
  by_cases h5:s=5
  ·subst h5
   refine⟨[.v (.c (.il .i64 5)),.v (.agg (gsC (O.wr o)))],rfl,fun _=>rfl,?_⟩
   show ((jI σ _ o).map (kP vBo)).val=_
   rw [W7,if_pos rfl];unfold ra
   repeat' first | exact vTB _ | apply spB
  rw [if_neg h5]
  have h:∀c∈[(1:Int),2,3,4,5],(s==c)=false:=xg (by simp [h1,h2,h3,h4,h5])
  refine⟨[.v (.c (.iv .i64 s [1,2,3,4,5] h)),.v (.agg (gsC (O.wr o)))],rfl,fun _=>rfl,?_⟩
  show ((jI σ _ o).map (kP vBo)).val=_
  rw [Xc];rfl
theorem yw {α:Type} {b:Bool} {t e:T (Option α)} {x y:Bool} {j:α} (h:cond b x y=true) (h1:x=true->t.val=some (some j)) (h2:y=true->e.val=some (some j)):(tI b t e).val=some (some j):=by
 cases b
 ·exact h2 h
 ·exact h1 h
theorem Ia:FnOk Tryz.prog (NV σ) 34 (aZ isS noM (mP aOp oPile (fun o=>some (mM cond true false o)) xp)) :=
 mO aJ rfl fun o h=>⟨aOp.enc o,rfl,fun _=>rfl,by
  have h:mM cond true false o=true:=h
  rw [O7];unfold mM at h ⊢
  revert h
  repeat' first | exact fun _=>rfl | exact fun h=>absurd h (by decide) | (refine fun h=>yw h ?_ ?_)⟩
theorem I1:FnOk Tryz.prog (NV σ) 35 (aZ isS noM (mP aOp oCort (fun o=>some (m4 cond true false o)) xq)) :=
 mO aJ rfl fun o h=>⟨aOp.enc o,rfl,fun _=>rfl,by
  have h:m4 cond true false o=true:=h
  rw [Qc];unfold m4 at h ⊢
  revert h
  repeat' first | exact fun _=>rfl | exact fun h=>absurd h (by decide) | (refine fun h=>yw h ?_ ?_)⟩
theorem Mb:FnOk Tryz.prog (NV σ) 36 (aZ isS noM (mP aOp oLit (fun o=>some (nu cond true false false o)) zB)) :=
 mO aJ rfl fun o h=>⟨aOp.enc o,rfl,fun _=>rfl,by
  have h:nu cond true false false o=true:=h
  rw [Tf];unfold nu at h ⊢
  revert h
  repeat' first | exact fun _=>rfl | exact fun h=>absurd h (by decide) | (refine fun h=>yw h ?_ ?_)⟩
theorem JA:FnOk Tryz.prog (NV σ) 37 (aZ isS noM (mP aOp oVau (fun o=>some (qR cond true false o)) zA)) :=
 mO aJ rfl fun o h=>⟨aOp.enc o,rfl,fun _=>rfl,by
  have h:qR cond true false o=true:=h
  rw [R2];unfold qR at h ⊢
  revert h
  repeat' first | exact fun _=>rfl | exact fun h=>absurd h (by decide) | (refine fun h=>yw h ?_ ?_)⟩
theorem Ke:FnOk Tryz.prog (NV σ) 38 (aZ isS noM (mP aOp oSte (fun o=>some (ra cond true false o)) CS)) :=
 mO aJ rfl fun o h=>⟨aOp.enc o,rfl,fun _=>rfl,by
  have h:ra cond true false o=true:=h
  rw [Sm];unfold ra at h ⊢
  revert h
  repeat' first | exact fun _=>rfl | exact fun h=>absurd h (by decide) | (refine fun h=>yw h ?_ ?_)⟩
end
section
open Go Go.Sx Go.Proofs
set_option maxRecDepth 100000
variable {σ:Sg} {lp:Lp}
structure GvF where
 fit:Int->O->Bool
 oks:Nat->O->Bool
 okb:RiteM->Cl->Bool
 bg:RiteM->Cl->RiteM
noncomputable def Rf (σ:Sg) (G:GvF) (F:StF) (k:Nat):Tab:=aQ 15 (aZ isS S9 (rW aIO vBo (fun _=>none) (fun x=>G.fit x.1 x.2)))
 (aQ 34 (aZ isS noM (mP aOp oPile (fun o=>some (G.oks 1 o)) xp)) (aQ 35 (aZ isS noM (mP aOp oCort (fun o=>some (G.oks 2 o)) xq))
 (aQ 36 (aZ isS noM (mP aOp oLit (fun o=>some (G.oks 3 o)) zB)) (aQ 37 (aZ isS noM (mP aOp oVau (fun o=>some (G.oks 4 o)) zA))
 (aQ 38 (aZ isS noM (mP aOp oSte (fun o=>some (G.oks 5 o)) CS)) (aQ 55 (aZ isS noM (dK aNo vBo oRite (fun _ _=>none) (fun m _=>(fZ m,m))))
 (aQ 54 (aZ isS noM (dK aCl vQ oRite (fun m c=>some (G.okb m c)) (fun m c=>((),G.bg m c))))
 (aQ 29 (Jv σ (aZ isS noM (CU 2 aNo oVer (fun v _=>some (F.oka v)) fun v _=>(.tup [],adK F k v,[])))) bm))))))))
noncomputable def mGv:List Bool:=mkM 9
def T5:SV×List AV×List AV->Option (SV×VerM)
 | (v,[.ver a],[])=>some (v,a)
 | _=>none
noncomputable def nQ (σ:Sg) (G:GvF) (F:StF) (k:Nat) (v:VerM) (o:O):T (Option (SV×VerM)):=(wI fJ σ (Rf σ G F k) 9 mGv [.v (.c (.ptr 7 0)),.v (.agg (gsC (O.wr o)))] [eJ v] (dw AV.len lW (bE 0 (VerM.wr v)))).map T5
def ke:Cl:=⟨1,dX,wNil,wNil,0,0,⟨0,0⟩⟩
def p5 (s:Nat) (o:O):JobM:=match s with | 1=>.pile (xp o) | 2=>.cort (xq o) | 3=>.lit (zB o) | 4=>.vau (zA o) | _=>.ste (CS o)
def u6 (bg:RiteM->Cl->RiteM) (s:Nat) (v:VerM) (o:O):VerM:={v with rite:=bg v.rite ke,doing:=1,call:=ke,op:=o,job:=some (p5 s o),answer:=⟨0,0⟩}
def rV {β:Type} (I:Bool->β->β->β) (N:Bool->β->β) (E:Nat->β) (L:VerM->β) (G:GvF) (oka:VerM->Bool) (ad:VerM->VerM) (s:Nat) (v:VerM) (o:O):β :=
 I (v.doing != 0) (N true (E ErS)) (I (!G.fit v.sort o) (N true (E ErA)) (N (G.oks s o) (N (G.okb v.rite ke) (N true (N (oka (u6 G.bg s v o)) (N true (L (ad (u6 G.bg s v o)))))))))
def gvL (v:VerM):T (Option (SV×VerM)):=.leaf (some (.v (.c .inil),v))
def gvE (σ:Sg) (v:VerM) (i:Nat):T (Option (SV×VerM)):=.leaf (some (.v (E8 σ i),v))
theorem TH (σ:Sg) (G:GvF) (F:StF) (v:VerM) (o:O):nQ σ G F 1 {v with sort:=1,job:=none} o=rV tI tN (gvE σ {v with sort:=1,job:=none}) gvL G F.oka (adK F 1) 1 {v with sort:=1,job:=none} o:=by kernel_rfl
theorem TG (σ:Sg) (G:GvF) (F:StF) (v:VerM) (j:PileM) (o:O):nQ σ G F 1 {v with sort:=1,job:=some (.pile j)} o=rV tI tN (gvE σ {v with sort:=1,job:=some (.pile j)}) gvL G F.oka (adK F 1) 1 {v with sort:=1,job:=some (.pile j)} o:=by kernel_rfl
theorem TF (σ:Sg) (G:GvF) (F:StF) (v:VerM) (o:O):nQ σ G F 2 {v with sort:=2,job:=none} o=rV tI tN (gvE σ {v with sort:=2,job:=none}) gvL G F.oka (adK F 2) 2 {v with sort:=2,job:=none} o:=by kernel_rfl
theorem TE (σ:Sg) (G:GvF) (F:StF) (v:VerM) (j:CortM) (o:O):nQ σ G F 2 {v with sort:=2,job:=some (.cort j)} o=rV tI tN (gvE σ {v with sort:=2,job:=some (.cort j)}) gvL G F.oka (adK F 2) 2 {v with sort:=2,job:=some (.cort j)} o:=by kernel_rfl
theorem TD (σ:Sg) (G:GvF) (F:StF) (v:VerM) (o:O):nQ σ G F 3 {v with sort:=3,job:=none} o=rV tI tN (gvE σ {v with sort:=3,job:=none}) gvL G F.oka (adK F 3) 3 {v with sort:=3,job:=none} o:=by kernel_rfl
theorem TC (σ:Sg) (G:GvF) (F:StF) (v:VerM) (j:LitM) (o:O):nQ σ G F 3 {v with sort:=3,job:=some (.lit j)} o=rV tI tN (gvE σ {v with sort:=3,job:=some (.lit j)}) gvL G F.oka (adK F 3) 3 {v with sort:=3,job:=some (.lit j)} o:=by kernel_rfl
theorem TB (σ:Sg) (G:GvF) (F:StF) (v:VerM) (o:O):nQ σ G F 4 {v with sort:=4,job:=none} o=rV tI tN (gvE σ {v with sort:=4,job:=none}) gvL G F.oka (adK F 4) 4 {v with sort:=4,job:=none} o:=by kernel_rfl
theorem TA (σ:Sg) (G:GvF) (F:StF) (v:VerM) (j:VauM) (o:O):nQ σ G F 4 {v with sort:=4,job:=some (.vau j)} o=rV tI tN (gvE σ {v with sort:=4,job:=some (.vau j)}) gvL G F.oka (adK F 4) 4 {v with sort:=4,job:=some (.vau j)} o:=by kernel_rfl
theorem Tz (σ:Sg) (G:GvF) (F:StF) (v:VerM) (o:O):nQ σ G F 5 {v with sort:=5,job:=none} o=rV tI tN (gvE σ {v with sort:=5,job:=none}) gvL G F.oka (adK F 5) 5 {v with sort:=5,job:=none} o:=by kernel_rfl
theorem Ty (σ:Sg) (G:GvF) (F:StF) (v:VerM) (j:SteM) (o:O):nQ σ G F 5 {v with sort:=5,job:=some (.ste j)} o=rV tI tN (gvE σ {v with sort:=5,job:=some (.ste j)}) gvL G F.oka (adK F 5) 5 {v with sort:=5,job:=some (.ste j)} o:=by kernel_rfl
theorem Ly (i:Nat):∀(gs:Gs),eO (bE i gs)=eO gs:=by
 induction i with
 | zero=>intro gs;match gs with
   | []=>rfl
   | .p c::r=>cases c<;>rfl
   | .s _ _::r=>rfl
   | .r _::r=>rfl
   | .i _ _::r=>rfl
 | succ i ih=>intro gs;match gs with
   | []=>rfl
   | .p c::r=>show GC.p (xf c)::eO (bE i r)=_;rw [ih r];rfl
   | .s a e::r=>show GC.s a e::eO (bE i r)=_;rw [ih r];rfl
   | .r a::r=>show GC.r a::eO (bE i r)=_;rw [ih r];rfl
   | .i t a::r=>show GC.i t a::eO (bE i r)=_;rw [ih r];rfl
def stB (k:Nat) (o:O):Bool:=match k with | 1=>mM cond true false o | 2=>m4 cond true false o | 3=>nu cond true false false o | 4=>qR cond true false o | _=>ra cond true false o
noncomputable def gvM:GvF:=⟨iw,stB,CJ,bS⟩
theorem Xy (k:Nat):FnOk Tryz.prog (NV σ) 29 (Jv σ (aZ isS noM (CU 2 aNo oVer (fun v _=>some ((stF k).oka v)) fun v _=>(.tup [],adK (stF k) k v,[])))):=by
 refine AQ (CT rfl fun v x h=>?_)
 have h:(stF k).oka v=true:=h
 show Ctr _ _ _ _ _ (.tup []) (hpO noM [eJ (adK (stF k) k v)])
 rw [adK_eq h]
 exact Hg σ v (A6 h).1
theorem JR (k:Nat):bO Tryz.prog (NV σ) (Rf σ gvM (stF k) k) :=
 au PY (au Ia (au I1 (au Mb (au JA (au Ke (au sV (au DF (au (Xy k) aJ))))))))
theorem IX {r:SV×List AV×List AV} {v:SV} {a:VerM} (h:T5 r=some (v,a)):r=(v,[.ver a],[]):=by
 unfold T5 at h
 split at h
 ·cases h;rfl
 ·cases h
def yO (v:VerM):Prop:=1<=v.sort /\ v.sort<=5 /\ (bF v=0 \/ (bF v:Int)=v.sort)
theorem PM (σ:Sg) (v:VerM) (o:O) (hk:yO v) (r:Option (SV×VerM)) (h:(rV tI tN (gvE σ v) gvL gvM (stF v.sort.toNat).oka (adK (stF v.sort.toNat) v.sort.toNat) v.sort.toNat v o).val=some r):(nQ σ gvM (stF v.sort.toNat) v.sort.toNat v o).val=some r:=by
 obtain⟨so,en,ri,dg,cl,op,job,an⟩:=v
 obtain⟨h1,h2,h3⟩:=hk
 dsimp only at h1 h2 h3
 rcases (by omega:so=1 \/ so=2 \/ so=3 \/ so=4 \/ so=5) with rfl | rfl | rfl | rfl | rfl
 ·cases job with
  | none=>exact(congrArg T.val (TH σ gvM (stF 1) ⟨1,en,ri,dg,cl,op,none,an⟩ o)).trans h
  | some j =>
    cases j with
    | pile j=>exact(congrArg T.val (TG σ gvM (stF 1) ⟨1,en,ri,dg,cl,op,none,an⟩ j o)).trans h
    | _=>simp [bF] at h3
 ·cases job with
  | none=>exact(congrArg T.val (TF σ gvM (stF 2) ⟨2,en,ri,dg,cl,op,none,an⟩ o)).trans h
  | some j =>
    cases j with
    | cort j=>exact(congrArg T.val (TE σ gvM (stF 2) ⟨2,en,ri,dg,cl,op,none,an⟩ j o)).trans h
    | _=>simp [bF] at h3
 ·cases job with
  | none=>exact(congrArg T.val (TD σ gvM (stF 3) ⟨3,en,ri,dg,cl,op,none,an⟩ o)).trans h
  | some j =>
    cases j with
    | lit j=>exact(congrArg T.val (TC σ gvM (stF 3) ⟨3,en,ri,dg,cl,op,none,an⟩ j o)).trans h
    | _=>simp [bF] at h3
 ·cases job with
  | none=>exact(congrArg T.val (TB σ gvM (stF 4) ⟨4,en,ri,dg,cl,op,none,an⟩ o)).trans h
  | some j =>
    cases j with
    | vau j=>exact(congrArg T.val (TA σ gvM (stF 4) ⟨4,en,ri,dg,cl,op,none,an⟩ j o)).trans h
    | _=>simp [bF] at h3
 ·cases job with
  | none=>exact(congrArg T.val (Tz σ gvM (stF 5) ⟨5,en,ri,dg,cl,op,none,an⟩ o)).trans h
  | some j =>
    cases j with
    | ste j=>exact(congrArg T.val (Ty σ gvM (stF 5) ⟨5,en,ri,dg,cl,op,none,an⟩ j o)).trans h
    | _=>simp [bF] at h3
theorem Pj (v:VerM):eO (VerM.wr v)=VerM.wr v:=by
 obtain⟨so,en,ri,dg,cl,op,job,an⟩:=v
 cases job with
 | none=>rfl
 | some j=>cases j<;>rfl
theorem PN (σ:Sg) (v:VerM) (o:O) (hk:yO v) {x:SV} {v':VerM} (h:(rV tI tN (gvE σ v) gvL gvM (stF v.sort.toNat).oka (adK (stF v.sort.toNat) v.sort.toNat) v.sort.toNat v o).val=some (some (x,v'))) :
 Ctr Tryz.prog (NV σ) 9 [.v (.c (.ptr 7 0)),.v (.agg (gsC (O.wr o)))] (hpO mGv [eJ v]) x (hpO mGv [eJ v']):=by
 obtain⟨y,h1,h2⟩:=map_some (PM σ v o hk _ h)
 rw [IX h2] at h1
 exact oG (rq jM (wh (JR _)) (gC _) (a:=eJ v) (K:=dw AV.len lW (bE 0 (VerM.wr v))) ⟨_,rfl⟩ (fun L S w hq=>rD ((nU (N:=NVl fJ σ) rfl (by rw [Ly,Pj];exact rfl) rfl L S w).1 hq)) (fun x hx=>by
  simp only [List.mem_cons,List.not_mem_nil,or_false] at hx
  rcases hx with rfl | rfl
  ·exact Bg (gC _)
  ·exact sL rfl) h1).1
noncomputable def fB (v:VerM) (o:O):VerM:=g6 (u6 bS v.sort.toNat v o)
def Gx (v:VerM) (o:O):Prop:=CJ v.rite ke=true /\ pN (u6 bS v.sort.toNat v o)=true
noncomputable def GV (σ:Sg) (args:List SV) (l:List AV):T (SV×List AV×List AV):=match args,l with
 | [.v (.c (.ptr 7 0)),a],[.ver v]=>match aOp.dec [a] with
   | some o=>.need (fO (yO v)) (.ite (v.doing != 0) (.leaf (.v (E8 σ ErS),[.ver v],[])) (.ite (!iw v.sort o) (.leaf (.v (E8 σ ErA),[.ver v],[])) (.need (fO (Gx v o)) (.leaf (.v (.c .inil),[.ver (fB v o)],[])))))
   | none=>.fail "Give"
 | _,_=>.fail "Give"
theorem PX {v:VerM} {o:O} (hk:yO v) (h:iw v.sort o=true):stB v.sort.toNat o=true:=by
 obtain⟨h1,h2,h3⟩:=hk
 generalize v.sort=s at h1 h2 h
 rcases (by omega:s=1 \/ s=2 \/ s=3 \/ s=4 \/ s=5) with rfl | rfl | rfl | rfl | rfl
 ·exact h
 ·exact h
 ·have h:nu cond true false true o=true:=h
  show nu cond true false false o=true
  unfold nu at h ⊢
  cases hb:oJ o with
  | true=>rw [hb] at h;cases h
  | false =>
    show cond _ _ _=true
    have hg:(!oA o)=false:=by
     unfold oJ at hb
     split at hb
     ·rename_i hg;exact eq_of_beq hg
     ·cases hb
    have hg:oA o=true:=by simpa using hg
    unfold oA at hg
    cases h6:o.kind==6 with
    | true=>rfl
    | false =>
      cases h7:o.kind==7 with
      | true=>rfl
      | false =>
        cases h8:o.kind==8 with
        | true=>rfl
        | false =>
          rw [h6,h7,h8] at hg
          split at hg
          ·cases hg
          ·cases hg
 ·exact h
 ·exact h
theorem PL:FnOk Tryz.prog (NV σ) 9 (aZ isS mGv (GV σ)):=by
 refine dQ bR (gC _) fun args l x l' nw h hl hargs=>?_
 unfold GV at h
 split at h
 ·rename_i a v
  split at h
  ·rename_i o ho
   obtain⟨hk,h⟩:=aj (h:(T.need _ _).val=_)
   have hk:=eU hk
   have fin:∀{x0:SV} {v0:VerM},(rV tI tN (gvE σ v) gvL gvM (stF v.sort.toNat).oka (adK (stF v.sort.toNat) v.sort.toNat) v.sort.toNat v o).val=some (some (x0,v0))->some (x0,[AV.ver v0],([]:List AV))=some (x,l',nw)->Ctr Tryz.prog (NV σ) 9 [.v (.c (.ptr 7 0)),a] (hpO mGv [eJ v]) x (hpO mGv (l'++nw)):=fun {x0 v0} h1 h2=>by
    simp only [Option.some.injEq,Prod.mk.injEq] at h2
    obtain⟨rfl,rfl,rfl⟩:=h2
    exact eX (PN σ v o hk h1) fun ρ=>congrArg (List.cons (SV.den ρ (.v (.c (.ptr 7 0))))) (aOp.ok _ _ ho ρ).symm
   unfold rV at fin
   cases hb:(v.doing != 0) with
   | true =>
     rw [hb] at h fin
     exact fin rfl h
   | false =>
     rw [hb] at h fin
     cases hf:iw v.sort o with
     | false =>
       rw [hf] at h
       exact fin (show (tI (!iw v.sort o) _ _).val=_ by rw [hf];rfl) h
     | true =>
       rw [hf] at h
       obtain⟨h2,h⟩:=aj (h:(T.need _ _).val=_)
       obtain⟨h3,h4⟩:=eU h2
       have ho:(stF v.sort.toNat).oka (u6 bS v.sort.toNat v o)=true:=by
        show (match pN (u6 bS v.sort.toNat v o) with | true=>Nat.beq (bF (u6 bS v.sort.toNat v o)) v.sort.toNat | false=>false)=true
        rw [h4]
        refine(ai _ _).2 ?_
        have h1:=hk.1;have h2:=hk.2.1
        unfold u6
        generalize v.sort=s at h1 h2
        rcases (by omega:s=1 \/ s=2 \/ s=3 \/ s=4 \/ s=5) with rfl | rfl | rfl | rfl | rfl<;>rfl
       refine fin (x0:=.v (.c .inil)) (v0:=fB v o) ?_ h
       show (tI (!iw v.sort o) _ (tN (stB v.sort.toNat o) (tN (CJ v.rite ke) _))).val=_
       rw [hf]
       refine(nv (PX hk hf)).trans ((nv h3).trans ((nv rfl).trans ((nv ho).trans ((nv rfl).trans ?_))))
       show some (some (SV.v (V1.c Cell.inil),adK _ _ _))=_
       rw [show gvM.bg=bS from rfl,adK_eq ho];rfl
  ·simp [T.val] at h
 ·simp [T.val] at h
end
section
open Go Go.Sx Go.Proofs
set_option maxRecDepth 100000
set_option maxHeartbeats 4000000
def JobM.WF (n:Int) (hd:Bool):JobM->Prop
 | .pile j=>j.WF n /\ hd=false
 | .cort j=>j.WF n /\ hd=true
 | .lit j=>j.WF n /\ hd=false
 | .vau j=>j.WF n /\ hd=false
 | .ste j=>j.WF n /\ hd=false
def JobM.aw (c:Cl):JobM->Prop
 | .pile j=>True
 | .cort j=>j.aw c
 | .lit j=>j.aw c
 | .vau j=>j.aw c
 | .ste j=>j.aw c
def JobM.rk:JobM->Nat
 | .pile j=>j.rk
 | .cort j=>j.rk
 | .lit j=>j.rk
 | .vau j=>j.rk
 | .ste j=>j.rk
theorem Jm (w:Option WalkM):wrk w<=2:=by
 cases w with
 | none=>exact Nat.zero_le _
 | some w=>show WalkM.rk w<=2;unfold WalkM.rk;repeat' split
           all_goals decide
theorem LW (l:LitM):l.rk<=3:=by
 have:=Jm l.walk
 unfold LitM.rk
 split<;>omega
theorem JobM.rk_le (j:JobM):j.rk<=3:=by
 cases j with
 | pile j=>show PileM.rk j<=3;unfold PileM.rk;split<;>decide
 | cort j=>show CortM.rk j<=3;unfold CortM.rk;split<;>decide
 | lit j=>exact LW j
 | vau j =>
   show VauM.rk j<=3
   unfold VauM.rk
   split
   ·cases j.inner with
    | none=>exact Nat.zero_le _
    | some l=>exact LW l
   ·have:=Jm j.walk;omega
 | ste j =>
   show SteM.rk j<=3
   unfold SteM.rk
   have:crk j.climb<=2:=by
    cases j.climb with
    | none=>exact Nat.zero_le _
    | some c=>show ClimbM.rk c<=2;unfold ClimbM.rk;repeat' split
              all_goals decide
   split<;>omega
theorem JobM.ok_of {n:Int} {hd:Bool} {j:JobM} (h:j.WF n hd):j.ok=true:=by
 cases j with
 | vau j =>
   obtain⟨h,_⟩:=h
   show Il j=true
   have a:∀{x y:Bool},x=true->y=true->eB x y=true:=fun {x y} h1 h2=>by rw [h1,h2];rfl
   have o1:∀{x y:Bool},x=true->orB x y=true:=fun {x y} h1=>by rw [h1];rfl
   have o2:∀{x y:Bool},y=true->orB x y=true:=fun {x y} h1=>by rw [h1];cases x<;>rfl
   refine a (decide_eq_true h.key) (a (decide_eq_true h.kd) (a (decide_eq_true h.child) ?_))
   have hw:=h.wb
   have hc:=h.wc
   have hp:=h.pc
   generalize j.pc=pc at hw hc hp
   rcases hp with rfl | rfl | rfl | rfl | rfl | rfl | rfl | rfl | rfl | rfl | rfl | rfl | rfl | rfl | rfl | rfl | rfl
   all_goals first
    | exact o1 (by decide)
    | exact o2 (o1 (a (by decide) (hw rfl)))
    | exact o2 (o2 (a (by decide) (hc (by decide))))
 | ste j =>
   obtain⟨h,_⟩:=h
   show CI j=true
   unfold CI
   split
   ·exact decide_eq_true h.kd
   ·rename_i c hc
    have hl:=(h.cl c hc).lv
    rw [show mN c=true from decide_eq_true (by omega)]
    exact decide_eq_true h.kd
 | _=>rfl
structure JNext (n:Int) (hd:Bool) (r0:Nat) (r:Cl×JobM):Prop where
 res:r.1.kind=12 \/ ClB n hd r.1
 nk:r.1.kind≠12->nr n r.1
 wf:r.2.WF n hd
 rk:imm r.1->r.2.rk < r0
 aw:r.2.aw r.1
theorem Mw {n:Int} (h0:0<=n) {hd:Bool} {j:JobM} (h:j.WF n hd) {c:Cl} (ha:j.aw c) {x:Rp1} (hr:RpFor n hd c x):JNext n hd j.rk (j.next x):=by
 have cb:∀{c:Cl},hd=false->Res n c->(c.kind=12 \/ ClB n hd c):=fun {c} e h=>h.elim .inl fun h=>.inr (.inl ⟨h,fun e2=>by rw [e] at e2;cases e2⟩)
 have nk:∀{c:Cl},Res n c->c.kind≠12->nr n c:=fun {c} h e=>h.elim (fun h=>absurd h e) id
 cases j with
 | pile j=>have hn:=O5 h0 h.1 hr.w;exact⟨cb h.2 hn.res,nk hn.res,⟨hn.wf,h.2⟩,hn.rk,trivial⟩
 | cort j =>
   obtain⟨h,rfl⟩:=h
   have hn:=Qa h0 h ha hr
   exact⟨hn.res.elim .inl fun h=>.inr (.inl ⟨h,fun _=>hn.aw.2⟩),nk hn.res,⟨hn.wf,rfl⟩,hn.rk,hn.aw.1⟩
 | lit j=>have hn:=ES h0 h.1 ha hr;exact⟨cb h.2 hn.res,nk hn.res,⟨hn.wf,h.2⟩,hn.rk,hn.aw⟩
 | vau j=>have hn:=RV h0 h.1 ha hr;exact⟨cb h.2 hn.res,nk hn.res,⟨hn.wf,h.2⟩,hn.rk,hn.aw⟩
 | ste j=>have hn:=Sj h0 h.1 ha hr;exact⟨cb h.2 hn.res,nk hn.res,⟨hn.wf,h.2⟩,hn.rk,hn.aw⟩
structure VerM.WF (n:Int) (K:Nat) (v:VerM):Prop where
 kj:yO v
 dg:0<=v.doing /\ v.doing<=4
 rite:v.rite.WF n (v.sort==2) K
 call:v.rite.step≠0->v.rite.call=v.call
 idle:v.doing=0->v.rite.step=0
 job:(v.doing=1 \/ v.doing=2)->∃j,v.job=some j /\ j.WF n (v.sort==2) /\ j.aw v.call /\ (v.rite.step=0->RpFor n (v.sort==2) v.call v.rite.reply)
def VerM.rest (v:VerM):Prop:=v.doing=0 \/ v.rite.step≠0
def mm (v:VerM):Nat:=if v.doing=0 \/ v.rite.step≠0 then 1 else if v.doing=1 \/ v.doing=2 then(match v.job with | some j=>j.rk+4 | none=>0) else 2
theorem xk {v:VerM} (h:v.doing=0 \/ v.rite.step≠0):mm v=1:=if_pos h
theorem Mo {v w:VerM} (h:yO v) (hs:w.sort=v.sort) (hk:bF w=bF v):yO w:=by
 obtain⟨a,b,c⟩:=h
 exact⟨by rw [hs];exact a,by rw [hs];exact b,by rw [hk,hs];exact c⟩
theorem Fv {n:Int} {m:RiteM} {c:Cl} (h:nr n c) (hi:¬imm c):(bS m c).step≠0:=by
 unfold imm at hi
 have hk:c.kind=3 \/ c.kind=4 \/ c.kind=5 \/ c.kind=6 \/ c.kind=8 \/ c.kind=9:=by
  rcases h.2.2 with⟨h,_⟩ | ⟨h,_⟩ | ⟨h,_⟩ | h | ⟨h,_⟩<;>omega
 unfold bS mL
 rw [if_neg (by omega),if_neg (by omega)]
 unfold uD
 rw [if_neg (by omega),if_neg (by omega)]
 by_cases k3:c.kind=3
 ·rw [if_pos k3];show (1:Int)≠0;decide
 rw [if_neg k3]
 by_cases k4:c.kind=4
 ·rw [if_pos k4];show (1:Int)≠0;decide
 rw [if_neg k4]
 by_cases k5:c.kind=5
 ·rw [if_pos k5];show (1:Int)≠0;decide
 rw [if_neg k5]
 by_cases k6:c.kind=6
 ·rw [if_pos k6];show (5:Int)≠0;decide
 rw [if_neg k6,if_neg (by omega)]
 by_cases k8:c.kind=8
 ·rw [if_pos k8]
  split
  ·show (8:Int)≠0;decide
  ·show (1:Int)≠0;decide
 rw [if_neg k8,if_pos (by omega)]
 show (2:Int)≠0;decide
theorem KL {n:Int} (h0:0<=n) {K:Nat} (hK:K<=100000) {v:VerM} (h:v.WF n K):(v.rest /\ (bW v).val=some (.exit 0,v)) \/ (¬v.rest /\ ∃v',(bW v).val=some (.normal,v') /\ v'.WF n (K+1) /\ v'.sort=v.sort /\ mm v' < mm v):=by
 by_cases hr:v.rest
 ·refine .inl ⟨hr,?_⟩
  unfold bW dI
  rcases hr with h1 | h1
  ·rw [show ((v.doing != 0)==true)=false by rw [h1];rfl];rfl
  ·cases (v.doing != 0)==true with
   | false=>rfl
   | true =>
     have hb:fZ v.rite=true:=by unfold fZ;simpa using h1
     rw [hb];rfl
 ·have hr2:¬(v.doing=0 \/ v.rite.step≠0):=hr
  have hd:v.doing≠0:=fun e=>hr (.inl e)
  have hs:v.rite.step=0:=by
   by_cases e:v.rite.step=0
   ·exact e
   ·exact absurd (.inr e) hr
  have e1:((v.doing != 0)==true)=true:=by simpa using hd
  have e2:fZ v.rite=false:=by unfold fZ;rw [hs];rfl
  refine .inr ⟨hr,?_⟩
  by_cases hj:v.doing=1 \/ v.doing=2
  ·obtain⟨j,ej,hjw,haw,hrp⟩:=h.job hj
   have hn:=Mw h0 hjw haw (hrp hs)
   have hk:=h.rite
   have need0:mm v=j.rk+4:=by unfold mm;rw [if_neg hr2,if_pos hj,ej]
   have eround:(bW v).val=(eC tI tN tLf adF v (j.next v.rite.reply)).val:=by
    unfold bW dI
    rw [e1,e2,ej]
    rcases hj with hj | hj
    ·rw [hj];exact nv (JobM.ok_of hjw)
    ·rw [hj];exact nv (JobM.ok_of hjw)
   have hkn:∀(d:Int) (c:Cl) (r:RiteM) (a:An),yO {v with doing:=d,call:=c,rite:=r,job:=some (j.next v.rite.reply).2,answer:=a}:=fun d c r a=>by
    refine Mo h.kj rfl ?_
    show bF {v with doing:=d,call:=c,rite:=r,job:=some (j.next v.rite.reply).2,answer:=a}=bF v
    have:bF v=bF {v with job:=some j}:=by rw [<- ej]
    rw [this,<- zx j v.rite.reply v]
    rfl
   generalize j.next v.rite.reply=nx at hn eround hkn
   cases hk12:nx.1.kind != 12 with
   | true =>
     have hne:nx.1.kind≠12:=by simpa using hk12
     have hcb:ClB n (v.sort==2) nx.1:=hn.res.elim (fun e=>absurd e hne) id
     obtain⟨ob,rr⟩:=yv h0 hk hs hcb hK
     have ev:(eC tI tN tLf adF v nx).val=some (.normal,{v with doing:=2,call:=nx.1,rite:=bS v.rite nx.1,job:=some nx.2}):=by
      unfold eC
      rw [hk12]
      exact nv ob
     refine⟨_,eround.trans ev,⟨hkn 2 nx.1 _ v.answer,⟨by show (0:Int)<=2;decide,by show (2:Int)<=4;decide⟩,rr.wf,rr.on,fun e=>absurd (show (2:Int)=0 from e) (by decide),fun _=>⟨nx.2,rfl,hn.wf,hn.aw,rr.off⟩⟩,rfl,?_⟩
     rw [need0]
     by_cases hb:(bS v.rite nx.1).step=0
     ·have him:imm nx.1:=by
       by_cases hi:imm nx.1
       ·exact hi
       ·exact absurd hb (Fv (hn.nk hne) hi)
      have:=hn.rk him
      unfold mm
      rw [if_neg (fun e=>e.elim (fun e=>absurd (show (2:Int)=0 from e) (by decide)) fun e=>e hb),if_pos (.inr rfl)]
      show nx.2.rk+4 < j.rk+4
      omega
     ·rw [xk (.inr hb)];omega
   | false =>
     obtain⟨ob,rr⟩:=yv (c:=fC) h0 hk hs (.inr (.inr (.inl rfl))) hK
     have ev:(eC tI tN tLf adF v nx).val=some (.normal,{v with answer:=nx.1.ans,doing:=3,call:=fC,rite:=bS v.rite fC,job:=some nx.2}):=by
      unfold eC
      rw [hk12]
      exact nv ob
     refine⟨_,eround.trans ev,⟨hkn 3 fC _ nx.1.ans,⟨by show (0:Int)<=3;decide,by show (3:Int)<=4;decide⟩,rr.wf,rr.on,fun e=>absurd (show (3:Int)=0 from e) (by decide),fun e=>absurd (show (3:Int)=1 \/ (3:Int)=2 from e) (by decide)⟩,rfl,?_⟩
     rw [need0]
     unfold mm
     split
     ·omega
     ·rw [if_neg (show ¬((3:Int)=1 \/ (3:Int)=2) by decide)];omega
  ·have ev:(bW v).val=some (.normal,{v with doing:=0}):=by
    unfold bW dI
    rw [e1,e2,show (v.doing==1)=false by simpa using fun e=>hj (.inl e),show (v.doing==2)=false by simpa using fun e=>hj (.inr e)]
    rfl
   refine⟨_,ev,⟨Mo h.kj rfl rfl,⟨by show (0:Int)<=0;decide,by show (0:Int)<=4;decide⟩,⟨B.mono h.rite.b (by omega),h.rite.call,h.rite.acc,h.rite.st⟩,h.call,fun _=>hs,fun e=>absurd (show (0:Int)=1 \/ (0:Int)=2 from e) (by decide)⟩,rfl,?_⟩
   rw [xk (.inl rfl)]
   unfold mm
   rw [if_neg hr2,if_neg hj];omega
theorem yE {n:Int} (h0:0<=n):∀(k:Nat) {K:Nat} {v:VerM},K+k<=100000->v.WF n K->mm v<=k->∃v',dj bW k v=some (.exit 0,v') /\ v'.WF n (K+k) /\ v'.rest /\ v'.sort=v.sort
 | 0,K,v,hK,h,hn=>by
   exfalso
   have:mm v=0:=by omega
   unfold mm at this
   split at this
   ·cases this
   ·split at this
    ·rename_i hj
     obtain⟨j,ej,_⟩:=h.job hj
     rw [ej] at this
     have this:j.rk+4=0:=this
     omega
    ·cases this
 | k+1,K,v,hK,h,hn=>by
   rcases KL h0 (by omega) h with⟨hr,e⟩ | ⟨_,v',e,hw,hso,hlt⟩
   ·refine⟨v,by rw [dj,e],⟨h.kj,h.dg,⟨B.mono h.rite.b (by omega),h.rite.call,h.rite.acc,h.rite.st⟩,h.call,h.idle,h.job⟩,hr,rfl⟩
   ·obtain⟨v2,e2,w2,r2,s2⟩:=yE h0 k (by omega) hw (by omega)
    exact⟨v2,by rw [dj,e];exact e2,by rw [show K+(k+1)=K+1+k by omega];exact w2,r2,s2.trans hso⟩
theorem LL {v:VerM}:mm v<=uL:=by
 unfold mm uL
 split
 ·decide
 ·split
  ·split
   ·rename_i j _
    have:=JobM.rk_le j;omega
   ·decide
  ·decide
theorem NM {n:Int} (h0:0<=n) {K:Nat} {v:VerM} (hK:K+16<=100000) (h:v.WF n K):pN v=true /\ (g6 v).WF n (K+16) /\ (g6 v).rest /\ (g6 v).sort=v.sort:=by
 obtain⟨v',e,w,r,so⟩:=yE h0 uL (by show K+16<=_;exact hK) h LL
 have e2:Ug v=some (.exit 0,v'):=e
 have e3:g6 v=v':=by unfold g6;rw [e2]
 refine⟨by unfold pN;rw [e2];rfl,?_⟩
 rw [e3];exact⟨w,r,so⟩
theorem Pm {n:Int} {K:Nat} {v:VerM} (h:v.WF n K) (hr:v.rest) (hb:v.doing≠0):v.rite.step≠0 /\ (gS v.rite).1=v.rite.acc /\ AcOk n (v.sort==2) v.rite.acc:=by
 have hs:v.rite.step≠0:=hr.elim (fun e=>absurd e hb) id
 refine⟨hs,?_,h.rite.acc hs⟩
 unfold gS fZ
 rw [show (v.rite.step==0)=false by simpa using hs]
 rfl
theorem J9 {n:Nat} {K:Nat} {v:VerM} {p:PlotM} (hK:K<=100000) (h:v.WF n K) (hr:v.rest) (hb:v.doing≠0) (hp:p.WF n) (hd:Hd (v.sort==2) p) :
 Bk v.rite=true /\ (hN v p).WF n (K+1) /\ p.valid (gS v.rite).1 /\ (p.access (gS v.rite).1).2.WF n /\ Hd (v.sort==2) (p.access (gS v.rite).1).2:=by
 obtain⟨hs,ea,ha⟩:=Pm h hr hb
 have hv:=ha.valid hp
 have hx:=uq hp hd hv ha.w ha.h
 rw [ea]
 obtain⟨ot,rr⟩:=Om (by omega) h.rite hs ⟨hx.w,hx.al,hx.ld⟩ hK
 refine⟨ot,?_,hv,hx.wf,hx.h0⟩
 unfold hN
 rw [ea]
 rw [h.call hs] at rr
 refine⟨Mo h.kj rfl rfl,h.dg,rr.wf,rr.on,fun e=>absurd e hb,fun hj=>?_⟩
 obtain⟨j,ej,hjw,haw,_⟩:=h.job hj
 exact⟨j,ej,hjw,haw,rr.off⟩
theorem Sh {n:Nat} {K:Nat} {v:VerM} {p:PlotM} (hK:K+17<=100000) (h:v.WF n K) (hr:v.rest) (hb:v.doing≠0) (hp:p.WF n) (hd:Hd (v.sort==2) p) :
 Gv v p /\ p.valid (gS v.rite).1 /\ (cD v p).2.1.WF n (K+17) /\ (cD v p).2.1.rest /\ (cD v p).2.1.sort=v.sort /\ (cD v p).2.2.WF n /\ Hd (v.sort==2) (cD v p).2.2:=by
 obtain⟨h1,h2,h3,h4,h5⟩:=J9 (by omega) h hr hb hp hd
 obtain⟨a1,a2,a3,a4⟩:=NM (by omega) (K:=K+1) (by omega) h2
 have e:(cD v p).2=(g6 (hN v p),(p.access (gS v.rite).1).2):=by
  unfold cD mH mI
  have c:∀{b:Bool} {x y:Strd×VerM×PlotM} {q:VerM×PlotM},x.2=q->y.2=q->(cond b x y).2=q:=fun {b x y q} h1 h2=>by cases b<;>assumption
  repeat' first | exact rfl | apply c
 rw [e]
 exact⟨⟨h1,a1⟩,h3,a2,a3,a4,h4,h5⟩
end
section
open Go Go.Sx Go.Proofs
set_option maxRecDepth 100000
variable {σ:Sg} {lp:Lp}
theorem IK {N:Env AV} {nt:Nat} {E:Ev} {H H':Hp AV} (ho:Opn N H H') (hc':bU N H') (hs:sU H H'=true):Enter N nt {E:=E,H:=H} {E:=E,H:=H'}:=fun hc=>by
 obtain⟨len,pers,non⟩:=jr hs
 refine⟨⟨fun k=>(hc.E k).mono pers,hc'.1⟩,len,fun ρ a w hat=>?_⟩
 obtain⟨ρ1,o1,l1,f1⟩:=ho ρ w hat.own
 refine⟨ρ1,⟨⟨hat.em.size,fun k hk=>?_⟩,o1⟩,⟨pers,fun n c h=>l1 n (aX h),non,len,fun _ _ _=>rfl,fun n c k h hk=>.inr (f1 n c k h hk),rfl,rfl,rfl,Nat.le_refl _⟩⟩
 rw [hat.em.get k hk]
 exact(SV.den_congr (hc.E k) fun m c h=>l1 m (aX h)).symm
noncomputable def LN:Code:=fv 5 (bx (cB Tryz.f20))
def ksN:List Nat:=[6,7]
abbrev Se:TypeId:=120
def K9 (n:Nat) (len:Nat):List Cell:=[.vs 7 0 85 5 true,.vs 8 0 n 52 false,.vs 10 0 len 1 false,.il .i64 0,.il .i64 0,.inil]
def hpN (b:List W) (sl:List Sl) (n:Nat) (l:List N1) (len:Nat):Hp AV:=hpO noM [.words b,.slots sl]++[some (.cells (K9 n len) Se),some (.abs (.ints l))]
def Dm (b:List W) (sl:List Sl) (n:Nat) (i:Int) (l:List N1) (len:Nat):St AV:={E:=only ksN [(6,.v (.c (.ptr 9 0))),(7,.v (.c (.it .i64 i)))] 45,H:=hpN b sl n l len}
def Kt (σ:Sg) (n:Nat) (l:List N1):Bool:=decide (n=Intf.len (F6 σ) (AV.ints l) /\ (n+1) * (SI.bytes Cr+1)<=lim)
theorem nR (σ:Sg) (b:List W) (sl:List Sl) (n:Nat) (i:Int) (l:List N1) (len:Nat):(xc (NV σ) (aN (lv (NV σ) bm 5)) (fun _=>none) 45 LN (Dm b sl n i l len)).bind (cM 10 45 ksN cP) =
 .ite (decide (i>=1)) (.need (Kt σ len l) (.leaf (.normal,Dm b sl n (IntKind.wrap .i64 (i - 1)) (l++[⟨i⟩]) (len+1)))) (.leaf (.exit 0,Dm b sl n i l len)):=by kernel_rfl
def nB:Nat->List N1
 | 0=>[]
 | n+1=>⟨(n+1:Nat)⟩::nB n
theorem pr:∀n,(nB n).length=n
 | 0=>rfl
 | n+1=>congrArg (·+1) (pr n)
structure MN where
 i:Nat
 l:List N1
def goN (m:MN):Ex×MN:=match m.i with
 | 0=>(.exit 0,m)
 | i+1=>(.normal,⟨i,m.l++[⟨(i+1:Nat)⟩]⟩)
def Cm (m:MN):T (Ex×MN):=.need (decide (m.i<=1024 /\ m.l.length+m.i<=1024)) (.leaf (goN m))
theorem Ry:∀(i:Nat) (l:List N1),l.length+i<=1024->dj Cm (i+1) ⟨i,l⟩=some (.exit 0,⟨0,l++nB i⟩)
 | 0,l,h=>by
   rw [dj,Cm,nv (decide_eq_true ⟨Nat.zero_le _,h⟩)]
   simp only [T.val,goN,nB,List.append_nil]
 | i+1,l,h=>by
   rw [dj,Cm,nv (decide_eq_true ⟨by show i+1<=1024;omega,h⟩)]
   simp only [T.val,goN]
   rw [Ry i _ (by rw [List.length_append];simp only [List.length_cons,List.length_nil];omega)]
   simp only [nB,List.append_assoc,List.singleton_append]
theorem Ks {n:Nat} {l:List N1} (h:n=l.length) (hn:l.length<=100000):Kt σ n l=true:=by
 unfold Kt
 subst h
 exact decide_eq_true ⟨rfl,Nat.le_trans (Nat.mul_le_mul_right _ (Nat.succ_le_succ hn)) (by decide)⟩
def G0 (b:List W) (sl:List Sl) (n:Nat) (m:MN):St AV:=Dm b sl n (m.i:Int) m.l m.l.length
theorem HJ (σ:Sg) (b:List W) (sl:List Sl) (n:Nat) (m:MN) (r:Ex×MN) (h:(Cm m).val=some r) :
 ((xc (NV σ) (aN (lv (NV σ) bm 5)) (fun _=>none) 45 LN (G0 b sl n m)).bind (cM 10 45 ksN cP)).val=some (r.1,G0 b sl n r.2):=by
 obtain⟨hb,h⟩:=aj (h:(T.need _ _).val=_)
 obtain⟨h1,h2⟩:=of_decide_eq_true hb
 obtain⟨i,l⟩:=m
 simp only [T.val,Option.some.injEq] at h
 subst h
 show ((xc (NV σ) _ _ 45 LN (Dm b sl n i l l.length)).bind _).val=_
 rw [nR]
 cases i with
 | zero=>rw [ivF (by simp)];rfl
 | succ i =>
   rw [ivT (by simp;omega),nv (Ks rfl (by dsimp only at h2;omega))]
   show some (Ex.normal,Dm b sl n (IntKind.wrap .i64 (((i+1:Nat):Int) - 1)) (l++[(⟨((i+1:Nat):Int)⟩:N1)]) (l.length+1))=_
   rw [FI (by dsimp only at h1;omega),show (((i+1:Nat):Int) - 1)=(i:Int) by omega]
   show _=some (Ex.normal,Dm b sl n (i:Int) (l++[(⟨((i+1:Nat):Int)⟩:N1)]) (l++[(⟨((i+1:Nat):Int)⟩:N1)]).length)
   rw [List.length_append];rfl
theorem Jx {α:Type} (K:AK α) {a:AV} {l:List Cell} {n:Nat} {rs:List α} (ha:a.arr=some (K.es,K.ty,K.vals rs)) (h:K.decs n l=some rs):Lesser (NV σ) (.vec l K.es K.ty) (.abs a):=by
 obtain⟨h1,h2⟩:=K.decs_ok h
 intro ρ n w
 refine⟨fun hv=>?_,fun k=>Iff.rfl⟩
 refine(((NV σ).F.arr_q a _ _ _ (show (NV σ).F.arr a=_ from ha)).2 _ _ _).2 ?_
 have hv:iC (ρ.L n) (ρ.S n) (ah ρ l) K.es K.ty w:=hv
 rw [h1,show ah Nm.id l=ah ρ l from List.map_congr_left fun c hc=>den_congr _ fun m hm=>by rw [h2 c hc] at hm;cases hm]
 exact hv
def Jl:List Cell:=fW [.il .i64 0,.il .i64 0,.il .i64 0,.il .i64 0,.bl false] 85
def qb:List W:=List.replicate 85 wNil
def EE (n:Nat):List Cell:=[.vs 7 0 85 5 true,.vs 8 0 n 52 false,.snil,.il .i64 0,.il .i64 0,.inil]
def PJ (sl:List Sl) (n:Nat):Hp AV:=hpO noM []++[some (.vec Jl 5 60),some (.abs (.slots sl)),some (.cells (EE n) Se)]
def Ya (sl:List Sl) (n:Nat) (s:St AV):Prop:=Sx.look s.E 6=.v (.c (.ptr 9 0)) /\ Sx.look s.E 7=.v (.c (.it .i64 n)) /\ s.H=PJ sl n
noncomputable def gN (sl:List Sl) (n:Nat) (s:St AV):T (Ex×St AV):=.need (fO (Ya sl n s /\ n<=1024)) (.leaf (.exit 0,Dm qb sl n 0 (nB n) n))
theorem WU {N':Env AV} (hF:N'.F=(NV σ).F) (hG:N'.G=(NV σ).G) (sl:List Sl) (n:Nat):dG Tryz.prog N' 45 LN (gN sl n):=by
 have hcal:dM Tryz.prog (NV σ) (aN (lv (NV σ) bm 5)):=bK (iH okV oq hvV aJ 5)
 refine cJ (N:=NV σ) hF hG okV hcal (lp:=fun _=>none) (fun _ _ _ g hg=>by cases hg) fun s s' ex hgs=>?_
 obtain⟨E1,H1⟩:=s
 unfold gN at hgs
 replace hgs:=aj hgs
 obtain⟨hb,hgs⟩:=hgs
 obtain⟨⟨e6,e7,eH⟩,hn⟩:=eU hb
 simp only at e6 e7 eH
 subst eH
 simp only [T.val,Option.some.injEq,Prod.mk.injEq] at hgs
 obtain⟨rfl,rfl⟩:=hgs
 have hC:bU (NV σ) (bC (PJ sl n) 7 (some (.abs (.words qb)))):=uk (by kernel_rfl)
 refine⟨{M:=MN,fam:=G0 qb sl n,step:=Cm,ks:=ksN,pk:=cP,hpk:=fun d a h=>(by cases h),L:=10,len:=rfl,hGL:=(by show 7<=10;decide),run:=HJ σ qb sl n,m:=⟨n,[]⟩,k:=n+1,m':=⟨0,nB n⟩,ent:=?_,it:=(by rw [Ry n [] (by simpa using hn)];rfl),fin:=(by unfold G0;simp only [pr];rfl)}⟩
 refine Enter.trans (Fb (nt:=45) (E:=E1) (E':=[(6,.v (.c (.ptr 9 0))),(7,.v (.c (.it .i64 n)))]) (ks:=ksN) (n:=7) (c:=.vec Jl 5 60) (c':=.abs (.words qb)) rfl (Jx kwords (n:=85) rfl (by kernel_rfl)) rfl fun k hk=>?_) ?_
 ·simp only [ksN,List.mem_cons,List.not_mem_nil,or_false] at hk
  rcases hk with rfl | rfl
  ·exact .inl e6.symm
  ·exact .inl e7.symm
 ·refine IK (H':=hpN qb sl n [] 0) (Pd (N:=NV σ) (n:=9) (l:=EE n) (l':=K9 n 0) (ty:=Se) (a:=.ints []) hC rfl rfl (fun ρ ρ' e1 e2=>?_) (by show 7<=10;decide)) (uk (by kernel_rfl)) (by kernel_rfl)
  have e8:ρ'.L 7=ρ.L 7:=e1 7 (by show 7 < 10;decide)
  have e9:ρ'.L 8=ρ.L 8:=e1 8 (by show 8 < 10;decide)
  have e11:ρ'.L 10=⟨0,0,0⟩:=e2
  simp only [K9,EE,ah,List.map_cons,List.map_nil,Cell.den,e8,e9,e11]
  rfl
noncomputable def Gm (lp:Lp) (σ:Sg) (tab:Tab) (f:FuncId) (M:List Bool) (args:List SV) (l:List AV):T (SV×List AV×List AV) :=
 (Q.bind (Q.lv (NVl lp σ) tab 24 (.fn f) args (hpO M l)) (uh (vO σ) isS M l.length [])).map Lx
theorem KI (hlp:cV Tryz.prog (NVl lp σ)) {tab:Tab} (ht:bO Tryz.prog (NVl lp σ) tab) {f:FuncId} {M:List Bool} (hM:7=M.length) {args:List SV} {l:List AV} {v:SV} {l' nw:List AV}
 (hargs:∀x∈args,ClV (hpO M l) x) (h:(Gm lp σ tab f M args l).val=some (v,l',nw)):Ctr Tryz.prog (NVl lp σ) f args (hpO M l) v (hpO M (l'++nw)) /\ l'.length=l.length:=by
 unfold Gm at h
 obtain⟨v0,rfl,h0⟩:=vu h
 rw [Q.bind_eq,Q.lv_eq] at h0
 obtain⟨⟨v1,H2⟩,hr,hc⟩:=T.bind_some h0
 exact(fun x=>⟨vC x.1,x.2⟩) (pz (N:=NVl lp σ) (nH rfl) bR hM hargs (Opn.refl _) (fun m c h=>⟨c,h⟩) ((PT hlp ht 24 f).ctr hr hargs ⟨(tQ (σ:=σ) M l).1,trivial⟩) hc)
def slZ:Sl:=⟨0,false,[wNil,wNil,wNil,wNil,wNil,wNil,wNil,wNil,wNil,wNil]⟩
def jg (n:Nat):PlotM:=⟨qb,List.replicate n slZ,nB n,0,0,none⟩
noncomputable def Ta (n:Nat):Lp:=gT 20 5 (gN (List.replicate n slZ) n) fJ
theorem Wt (n:Nat):cV Tryz.prog (NVl (Ta n) σ) :=
 gJ jM (fn:=Tryz.f20) (by kernel_rfl) (c:=cB Tryz.f20) (by kernel_rfl) (nt:=45) (by kernel_rfl) (b:=LN) (br (by kernel_rfl)) (WU (σ:=σ) (N':=NVl fJ σ) rfl rfl _ n)
def Xk (n:Nat):Prop:=(SV.v (.c (.ptr 9 0))=.v (.c (.ptr 9 0)) /\ SV.v (.c (.it .i64 n))=.v (.c (.it .i64 n)) /\ PJ (List.replicate n slZ) n=PJ (List.replicate n slZ) n) /\ n<=1024
@[reducible] def oPlot:ObK PlotM:=⟨AV.plot,fun | .plot m=>some m | _=>none,fun a j h=>by split at h<;>cases h;rfl,fun _=>rfl⟩
theorem LJ (σ:Sg) (n:Nat):(Gm (Ta n) σ bm 20 noM [.v (.c (.it .i64 (Int.ofNat n))),.v (.c (.il .i64 85))] []).map (nC oPlot) =
 .ite (orB (decide (Int.ofNat n < 0)) (orB (decide (Int.ofNat n > 1024)) (decide ((85:Int) > 200)))) (.fail "load") (.need (decide (0<=Int.ofNat n /\ Int.ofNat n=Int.ofNat n /\ (Int.ofNat n).toNat * (SI.bytes Kx+1)<=lim)) (.need (fO (Xk n))
  (.need true (.need (decide (n=(List.replicate n slZ).length)) (.need (decide (n=(nB n).length)) (.need true (.leaf (some (jg n))))))))):=by kernel_rfl
def aI2:ArgK (Int×Int) where
 enc x:=[.v (.c (.it .i64 x.1)),.v (.c (.it .i64 x.2))]
 dec:=fun | [.v (.c a),.v (.c b)]=>(match iOf a,iOf b with | some a,some b=>some (a,b) | _,_=>none) | _=>none
 ok:=fun l a h ρ=>by
  split at h
  ·split at h
   ·rename_i h0 h1
    cases h
    simp only [List.map_cons,List.map_nil,SV.den,V1.den,bp h0 ρ,bp h1 ρ];rfl
   ·cases h
  ·cases h
 free:=fun _=>rfl
theorem CQ (σ:Sg) (n:Nat) (hn:n<=1024):((Gm (Ta n) σ bm 20 noM [.v (.c (.it .i64 (Int.ofNat n))),.v (.c (.il .i64 85))] []).map (nC oPlot)).val=some (some (jg n)):=by
 rw [LJ]
 have e:orB (decide (Int.ofNat n < 0)) (orB (decide (Int.ofNat n > 1024)) (decide ((85:Int) > 200)))=false:=by
  rw [decide_eq_false (show ¬Int.ofNat n < 0 by simp),decide_eq_false (show ¬Int.ofNat n > 1024 by simp;omega)];rfl
 rw [ivF e]
 refine(nv (decide_eq_true ⟨by simp,rfl,Nat.le_trans (Nat.mul_le_mul_right _ (show (Int.ofNat n).toNat<=1024 from hn)) (by decide)⟩)).trans ((nv (fN ⟨⟨rfl,rfl,rfl⟩,hn⟩)).trans ((nv rfl).trans ((nv (decide_eq_true List.length_replicate.symm)).trans ((nv (decide_eq_true (pr n).symm)).trans (nv rfl)))))
theorem EN:FnOk Tryz.prog (NV σ) 20 (aZ isS noM (mP aI2 oPlot (fun x=>some (decide (0<=x.1 /\ x.1<=1024 /\ x.2=85))) (fun x=>jg x.1.toNat))):=by
 refine dQ bR rfl fun args l v l' nw h hl hargs=>?_
 unfold mP at h
 split at h
 ·split at h
  ·rename_i x hx
   replace h:=fL h
   obtain⟨hok,h⟩:=h
   obtain⟨h1,h2,h3⟩:=of_decide_eq_true (show decide _=true from hok)
   simp only [T.val,Option.some.injEq,Prod.mk.injEq] at h
   obtain⟨rfl,rfl,rfl⟩:=h
   obtain⟨i,c⟩:=x
   dsimp only at h1 h2 h3
   subst h3
   obtain⟨n,rfl⟩:∃n:Nat,i=Int.ofNat n:=⟨i.toNat,by simp;omega⟩
   obtain⟨y,g1,g2⟩:=map_some (CQ σ n (by simp at h2;omega))
   have g2:=yi g2
   subst g2
   have hc:=oG (KI (Wt n) (wh aJ) (M:=noM) rfl (cW rfl) g1).1
   exact eX hc fun ρ=>by rw [<- aI2.ok _ _ hx ρ];rfl
  ·simp [T.val] at h
 ·simp [T.val] at h
end
section
open Go Go.Sx Go.Proofs
set_option maxRecDepth 100000
variable {σ:Sg} {lp:Lp}
def aI5:ArgK (Int×Int×Int×Int×Int) where
 enc x:=[.v (.c (.it .i64 x.1)),.v (.c (.it .i64 x.2.1)),.v (.c (.it .i64 x.2.2.1)),.v (.c (.it .i64 x.2.2.2.1)),.v (.c (.it .i64 x.2.2.2.2))]
 dec:=fun | [.v (.c a),.v (.c b),.v (.c c),.v (.c d),.v (.c e)]=>(match iOf a,iOf b,iOf c,iOf d,iOf e with | some a,some b,some c,some d,some e=>some (a,b,c,d,e) | _,_,_,_,_=>none) | _=>none
 ok:=fun l a h ρ=>by
  split at h
  ·split at h
   ·rename_i h0 h1 h2 h3 h4
    cases h
    simp only [List.map_cons,List.map_nil,SV.den,V1.den,bp h0 ρ,bp h1 ρ,bp h2 ρ,bp h3 ρ,bp h4 ρ];rfl
   ·cases h
  ·cases h
 free:=fun _=>rfl
def QL (s:Int) (r:RiteM) (e:Int):VerM:=⟨s,e,r,0,aD,⟨0,0,0,0⟩,none,⟨0,0⟩⟩
noncomputable def Rb (bad:Int->Int->Int->Int->Bool) (mr:Int×Int×Int×Int->RiteM):Tab:=aQ 26 (aZ isS noM (mP aI4 oRite (fun x=>some (!(bad x.1 x.2.1 x.2.2.1 x.2.2.2))) mr)) bm
theorem Oc (σ:Sg) (bad:Int->Int->Int->Int->Bool) (mr:Int×Int×Int×Int->RiteM) (s e me th no:Int):(gg σ (Rb bad mr) 8 noM (aI5.enc (s,e,me,th,no)) []).map (nC oVer) =
 .ite (orB (decide (s < 1)) (decide (s > 5))) (.fail "load") (.need (!(bad e me th no)) (.need true (.leaf (some (QL s (mr (e,me,th,no)) e))))):=by kernel_rfl
def oe (x:Int×Int×Int×Int×Int):VerM:=QL x.1 (vt (x.2.1,x.2.2.1,x.2.2.2.1,x.2.2.2.2)) x.2.1
def yx (x:Int×Int×Int×Int×Int):Bool:=orB (orB (decide (x.1 < 1)) (decide (x.1 > 5))) (sq x.2.1 x.2.2.1 x.2.2.2.1 x.2.2.2.2)
theorem Hn:FnOk Tryz.prog (NV σ) 8 (aZ isS noM (mP aI5 oVer (fun x=>some (!(yx x))) oe)) :=
 mO (tab:=Rb sq vt) (au KP aJ) rfl fun x h=>⟨aI5.enc x,rfl,fun _=>rfl,by
  obtain⟨s,e,me,th,no⟩:=x
  have h:(!(orB (orB (decide (s < 1)) (decide (s > 5))) (sq e me th no)))=true:=h
  rw [Oc]
  cases h1:orB (decide (s < 1)) (decide (s > 5)) with
  | true=>rw [h1] at h;cases h
  | false =>
    rw [h1] at h
    cases h2:sq e me th no with
    | true=>rw [h2] at h;cases h
    | false=>rfl⟩
end
section
open Go Go.Sx Go.Proofs
set_option maxRecDepth 100000
set_option maxHeartbeats 4000000
def XB (s:Int) (o:O):Prop:=(s=1 /\ (o.kind=1 \/ o.kind=2 \/ o.kind=3)) \/ (s=2 /\ (o.kind=4 \/ o.kind=5)) \/ ((s=3 \/ s=4 \/ s=5) /\ (o.kind=6 \/ o.kind=7 \/ o.kind=8) /\ 0<=o.key /\ o.key < 256 /\ (o.kind=6->o.tall<=3))
theorem BD {o:O} (h:oA o=true):(o.kind=6 \/ o.kind=7 \/ o.kind=8) /\ 0<=o.key /\ o.key < 256 /\ (o.kind=6->o.tall<=3):=by
 unfold oA at h
 split at h
 ·cases h
 ·rename_i hk
  have hkey:0<=o.key /\ o.key < 256:=by
   split at hk
   ·rename_i h1
    have h1:¬o.key < 0:=of_decide_eq_false (eq_of_beq h1)
    have h2:¬o.key > 255:=of_decide_eq_false hk
    omega
   ·cases hk
  split at h
  ·rename_i h6
   have h6:o.kind=6:=eqI h6
   refine⟨.inl h6,hkey.1,hkey.2,fun _=>?_⟩
   split at h
   ·split at h
    ·split at h
     ·exact of_decide_eq_true h
     ·cases h
    ·cases h
   ·cases h
  ·rename_i h6
   have h6:o.kind≠6:=neI h6
   split at h
   ·rename_i h7
    exact⟨.inr (.inl (eqI h7)),hkey.1,hkey.2,fun e=>absurd e h6⟩
   ·split at h
    ·rename_i h8
     exact⟨.inr (.inr (eqI h8)),hkey.1,hkey.2,fun e=>absurd e h6⟩
    ·cases h
theorem DH {o:O} (h:oJ o=false):oA o=true:=by
 unfold oJ at h
 split at h
 ·rename_i hg
  have hg:(!oA o)=false:=eq_of_beq hg
  simpa using hg
 ·cases h
theorem DG {o:O} (h:oI o=false):oA o=true:=by
 unfold oI at h
 split at h
 ·rename_i hg
  have hg:(!oA o)=false:=eq_of_beq hg
  simpa using hg
 ·cases h
theorem GY {s:Int} {o:O} (h:iw s o=true):XB s o:=by
 unfold iw at h
 by_cases h1:s=1
 ·rw [if_pos h1] at h
  refine .inl ⟨h1,?_⟩
  unfold mM at h
  cases a:o.kind==1 with
  | true=>exact .inl (eqI a)
  | false =>
    cases b:o.kind==2 with
    | true=>exact .inr (.inl (eqI b))
    | false =>
      cases d:o.kind==3 with
      | true=>exact .inr (.inr (eqI d))
      | false=>rw [a,b,d] at h;cases h
 rw [if_neg h1] at h
 by_cases h2:s=2
 ·rw [if_pos h2] at h
  refine .inr (.inl ⟨h2,?_⟩)
  unfold m4 at h
  cases a:o.kind==4 with
  | true=>exact .inl (eqI a)
  | false =>
    cases b:o.kind==5 with
    | true=>exact .inr (eqI b)
    | false=>rw [a,b] at h;cases h
 rw [if_neg h2] at h
 by_cases h3:s=3
 ·rw [if_pos h3] at h
  unfold nu at h
  cases a:oJ o with
  | true=>rw [a] at h;cases h
  | false=>exact .inr (.inr ⟨.inl h3,BD (DH a)⟩)
 rw [if_neg h3] at h
 by_cases h4:s=4
 ·rw [if_pos h4] at h
  unfold qR at h
  cases a:oJ o with
  | true=>rw [a] at h;cases h
  | false=>exact .inr (.inr ⟨.inr (.inl h4),BD (DH a)⟩)
 rw [if_neg h4] at h
 by_cases h5:s=5
 ·rw [if_pos h5] at h
  unfold ra at h
  cases a:oI o with
  | true=>rw [a] at h;cases h
  | false=>exact .inr (.inr ⟨.inr (.inr h5),BD (DG a)⟩)
 rw [if_neg h5] at h
 cases h
theorem LQ {n:Int} (h0:0<=n) {s:Int} {o:O} (h:XB s o) (c:Cl):(p5 s.toNat o).WF n (s==2) /\ (p5 s.toNat o).aw c:=by
 have z:∀{p:Int} {P:Prop},(0:Int)=p->p≠0->P:=fun h h2=>absurd h.symm h2
 rcases h with⟨rfl,hk⟩ | ⟨rfl,hk⟩ | ⟨hs,hk,k0,k1,ht⟩
 ·refine⟨⟨⟨hk,.inr (.inl rfl),fun e=>z e (by decide),ay h0,ay h0,fun _ e=>absurd (show (0:Int)=2 \/ (0:Int)=3 \/ (0:Int)=4 from e) (by decide)⟩,rfl⟩,trivial⟩
 ·refine⟨⟨⟨hk,.inr (.inl rfl),fun e=>z e (by decide),ay h0,ay h0,ay h0,ay h0,fun _ e=>absurd (show (0:Int)=2 \/ (0:Int)=3 \/ (0:Int)=4 \/ (0:Int)=6 \/ (0:Int)=7 from e) (by decide),fun _ e=>absurd (show (0:Int)=6 \/ (0:Int)=7 from e) (by decide)⟩,rfl⟩,fun _ e=>absurd (show (0:Int)=1 from e) (by decide)⟩
 ·rcases hs with rfl | rfl | rfl
  ·exact⟨⟨zy h0 (dh (by decide) (by decide)) hk,rfl⟩,zz⟩
  ·refine⟨⟨⟨⟨k0,k1⟩,hk,⟨by show (0:Int)<=0;decide,by show (0:Int) < 8;decide⟩,.inr (.inl rfl),fun e=>z e (by decide),fun e=>z e (by decide),fun e=>absurd (show (3:Int)<=0 from e.1) (by decide),ay h0,ay h0,ay h0,ay h0,fun e=>absurd (show (4:Int)<=0 from e.1) (by decide),fun w e=>(by cases e),fun e=>z e (by decide)⟩,rfl⟩,⟨fun e=>z e (by decide),fun e=>z e (by decide)⟩⟩
  ·refine⟨⟨⟨hk,ht,?_,fun e=>z e (by decide),ay h0,fun e=>?_,fun c e=>(by cases e),fun e=>?_⟩,rfl⟩,fun _ e=>absurd (show (0:Int)=1 from e) (by decide)⟩
   ·rcases hk with hk | hk | hk
    ·exact .inl ⟨hk,.inr (.inl rfl)⟩
    ·exact .inr (.inl ⟨hk,.inr (.inl rfl)⟩)
    ·exact .inr (.inr (.inl ⟨hk,.inr (.inl rfl)⟩))
   ·rcases e with⟨_,e⟩ | ⟨_,e⟩ | e
    ·exact absurd (show (2:Int)<=0 from e) (by decide)
    ·exact absurd (show (2:Int)<=0 from e) (by decide)
    ·exact absurd (show (101:Int)<=0 from e) (by decide)
   ·rcases e with⟨_,e⟩ | ⟨_,e⟩
    ·exact absurd (show (0:Int)=7 \/ (0:Int)=9 \/ (0:Int)=10 \/ (0:Int)=11 \/ (0:Int)=12 from e) (by decide)
    ·exact absurd (show (0:Int)=3 \/ (0:Int)=4 \/ (0:Int)=5 from e) (by decide)
theorem PD {s:Int} (h1:1<=s) (h5:s<=5) (o:O) (v:VerM):(bF {v with job:=some (p5 s.toNat o)}:Int)=s:=by
 rcases (by omega:s=1 \/ s=2 \/ s=3 \/ s=4 \/ s=5) with rfl | rfl | rfl | rfl | rfl<;>rfl
theorem PK {n:Int} (h0:0<=n) {K:Nat} {v:VerM} (hK:K+17<=100000) (h:v.WF n K) (hb:v.doing=0) {o:O} (hf:iw v.sort o=true):Gx v o /\ (fB v o).WF n (K+17) /\ (fB v o).rest /\ (fB v o).sort=v.sort:=by
 have hop:=GY hf
 obtain⟨ob,rr⟩:=yv (c:=ke) h0 h.rite (h.idle hb) (.inr (.inl rfl)) (by omega)
 obtain⟨jw,ja⟩:=LQ h0 hop ke
 have hw:(u6 bS v.sort.toNat v o).WF n (K+1):=by
  refine⟨⟨h.kj.1,h.kj.2.1,.inr (PD h.kj.1 h.kj.2.1 o v)⟩,⟨by show (0:Int)<=1;decide,by show (1:Int)<=4;decide⟩,rr.wf,rr.on,fun e=>absurd (show (1:Int)=0 from e) (by decide),fun _=>⟨_,rfl,jw,ja,rr.off⟩⟩
 obtain⟨a1,a2,a3,a4⟩:=NM h0 (K:=K+1) (by omega) hw
 exact⟨⟨ob,a1⟩,a2,a3,a4⟩
theorem Ir {n:Int} (h0:0<=n) {s e me th no:Int} (hs:1<=s /\ s<=5) (he:1<=e /\ e<=5) (ht:1<=th /\ th<=6) (hm:0<=me /\ me < th):(oe (s,e,me,th,no)).WF n 0 /\ (oe (s,e,me,th,no)).rest:=by
 refine⟨⟨⟨hs.1,hs.2,.inl rfl⟩,⟨by show (0:Int)<=0;decide,by show (0:Int)<=4;decide⟩,⟨⟨he,⟨hm.1,by show me < 6;omega⟩,ht,⟨ay h0,ay h0,ay h0,ay h0,ay h0,ay h0,ay h0,ay h0,ay h0⟩,fun x hx=>(by cases hx),Nat.le_refl _,ay h0,Nat.zero_le _⟩,fun e=>absurd rfl e,fun e=>absurd rfl e,.inl rfl⟩,fun e=>absurd rfl e,fun _=>rfl,fun e=>absurd (show (0:Int)=1 \/ (0:Int)=2 from e) (by decide)⟩,.inl rfl⟩
theorem VerM.WF.mono {n:Int} {K K':Nat} {v:VerM} (h:v.WF n K) (hk:K<=K'):v.WF n K':=⟨h.kj,h.dg,⟨B.mono h.rite.b hk,h.rite.call,h.rite.acc,h.rite.st⟩,h.call,h.idle,h.job⟩
end
end Go.Proofs.YtadmfaohjnjajaaGreatDoor
