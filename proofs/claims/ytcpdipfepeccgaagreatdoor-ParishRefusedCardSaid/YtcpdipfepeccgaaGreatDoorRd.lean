import Derived.Test.YtcpdipfepeccgaaGreatDoorQy
import Derived.Shelf.SlGeneric
import Derived.Ground.SlgnProg
import Derived.Shelf.SlicesE.Clone
set_option maxHeartbeats 4000000
set_option linter.unusedVariables false
namespace Go.Proofs.YtcpdipfepeccgaaGreatDoor
open Go Go.Sx Go.Proofs
set_option maxRecDepth 100000
variable {σ:Sg} {lp:Lp}
noncomputable def mFit:List Bool:=mkM 18
def tB (b:Bool):T (SV×List AV×List AV):=.leaf (.v (.c (.bt b)),[],[])
noncomputable def runFit (σ:Sg) (s:Cell) (o:O):T (SV×List AV×List AV):=runN σ tab0 18 mFit [.v (.c s),.v (.agg (gsC (O.wr o)))] []
theorem fitR1 (σ:Sg) (o:O):runFit σ (.il .i64 1) o=pileSt tI (tB true) (tB false) o:=by kernel_rfl
theorem fitR2 (σ:Sg) (o:O):runFit σ (.il .i64 2) o=cortSt tI (tB true) (tB false) o:=by kernel_rfl
theorem fitR3 (σ:Sg) (o:O):runFit σ (.il .i64 3) o=litSt tI (tB true) (tB false) (tB true) o:=by kernel_rfl
theorem fitR4 (σ:Sg) (o:O):runFit σ (.il .i64 4) o=vauSt tI (tB true) (tB false) o:=by kernel_rfl
theorem fitR5 (σ:Sg) (o:O):runFit σ (.il .i64 5) o=steSt tI (tB true) (tB false) o:=by kernel_rfl
theorem fitR0 (σ:Sg) (s:Int) (h:∀c∈[(1:Int),2,3,4,5],(s==c)=false) (o:O):runFit σ (.iv .i64 s [1,2,3,4,5] h) o=tB false:=by kernel_rfl
def aIO:ArgK (Int×O) where
 enc x:=[.v (.c (.it .i64 x.1)),.v (.agg (gsC (O.wr x.2)))]
 dec:=fun | [.v (.c c),.v (.agg cs)]=>(match iOf c,O.rd ((nrmL cs).map .p) with | some s,some (o,[])=>some (s,o) | _,_=>none) | _=>none
 ok:=fun l a h ρ=>by
  split at h
  ·split at h
   ·rename_i h0 h1
    cases h
    have:=O.rd_s h1
    rw [List.append_nil] at this
    rw [<- this,gsC_map]
    simp only [List.map_cons,List.map_nil,SV.den,V1.den,nrmL_den,iOf_den h0 ρ]
    rfl
   ·cases h
  ·cases h
 free:=fun _=>rfl
theorem spB {α β:Type} {d:α->Option β} {b:Bool} {t e:T α} {x y:β} (h1:(t.map d).val=some (some x)) (h2:(e.map d).val=some (some y)):((tI b t e).map d).val=some (some (cond b x y)):=by cases b<;>assumption
theorem vTB (b:Bool):((tB b).map (decF vBo)).val=some (some b):=rfl
theorem fits_ok:FnOk Tryz.prog (NV σ) 18 (sumG isS mFit (funS aIO vBo (fun _=>none) (fun x=>fitsB x.1 x.2))) :=
 funS_ok tab0_ok (mkM_len _) fun x _=>by
  obtain⟨s,o⟩:=x
  unfold fitsB
  dsimp only
  by_cases h1:s=1
  ·subst h1
   refine⟨[.v (.c (.il .i64 1)),.v (.agg (gsC (O.wr o)))],rfl,fun _=>rfl,?_⟩
   show ((runFit σ _ o).map (decF vBo)).val=_
   rw [fitR1,if_pos rfl];unfold pileSt
   repeat' first | exact vTB _ | apply spB
  rw [if_neg h1]
  by_cases h2:s=2
  ·subst h2
   refine⟨[.v (.c (.il .i64 2)),.v (.agg (gsC (O.wr o)))],rfl,fun _=>rfl,?_⟩
   show ((runFit σ _ o).map (decF vBo)).val=_
   rw [fitR2,if_pos rfl];unfold cortSt
   repeat' first | exact vTB _ | apply spB
  rw [if_neg h2]
  by_cases h3:s=3
  ·subst h3
   refine⟨[.v (.c (.il .i64 3)),.v (.agg (gsC (O.wr o)))],rfl,fun _=>rfl,?_⟩
   show ((runFit σ _ o).map (decF vBo)).val=_
   rw [fitR3,if_pos rfl];unfold litSt
   repeat' first | exact vTB _ | apply spB
  rw [if_neg h3]
  by_cases h4:s=4
  ·subst h4
   refine⟨[.v (.c (.il .i64 4)),.v (.agg (gsC (O.wr o)))],rfl,fun _=>rfl,?_⟩
   show ((runFit σ _ o).map (decF vBo)).val=_
   rw [fitR4,if_pos rfl];unfold vauSt
   repeat' first | exact vTB _ | apply spB
  rw [if_neg h4]
  by_cases h5:s=5
  ·subst h5
   refine⟨[.v (.c (.il .i64 5)),.v (.agg (gsC (O.wr o)))],rfl,fun _=>rfl,?_⟩
   show ((runFit σ _ o).map (decF vBo)).val=_
   rw [fitR5,if_pos rfl];unfold steSt
   repeat' first | exact vTB _ | apply spB
  rw [if_neg h5]
  have h:∀c∈[(1:Int),2,3,4,5],(s==c)=false:=not_in (by simp [h1,h2,h3,h4,h5])
  refine⟨[.v (.c (.iv .i64 s [1,2,3,4,5] h)),.v (.agg (gsC (O.wr o)))],rfl,fun _=>rfl,?_⟩
  show ((runFit σ _ o).map (decF vBo)).val=_
  rw [fitR0];rfl
theorem bad_ok {α:Type} {b:Bool} {t e:T (Option α)} {x y:Bool} {j:α} (h:cond b x y=true) (h1:x=true->t.val=some (some j)) (h2:y=true->e.val=some (some j)):(tI b t e).val=some (some j):=by
 cases b
 ·exact h2 h
 ·exact h1 h
theorem pileSt_ok:FnOk Tryz.prog (NV σ) 29 (sumG isS noM (newE aOp oPile (fun o=>some (pileSt cond true false o)) mkPile)) :=
 newE_ok tab0_ok rfl fun o h=>⟨aOp.enc o,rfl,fun _=>rfl,by
  have h:pileSt cond true false o=true:=h
  rw [pileStR];unfold pileSt at h ⊢
  revert h
  repeat' first | exact fun _=>rfl | exact fun h=>absurd h (by decide) | (refine fun h=>bad_ok h ?_ ?_)⟩
theorem cortSt_ok:FnOk Tryz.prog (NV σ) 30 (sumG isS noM (newE aOp oCort (fun o=>some (cortSt cond true false o)) mkCort)) :=
 newE_ok tab0_ok rfl fun o h=>⟨aOp.enc o,rfl,fun _=>rfl,by
  have h:cortSt cond true false o=true:=h
  rw [cortStR];unfold cortSt at h ⊢
  revert h
  repeat' first | exact fun _=>rfl | exact fun h=>absurd h (by decide) | (refine fun h=>bad_ok h ?_ ?_)⟩
theorem litSt_ok:FnOk Tryz.prog (NV σ) 31 (sumG isS noM (newE aOp oLit (fun o=>some (litSt cond true false false o)) mkLit)) :=
 newE_ok tab0_ok rfl fun o h=>⟨aOp.enc o,rfl,fun _=>rfl,by
  have h:litSt cond true false false o=true:=h
  rw [litStR];unfold litSt at h ⊢
  revert h
  repeat' first | exact fun _=>rfl | exact fun h=>absurd h (by decide) | (refine fun h=>bad_ok h ?_ ?_)⟩
theorem vauSt_ok:FnOk Tryz.prog (NV σ) 32 (sumG isS noM (newE aOp oVau (fun o=>some (vauSt cond true false o)) mkVau)) :=
 newE_ok tab0_ok rfl fun o h=>⟨aOp.enc o,rfl,fun _=>rfl,by
  have h:vauSt cond true false o=true:=h
  rw [vauStR];unfold vauSt at h ⊢
  revert h
  repeat' first | exact fun _=>rfl | exact fun h=>absurd h (by decide) | (refine fun h=>bad_ok h ?_ ?_)⟩
theorem steSt_ok:FnOk Tryz.prog (NV σ) 33 (sumG isS noM (newE aOp oSte (fun o=>some (steSt cond true false o)) mkSte)) :=
 newE_ok tab0_ok rfl fun o h=>⟨aOp.enc o,rfl,fun _=>rfl,by
  have h:steSt cond true false o=true:=h
  rw [steStR];unfold steSt at h ⊢
  revert h
  repeat' first | exact fun _=>rfl | exact fun h=>absurd h (by decide) | (refine fun h=>bad_ok h ?_ ?_)⟩
end Go.Proofs.YtcpdipfepeccgaaGreatDoor

namespace Go.Proofs.YtcpdipfepeccgaaGreatDoor
open Go Go.Sx Go.Proofs
set_option maxRecDepth 100000
variable {σ:Sg} {lp:Lp}
structure GvF where
 fit:Int->O->Bool
 oks:Nat->O->Bool
 okb:RiteM->Cl->Bool
 bg:RiteM->Cl->RiteM
noncomputable def tabGv (σ:Sg) (G:GvF) (F:StF) (k:Nat):Tab:=tabAdd 18 (sumG isS mFit (funS aIO vBo (fun _=>none) (fun x=>G.fit x.1 x.2)))
 (tabAdd 29 (sumG isS noM (newE aOp oPile (fun o=>some (G.oks 1 o)) mkPile)) (tabAdd 30 (sumG isS noM (newE aOp oCort (fun o=>some (G.oks 2 o)) mkCort))
 (tabAdd 31 (sumG isS noM (newE aOp oLit (fun o=>some (G.oks 3 o)) mkLit)) (tabAdd 32 (sumG isS noM (newE aOp oVau (fun o=>some (G.oks 4 o)) mkVau))
 (tabAdd 33 (sumG isS noM (newE aOp oSte (fun o=>some (G.oks 5 o)) mkSte)) (tabAdd 58 (sumG isS noM (methS aNo vBo oRite (fun _ _=>none) (fun m _=>(busyM m,m))))
 (tabAdd 57 (sumG isS noM (methS aCl vNil oRite (fun m c=>some (G.okb m c)) (fun m c=>((),G.bg m c))))
 (tabAdd 36 (viaR σ (sumG isS noM (methO 2 aNo oVer (fun v _=>some (F.oka v)) fun v _=>(.tup [],adK F k v,[])))) tab0))))))))
noncomputable def mGv:List Bool:=mkM 20
def dec1:SV×List AV×List AV->Option (SV×VerM)
 | (v,[.ver a],[])=>some (v,a)
 | _=>none
noncomputable def runGv (σ:Sg) (G:GvF) (F:StF) (k:Nat) (v:VerM) (o:O):T (Option (SV×VerM)):=(runOl noLp σ (tabGv σ G F k) 20 mGv [.v (.c (.ptr 8 0)),.v (.agg (gsC (O.wr o)))] [verV v] (layG AV.len tVer (litAt 0 (VerM.wr v)))).map dec1
def clEnter:Cl:=⟨1,noAd,wNil,wNil,0,0,⟨0,0⟩⟩
def mkJob (s:Nat) (o:O):JobM:=match s with | 1=>.pile (mkPile o) | 2=>.cort (mkCort o) | 3=>.lit (mkLit o) | 4=>.vau (mkVau o) | _=>.ste (mkSte o)
def givV (bg:RiteM->Cl->RiteM) (s:Nat) (v:VerM) (o:O):VerM:={v with rite:=bg v.rite clEnter,doing:=1,call:=clEnter,op:=o,job:=some (mkJob s o),answer:=⟨0,0⟩}
def givF {β:Type} (I:Bool->β->β->β) (N:Bool->β->β) (E:Nat->β) (L:VerM->β) (G:GvF) (oka:VerM->Bool) (ad:VerM->VerM) (s:Nat) (v:VerM) (o:O):β :=
 I (v.doing != 0) (N true (E ErS)) (I (!G.fit v.sort o) (N true (E ErA)) (N (G.oks s o) (N (G.okb v.rite clEnter) (N true (N (oka (givV G.bg s v o)) (N true (L (ad (givV G.bg s v o)))))))))
def gvL (v:VerM):T (Option (SV×VerM)):=.leaf (some (.v (.c .inil),v))
def gvE (σ:Sg) (v:VerM) (i:Nat):T (Option (SV×VerM)):=.leaf (some (.v (errV σ i),v))
theorem givR1n (σ:Sg) (G:GvF) (F:StF) (v:VerM) (o:O):runGv σ G F 1 {v with sort:=1,job:=none} o=givF tI tN (gvE σ {v with sort:=1,job:=none}) gvL G F.oka (adK F 1) 1 {v with sort:=1,job:=none} o:=by kernel_rfl
theorem givR1s (σ:Sg) (G:GvF) (F:StF) (v:VerM) (j:PileM) (o:O):runGv σ G F 1 {v with sort:=1,job:=some (.pile j)} o=givF tI tN (gvE σ {v with sort:=1,job:=some (.pile j)}) gvL G F.oka (adK F 1) 1 {v with sort:=1,job:=some (.pile j)} o:=by kernel_rfl
theorem givR2n (σ:Sg) (G:GvF) (F:StF) (v:VerM) (o:O):runGv σ G F 2 {v with sort:=2,job:=none} o=givF tI tN (gvE σ {v with sort:=2,job:=none}) gvL G F.oka (adK F 2) 2 {v with sort:=2,job:=none} o:=by kernel_rfl
theorem givR2s (σ:Sg) (G:GvF) (F:StF) (v:VerM) (j:CortM) (o:O):runGv σ G F 2 {v with sort:=2,job:=some (.cort j)} o=givF tI tN (gvE σ {v with sort:=2,job:=some (.cort j)}) gvL G F.oka (adK F 2) 2 {v with sort:=2,job:=some (.cort j)} o:=by kernel_rfl
theorem givR3n (σ:Sg) (G:GvF) (F:StF) (v:VerM) (o:O):runGv σ G F 3 {v with sort:=3,job:=none} o=givF tI tN (gvE σ {v with sort:=3,job:=none}) gvL G F.oka (adK F 3) 3 {v with sort:=3,job:=none} o:=by kernel_rfl
theorem givR3s (σ:Sg) (G:GvF) (F:StF) (v:VerM) (j:LitM) (o:O):runGv σ G F 3 {v with sort:=3,job:=some (.lit j)} o=givF tI tN (gvE σ {v with sort:=3,job:=some (.lit j)}) gvL G F.oka (adK F 3) 3 {v with sort:=3,job:=some (.lit j)} o:=by kernel_rfl
theorem givR4n (σ:Sg) (G:GvF) (F:StF) (v:VerM) (o:O):runGv σ G F 4 {v with sort:=4,job:=none} o=givF tI tN (gvE σ {v with sort:=4,job:=none}) gvL G F.oka (adK F 4) 4 {v with sort:=4,job:=none} o:=by kernel_rfl
theorem givR4s (σ:Sg) (G:GvF) (F:StF) (v:VerM) (j:VauM) (o:O):runGv σ G F 4 {v with sort:=4,job:=some (.vau j)} o=givF tI tN (gvE σ {v with sort:=4,job:=some (.vau j)}) gvL G F.oka (adK F 4) 4 {v with sort:=4,job:=some (.vau j)} o:=by kernel_rfl
theorem givR5n (σ:Sg) (G:GvF) (F:StF) (v:VerM) (o:O):runGv σ G F 5 {v with sort:=5,job:=none} o=givF tI tN (gvE σ {v with sort:=5,job:=none}) gvL G F.oka (adK F 5) 5 {v with sort:=5,job:=none} o:=by kernel_rfl
theorem givR5s (σ:Sg) (G:GvF) (F:StF) (v:VerM) (j:SteM) (o:O):runGv σ G F 5 {v with sort:=5,job:=some (.ste j)} o=givF tI tN (gvE σ {v with sort:=5,job:=some (.ste j)}) gvL G F.oka (adK F 5) 5 {v with sort:=5,job:=some (.ste j)} o:=by kernel_rfl
theorem nrmG_lit (i:Nat):∀(gs:Gs),nrmG (litAt i gs)=nrmG gs:=by
 induction i with
 | zero=>intro gs;match gs with
   | []=>rfl
   | .p c::r=>cases c<;>rfl
   | .s _ _::r=>rfl
   | .r _::r=>rfl
   | .i _ _::r=>rfl
 | succ i ih=>intro gs;match gs with
   | []=>rfl
   | .p c::r=>show GC.p (nrmC c)::nrmG (litAt i r)=_;rw [ih r];rfl
   | .s a e::r=>show GC.s a e::nrmG (litAt i r)=_;rw [ih r];rfl
   | .r a::r=>show GC.r a::nrmG (litAt i r)=_;rw [ih r];rfl
   | .i t a::r=>show GC.i t a::nrmG (litAt i r)=_;rw [ih r];rfl
def stB (k:Nat) (o:O):Bool:=match k with | 1=>pileSt cond true false o | 2=>cortSt cond true false o | 3=>litSt cond true false false o | 4=>vauSt cond true false o | _=>steSt cond true false o
noncomputable def gvM:GvF:=⟨fitsB,stB,okBg,beginM⟩
theorem adv_k (k:Nat):FnOk Tryz.prog (NV σ) 36 (viaR σ (sumG isS noM (methO 2 aNo oVer (fun v _=>some ((stF k).oka v)) fun v _=>(.tup [],adK (stF k) k v,[])))):=by
 refine viaR_ok (methO_ok rfl fun v x h=>?_)
 have h:(stF k).oka v=true:=h
 show Ctr _ _ _ _ _ (.tup []) (hpO noM [verV (adK (stF k) k v)])
 rw [adK_eq h]
 exact adv_ctr σ v (stF_oka h).1
theorem tabGv_ok (k:Nat):TabOk Tryz.prog (NV σ) (tabGv σ gvM (stF k) k) :=
 tabAdd_ok fits_ok (tabAdd_ok pileSt_ok (tabAdd_ok cortSt_ok (tabAdd_ok litSt_ok (tabAdd_ok vauSt_ok (tabAdd_ok steSt_ok (tabAdd_ok riBusy_ok (tabAdd_ok begin_ok (tabAdd_ok (adv_k k) tab0_ok))))))))
theorem dec1_spec {r:SV×List AV×List AV} {v:SV} {a:VerM} (h:dec1 r=some (v,a)):r=(v,[.ver a],[]):=by
 unfold dec1 at h
 split at h
 ·cases h;rfl
 ·cases h
def okKj (v:VerM):Prop:=1<=v.sort /\ v.sort<=5 /\ (kindJ v=0 \/ (kindJ v:Int)=v.sort)
theorem giv_run (σ:Sg) (v:VerM) (o:O) (hk:okKj v) (r:Option (SV×VerM)) (h:(givF tI tN (gvE σ v) gvL gvM (stF v.sort.toNat).oka (adK (stF v.sort.toNat) v.sort.toNat) v.sort.toNat v o).val=some r):(runGv σ gvM (stF v.sort.toNat) v.sort.toNat v o).val=some r:=by
 obtain⟨so,en,ri,dg,cl,op,job,an⟩:=v
 obtain⟨h1,h2,h3⟩:=hk
 dsimp only at h1 h2 h3
 rcases (by omega:so=1 \/ so=2 \/ so=3 \/ so=4 \/ so=5) with rfl | rfl | rfl | rfl | rfl
 ·cases job with
  | none=>exact(congrArg T.val (givR1n σ gvM (stF 1) ⟨1,en,ri,dg,cl,op,none,an⟩ o)).trans h
  | some j =>
    cases j with
    | pile j=>exact(congrArg T.val (givR1s σ gvM (stF 1) ⟨1,en,ri,dg,cl,op,none,an⟩ j o)).trans h
    | _=>simp [kindJ] at h3
 ·cases job with
  | none=>exact(congrArg T.val (givR2n σ gvM (stF 2) ⟨2,en,ri,dg,cl,op,none,an⟩ o)).trans h
  | some j =>
    cases j with
    | cort j=>exact(congrArg T.val (givR2s σ gvM (stF 2) ⟨2,en,ri,dg,cl,op,none,an⟩ j o)).trans h
    | _=>simp [kindJ] at h3
 ·cases job with
  | none=>exact(congrArg T.val (givR3n σ gvM (stF 3) ⟨3,en,ri,dg,cl,op,none,an⟩ o)).trans h
  | some j =>
    cases j with
    | lit j=>exact(congrArg T.val (givR3s σ gvM (stF 3) ⟨3,en,ri,dg,cl,op,none,an⟩ j o)).trans h
    | _=>simp [kindJ] at h3
 ·cases job with
  | none=>exact(congrArg T.val (givR4n σ gvM (stF 4) ⟨4,en,ri,dg,cl,op,none,an⟩ o)).trans h
  | some j =>
    cases j with
    | vau j=>exact(congrArg T.val (givR4s σ gvM (stF 4) ⟨4,en,ri,dg,cl,op,none,an⟩ j o)).trans h
    | _=>simp [kindJ] at h3
 ·cases job with
  | none=>exact(congrArg T.val (givR5n σ gvM (stF 5) ⟨5,en,ri,dg,cl,op,none,an⟩ o)).trans h
  | some j =>
    cases j with
    | ste j=>exact(congrArg T.val (givR5s σ gvM (stF 5) ⟨5,en,ri,dg,cl,op,none,an⟩ j o)).trans h
    | _=>simp [kindJ] at h3
theorem nrm_ver (v:VerM):nrmG (VerM.wr v)=VerM.wr v:=by
 obtain⟨so,en,ri,dg,cl,op,job,an⟩:=v
 cases job with
 | none=>rfl
 | some j=>cases j<;>rfl
theorem giv_ctr (σ:Sg) (v:VerM) (o:O) (hk:okKj v) {x:SV} {v':VerM} (h:(givF tI tN (gvE σ v) gvL gvM (stF v.sort.toNat).oka (adK (stF v.sort.toNat) v.sort.toNat) v.sort.toNat v o).val=some (some (x,v'))) :
 Ctr Tryz.prog (NV σ) 20 [.v (.c (.ptr 8 0)),.v (.agg (gsC (O.wr o)))] (hpO mGv [verV v]) x (hpO mGv [verV v']):=by
 obtain⟨y,h1,h2⟩:=map_some (giv_run σ v o hk _ h)
 rw [dec1_spec h2] at h1
 exact ctr_nv (runQl_ok lps0 (tabL (tabGv_ok _)) (mkM_len _) (a:=verV v) (K:=layG AV.len tVer (litAt 0 (VerM.wr v))) ⟨_,rfl⟩ (fun L S w hq=>objQ_nrm ((q_obj (N:=NVl noLp σ) rfl (by rw [nrmG_lit,nrm_ver];exact rfl) rfl L S w).1 hq)) (fun x hx=>by
  simp only [List.mem_cons,List.not_mem_nil,or_false] at hx
  rcases hx with rfl | rfl
  ·exact ptr_cl (mkM_len _)
  ·exact svFree_cl rfl) h1).1
noncomputable def giveM (v:VerM) (o:O):VerM:=advM (givV beginM v.sort.toNat v o)
def okGiv (v:VerM) (o:O):Prop:=okBg v.rite clEnter=true /\ okAd (givV beginM v.sort.toNat v o)=true
noncomputable def giveS (σ:Sg) (args:List SV) (l:List AV):T (SV×List AV×List AV):=match args,l with
 | [.v (.c (.ptr 8 0)),a],[.ver v]=>match aOp.dec [a] with
   | some o=>.need (decC (okKj v)) (.ite (v.doing != 0) (.leaf (.v (errV σ ErS),[.ver v],[])) (.ite (!fitsB v.sort o) (.leaf (.v (errV σ ErA),[.ver v],[])) (.need (decC (okGiv v o)) (.leaf (.v (.c .inil),[.ver (giveM v o)],[])))))
   | none=>.fail "Give"
 | _,_=>.fail "Give"
theorem fits_st {v:VerM} {o:O} (hk:okKj v) (h:fitsB v.sort o=true):stB v.sort.toNat o=true:=by
 obtain⟨h1,h2,h3⟩:=hk
 generalize v.sort=s at h1 h2 h
 rcases (by omega:s=1 \/ s=2 \/ s=3 \/ s=4 \/ s=5) with rfl | rfl | rfl | rfl | rfl
 ·exact h
 ·exact h
 ·have h:litSt cond true false true o=true:=h
  show litSt cond true false false o=true
  unfold litSt at h ⊢
  cases hb:badLit o with
  | true=>rw [hb] at h;cases h
  | false =>
    show cond _ _ _=true
    have hg:(!goodL o)=false:=by
     unfold badLit at hb
     split at hb
     ·rename_i hg;exact eq_of_beq hg
     ·cases hb
    have hg:goodL o=true:=by simpa using hg
    unfold goodL at hg
    cases h6:o.kind==6 with
    | true=>rfl
    | false =>
      cases h7:o.kind==7 with
      | true=>rfl
      | false =>
        cases h8:o.kind==8 with
        | true=>rfl
        | false =>
          rw [h6,h7,h8] at hg
          split at hg
          ·cases hg
          ·cases hg
 ·exact h
 ·exact h
theorem give_ok:FnOk Tryz.prog (NV σ) 20 (sumG isS mGv (giveS σ)):=by
 refine sumG_ok isS_ok (mkM_len _) fun args l x l' nw h hl hargs=>?_
 unfold giveS at h
 split at h
 ·rename_i a v
  split at h
  ·rename_i o ho
   obtain⟨hk,h⟩:=need_some (h:(T.need _ _).val=_)
   have hk:=decC_of hk
   have fin:∀{x0:SV} {v0:VerM},(givF tI tN (gvE σ v) gvL gvM (stF v.sort.toNat).oka (adK (stF v.sort.toNat) v.sort.toNat) v.sort.toNat v o).val=some (some (x0,v0))->some (x0,[AV.ver v0],([]:List AV))=some (x,l',nw)->Ctr Tryz.prog (NV σ) 20 [.v (.c (.ptr 8 0)),a] (hpO mGv [verV v]) x (hpO mGv (l'++nw)):=fun {x0 v0} h1 h2=>by
    simp only [Option.some.injEq,Prod.mk.injEq] at h2
    obtain⟨rfl,rfl,rfl⟩:=h2
    exact ctr_args (giv_ctr σ v o hk h1) fun ρ=>congrArg (List.cons (SV.den ρ (.v (.c (.ptr 8 0))))) (aOp.ok _ _ ho ρ).symm
   unfold givF at fin
   cases hb:(v.doing != 0) with
   | true =>
     rw [hb] at h fin
     exact fin rfl h
   | false =>
     rw [hb] at h fin
     cases hf:fitsB v.sort o with
     | false =>
       rw [hf] at h
       exact fin (show (tI (!fitsB v.sort o) _ _).val=_ by rw [hf];rfl) h
     | true =>
       rw [hf] at h
       obtain⟨h2,h⟩:=need_some (h:(T.need _ _).val=_)
       obtain⟨h3,h4⟩:=decC_of h2
       have ho:(stF v.sort.toNat).oka (givV beginM v.sort.toNat v o)=true:=by
        show (match okAd (givV beginM v.sort.toNat v o) with | true=>Nat.beq (kindJ (givV beginM v.sort.toNat v o)) v.sort.toNat | false=>false)=true
        rw [h4]
        refine(beq_iff _ _).2 ?_
        have h1:=hk.1;have h2:=hk.2.1
        unfold givV
        generalize v.sort=s at h1 h2
        rcases (by omega:s=1 \/ s=2 \/ s=3 \/ s=4 \/ s=5) with rfl | rfl | rfl | rfl | rfl<;>rfl
       refine fin (x0:=.v (.c .inil)) (v0:=giveM v o) ?_ h
       show (tI (!fitsB v.sort o) _ (tN (stB v.sort.toNat o) (tN (okBg v.rite clEnter) _))).val=_
       rw [hf]
       refine(nv (fits_st hk hf)).trans ((nv h3).trans ((nv rfl).trans ((nv ho).trans ((nv rfl).trans ?_))))
       show some (some (SV.v (V1.c Cell.inil),adK _ _ _))=_
       rw [show gvM.bg=beginM from rfl,adK_eq ho];rfl
  ·simp [T.val] at h
 ·simp [T.val] at h
end Go.Proofs.YtcpdipfepeccgaaGreatDoor

namespace Go.Proofs.YtcpdipfepeccgaaGreatDoor
open Go Go.Sx Go.Proofs
set_option maxRecDepth 100000
variable {σ:Sg} {lp:Lp}
def openAt (σ:Sg) (n:Nat) (H:Hp AV):Option (Hp AV):=match hget H n with
 | some (.abs a)=>match layO σ a with
   | some (some c::K)=>match Nat.ble 8 n,clHs H H with
     | true,true=>some (openH H n (some c::K))
     | _,_=>none
   | _=>none
 | _=>none
theorem openAt_ok {N:Env AV} (hF:N.F=F6 σ) (hG:N.G=8) {n:Nat} {H H':Hp AV} (h:openAt σ n H=some H'):Opn N H H' /\ H.length<=H'.length /\ ∀m c,hget H m=some c->∃c',hget H' m=some c':=by
 unfold openAt at h
 split at h
 ·rename_i a hn
  split at h
  ·rename_i c K hK
   split at h
   ·rename_i h1 h2
    cases h
    have hlt:=hget_lt hn
    refine⟨opn_open (K:=some c::K) ⟨clHs_iff.1 h2,trivial⟩ hn ⟨c,rfl⟩ (by rw [hG];exact Nat.le_of_ble_eq_true h1) fun l S w hq=>?_,?_,fun m d hm=>?_⟩
    ·have:=layO_ok (σ:=σ) a _ l S w hK (by rw [show (NV σ).F=F6 σ from rfl,<- hF];exact hq)
     exact objQ_env (N:=NV σ) (N':=N) (fun a l S w h=>by rw [hF];exact h) this
    ·show H.length<=(lset H n _++_).length
     rw [List.length_append,length_lset];omega
    ·rw [hget_open hlt (by simp)]
     by_cases e:m=n
     ·subst e
      exact⟨c.ren (opn m H.length),by rw [if_pos rfl];rfl⟩
     ·rw [if_neg e,if_pos (hget_lt hm)];exact⟨d,hm⟩
   ·cases h
  ·cases h
 ·cases h
noncomputable def closeP (σ:Sg) (M:List Bool) (k n2:Nat) (HA:Hp AV) (r:SV×Hp AV):T (SV×List AV×List AV) :=
 (viewV σ r.2 n2).bind fun x=>match deadF HA (foldH n2 x.2 x.1 0 r.2) with
   | R=>match shapeB HA R,clVs R [r.1],clHs R R with
     | true,true,true=>closeT (viewV σ) isS M k [M.length] (r.1,R)
     | _,_,_=>.fail "close"
noncomputable def runP (lp:Lp) (σ:Sg) (tab:Tab) (f:FuncId) (M:List Bool) (n2:Nat) (args:List SV) (l:List AV):T (SV×List AV×List AV) :=
 match openAt σ M.length (hpO M l) with
 | some HA=>match openAt σ n2 HA with
   | some HB=>match Q.clVs HB args,Q.clHs HB HB,Nat.ble 8 M.length with
     | true,true,true=>(Q.bind (Q.lv (NVl lp σ) tab 24 (.fn f) args HB) (closeP σ M l.length n2 HA)).map nrmR
     | _,_,_=>.fail "run: names"
   | none=>.fail "run: second"
 | none=>.fail "run: first"
theorem runP_ok (hlp:LpsOk Tryz.prog (NVl lp σ)) {tab:Tab} (ht:TabOk Tryz.prog (NVl lp σ) tab) {f:FuncId} {M:List Bool} (hM:8=M.length) {n2:Nat} {args:List SV} {l:List AV} {v:SV} {l' nw:List AV}
 (hargs:∀x∈args,ClV (hpO M l) x) (h:(runP lp σ tab f M n2 args l).val=some (v,l',nw)):Ctr Tryz.prog (NVl lp σ) f args (hpO M l) v (hpO M (l'++nw)) /\ l'.length=l.length:=by
 unfold runP at h
 split at h
 ·rename_i HA hA
  split at h
  ·rename_i HB hB
   split at h
   ·rename_i h1 h2 h3
    rw [Q.clVs_eq] at h1
    rw [Q.clHs_eq] at h2
    obtain⟨v0,rfl,h0⟩:=map_nrm h
    rw [Q.bind_eq,Q.lv_eq] at h0
    obtain⟨⟨v1,H2⟩,hr,hc⟩:=T.bind_some h0
    obtain⟨oA,lA,pA⟩:=openAt_ok (N:=NVl lp σ) rfl rfl hA
    obtain⟨oB,lB,pB⟩:=openAt_ok (N:=NVl lp σ) rfl rfl hB
    have hctr:=(fnVl hlp ht 24 f).ctr hr (clVs_iff.1 h1) ⟨clHs_iff.1 h2,trivial⟩
    unfold closeP at hc
    obtain⟨⟨a0,ns⟩,hv,hc⟩:=T.bind_some hc
    dsimp only at hc
    split at hc
    ·rename_i c1 c2 c3
     have hfl:Fl (NVl lp σ) H2 (deadF HA (foldH n2 ns a0 0 H2)):=(fl_fold ((viewV_ok (N:=NVl lp σ) rfl) H2 n2 a0 ns hv)).trans (fl_deadF HA _)
     generalize deadF HA (foldH n2 ns a0 0 H2)=R at *
     have hfd:Fld (NVl lp σ) H2 R:=fun ρ w hO=>by
      obtain⟨ρ1,o1,e1,f1⟩:=hfl ρ w hO
      exact⟨ρ1,o1,fun m _ _=>e1 m,f1⟩
     obtain⟨s1,s2,s3⟩:=shapeB_spec c1
     have hargsA:∀x∈args,ClV HA x:=fun x hx=>(hargs x hx).mono fun m c hm=>pA m c hm
     have hctA:=ctr_via oB pB hctr hfd hargsA (clVs_iff.1 c2 v1 (List.mem_cons_self)) ⟨clHs_iff.1 c3,trivial⟩ s2 s3 s1
     refine(fun x=>⟨ctr_nrm x.1,x.2⟩) (closeT_ok (N:=NVl lp σ) (viewV_ok rfl) isS_ok hM hargs oA (fun m c h=>pA m c h) hctA hc)
    ·simp [T.val] at hc
   ·simp [T.val] at h
  ·simp [T.val] at h
 ·simp [T.val] at h
end Go.Proofs.YtcpdipfepeccgaaGreatDoor

namespace Go.Proofs.YtcpdipfepeccgaaGreatDoor
open Go Go.Sx Go.Proofs
set_option maxRecDepth 100000
variable {σ:Sg} {lp:Lp}
structure PkF where
 fit:Int->O->Bool
 kj:VerM->Bool
 gk:VerM->O->Bool
 gv:VerM->O->VerM
 pk:PlotM->Bool
 vl:VerM->PlotM->Bool
 sk:VerM->PlotM->Bool
 sr:VerM->PlotM->Strd
 sv:VerM->PlotM->VerM
 sp:VerM->PlotM->PlotM
def busyV (v:VerM):Bool:=v.doing != 0
def giveG (σ:Sg) (F:PkF) (args:List SV) (l:List AV):T (SV×List AV×List AV):=match args,l with
 | [.v (.c (.ptr 8 0)),a],[.ver v]=>match aOp.dec [a] with
   | some o=>.need (F.kj v) (.ite (busyV v) (.leaf (.v (errV σ ErS),[.ver v],[])) (.ite (!F.fit v.sort o) (.leaf (.v (errV σ ErA),[.ver v],[])) (.need (F.gk v o) (.leaf (.v (.c .inil),[.ver (F.gv v o)],[])))))
   | none=>.fail "Give"
 | _,_=>.fail "Give"
def stepG (σ:Sg) (F:PkF) (args:List SV) (l:List AV):T (SV×List AV×List AV):=match args,l with
 | [.v (.c (.ptr 8 0)),.v (.c (.ptr 9 0))],[.ver v,.plot p] =>
   .ite (!busyV v) (.leaf (.tup [strdE,errV σ ErS],[.ver v,.plot p],[]))
    (.need (F.pk p) (.ite (F.vl v p) (.need (F.sk v p) (.leaf (.tup [strV (F.sr v p),.c .inil],[.ver (F.sv v p),.plot (F.sp v p)],[]))) (.leaf (.tup [strdE,errV σ ErA],[.ver v,.plot p],[]))))
 | _,_=>.fail "Step"
noncomputable def tabPk (σ:Sg) (F:PkF):Tab:=tabAdd 18 (sumG isS mFit (funS aIO vBo (fun _=>none) (fun x=>F.fit x.1 x.2)))
 (tabAdd 19 (sumG isS noM (methS aNo vBo oVer (fun _ _=>none) (fun v _=>(busyV v,v))))
 (tabAdd 20 (sumG isS mGv (giveG σ F)) (tabAdd 21 (sumG isS mSt (stepG σ F)) tab0)))
noncomputable def mPk:List Bool:=mkM 8
noncomputable def mQu:List Bool:=mkM 7
def decP:SV×List AV×List AV->Option (SV×ParM)
 | (v,[.par a],[])=>some (v,a)
 | _=>none
def ptrP:SV:=.v (.c (.ptr 8 0))
def kLit (k:Nat):SV:=.v (.c (.il .i64 (Int.ofNat k)))
noncomputable def runPk (σ:Sg) (F:PkF) (k:Nat) (m:ParM):T (Option (SV×ParM)):=(runP noLp σ (tabPk σ F) 8 mPk 10 [ptrP,kLit k] [parV m]).map decP
noncomputable def runQu (σ:Sg) (F:PkF) (k:Nat) (m:ParM) (o:O):T (Option (SV×ParM)):=(runP noLp σ (tabPk σ F) 7 mQu 10 [ptrP,kLit k,.v (.agg (gsC (O.wr o)))] [parV m]).map decP
end Go.Proofs.YtcpdipfepeccgaaGreatDoor

namespace Go.Proofs.YtcpdipfepeccgaaGreatDoor
open Go Go.Sx Go.Proofs
set_option maxRecDepth 100000
variable {σ:Sg}
def ErF:Nat:=3
def lqB:List (Nat×List O)->Bool
 | []=>true
 | x::r=>match decide (x.1=AV.len (AV.ops x.2)) with | true=>lqB r | false=>false
def lpB (n0:Nat) (ts:List RosM) (nb:Nat) (bs:List Bt):Bool:=match decide (n0=AV.len (rosV ts)) with
 | true=>(match decide (nb=AV.len (AV.beats bs)) with | true=>true | false=>false)
 | false=>false
def hdrT (ts:List RosM):List (Nat×List O):=ts.map fun r=>(AV.len (.ops r.queue),r.queue)
def rosD:RosM:=⟨⟨0,0,⟨clNone,0,noAcc,wNil,wNil,0,[],[],0,0,0,0,h9Nil,⟨false,0,0⟩,[],0,⟨wNil,false⟩⟩,0,clNone,⟨0,0,0,0⟩,none,⟨0,0⟩⟩,[],0,0⟩
section
variable {β:Type} (I:Bool->β->β->β) (N:Bool->β->β)
def fnP (hq:List (Nat×List O)) (n0 nb:Nat) (m:ParM) (t:β):β:=N (lqB hq) (N (lpB n0 m.threads nb m.beats) t)
def fn0 (m:ParM) (t:β):β:=fnP N (hdrT m.threads) (AV.len (rosV m.threads)) (AV.len (.beats m.beats)) m t
def quF (E:Nat->ParM->β) (L:ParM->β) (F:PkF) (k:Nat) (m:ParM) (o:O):β :=
 let t:=m.threads.getD k rosD
 let nq:=AV.len (.ops t.queue)
 let m2:ParM:={m with threads:=m.threads.set k {t with queue:=t.queue++[o],given:=wrap1 t.given}}
 I true (I (!F.fit m.sort o) (fn0 N m (E ErA m)) (N true (I (decide (t.given>=64)) (fn0 N m (E ErF m))
   (N (decide (nq=AV.len (AV.ops t.queue) /\ (nq+1) * (SI.bytes si23+1)<=lim)) (fnP N ((hdrT m.threads).set k (nq+1,t.queue++[o])) (AV.len (rosV m.threads)) (AV.len (.beats m.beats)) m2 (L m2)))))) (fn0 N m (E ErA m))
def pkStep (E:Nat->ParM->β) (L:Bt->ParM->β) (F:PkF) (k:Nat) (m:ParM) (v:VerM) (q:List O) (hq:List (Nat×List O)) (bg:Bool) (o:O) (g l:Int):β :=
 let setT (x:RosM):List RosM:=m.threads.set k x
 let nb:=AV.len (.beats m.beats)
 let n0:=AV.len (rosV m.threads)
 let m1:ParM:={m with threads:=setT ⟨v,q,g,l⟩}
 let err (i:Nat):β:=fnP N hq n0 nb m1 (E i m1)
 let s:=F.sr v m.plot
 let b:Bt:=⟨(k:Int),bg,o.kind,o.key,o.val,o.tall,s.real==0,s.over,s.code,s.val⟩
 let fin (bs:List Bt):β:=N (decide (nb=AV.len (AV.beats bs) /\ (nb+1) * (SI.bytes si41+1)<=lim))
  (let m2:ParM:={m with plot:=F.sp v m.plot,threads:=setT ⟨F.sv v m.plot,q,g,(nb:Int)⟩,beats:=bs++[b]};fnP N hq n0 (nb+1) m2 (L b m2))
 I (!busyV v) (err ErS) (N (F.pk m.plot) (I (F.vl v m.plot) (N (F.sk v m.plot)
   (I (andB (s.real==1) (decide (l>=0))) (N (decide (0<=l /\ l < (nb:Int))) (N (decide (0+l.toNat < m.beats.length)) (fin (m.beats.set (0+l.toNat) {m.beats.getD (0+l.toNat) kbeats.dflt with real:=true})))) (fin m.beats))) (err ErA)))
def pkF (E:Nat->ParM->β) (L:Bt->ParM->β) (F:PkF) (k:Nat) (m:ParM):β :=
 let t:=m.threads.getD k rosD
 let q:=t.queue
 let o:=q.getD 0 kops.dflt
 let nq:=AV.len (.ops q)
 let go:β:=N true (I (!busyV t.ver)
  (N (decide ((0:Int)<=0 /\ (0:Int) < (nq:Int))) (N (decide (0 < q.length)) (N (F.kj t.ver) (I (busyV t.ver) (fn0 N m (E ErS m)) (I (!F.fit t.ver.sort o) (fn0 N m (E ErA m)) (N (F.gk t.ver o)
    (N (decide ((0:Int)<=1 /\ (1:Int)<=(nq:Int) /\ (nq:Int)<=(nq:Int) /\ nq=AV.len (AV.ops q)))
      (pkStep I N E L F k m (F.gv t.ver o) ((q.take ((nq:Int)).toNat).drop 1) ((hdrT m.threads).set k (((nq:Int)).toNat - 1,(q.take ((nq:Int)).toNat).drop 1)) true o t.given t.last))))))))
  (pkStep I N E L F k m t.ver q (hdrT m.threads) false ⟨0,0,0,0⟩ t.given t.last))
 I false (fn0 N m (E ErA m)) (I true (N true (I ((!busyV t.ver)==true) (N true (I ((nq:Int)==0) (fn0 N m (E ErS m)) go)) go)) (fn0 N m (E ErS m)))
end
def btZ:V1:=.agg [.it .i64 0,.bt false,.it .i64 0,.it .i64 0,.it .i64 0,.it .i64 0,.bt false,.bt false,.it .i64 0,.it .i64 0]
def pkE (σ:Sg) (i:Nat) (m:ParM):T (Option (SV×ParM)):=.leaf (some (.tup [btZ,errV σ i],m))
def pkL (b:Bt) (m:ParM):T (Option (SV×ParM)):=.leaf (some (.tup [.agg b.enc,.c .inil],m))
def quE (σ:Sg) (i:Nat) (m:ParM):T (Option (SV×ParM)):=.leaf (some (.v (errV σ i),m))
def quL (m:ParM):T (Option (SV×ParM)):=.leaf (some (.v (.c .inil),m))
noncomputable def runOut (σ:Sg) (F:PkF) (f:FuncId) (M:List Bool) (args:List SV) (m:ParM):T (Option (SV×ParM)):=(runOl noLp σ (tabPk σ F) f M args [parV m] (layG AV.len tPar (ParM.wr m))).map decP
def fstT {α:Type}:T α->Option (Bool×T α)
 | .ite c t _=>some (c,t)
 | _=>none
def sndT {α:Type}:T α->Option (Bool×T α)
 | .ite c _ t=>some (c,t)
 | _=>none
def hasB (n:Nat) (k:Int):Bool:=andB (decide (k>=0)) (decide (k < (n:Int)))
def lpM (m:ParM):Bool:=lpB (AV.len (rosV m.threads)) m.threads (AV.len (.beats m.beats)) m.beats
end Go.Proofs.YtcpdipfepeccgaaGreatDoor

namespace Go.Proofs.YtcpdipfepeccgaaGreatDoor
open Go Go.Sx Go.Proofs
set_option maxRecDepth 100000
variable {σ:Sg} {lp:Lp}
def RelF {γ α:Type} (f:γ->α) (t:T (Option α)) (b:Bool) (x:γ):Prop:=b=true->t.val=some (some (f x))
theorem rel_I {γ α:Type} {f:γ->α} {c:Bool} {t e:T (Option α)} {b b':Bool} {x y:γ} (h1:RelF f t b x) (h2:RelF f e b' y):RelF f (tI c t e) (cond c b b') (cond c x y):=by cases c<;>assumption
theorem rel_N {γ α:Type} {f:γ->α} {c:Bool} {t:T (Option α)} {b:Bool} {x:γ} (h:RelF f t b x):RelF f (tN c t) (c&&b) x:=fun hb=>by
 cases c with
 | true=>exact h hb
 | false=>cases hb
abbrev bN:Bool->Bool->Bool:=fun b t=>b&&t
abbrev cN {β:Type}:Bool->β->β:=fun _ t=>t
noncomputable def pkM:PkF where
 fit:=fitsB
 kj v:=decC (okKj v)
 gk v o:=decC (okGiv v o)
 gv:=giveM
 pk p:=decide p.Ok
 vl v p:=decide (p.valid (nextM v.rite).1)
 sk v p:=decC (okStp v p)
 sr v p:=(stepM v p).1
 sv v p:=(stepM v p).2.1
 sp v p:=(stepM v p).2.2
theorem busyS_ok:FnOk Tryz.prog (NV σ) 19 (sumG isS noM (methS aNo vBo oVer (fun _ _=>none) (fun v _=>(busyV v,v)))) :=
 methS_ok tab0_ok rfl fun v x _=>by
  obtain⟨so,en,ri,dg,cl,op,job,an⟩:=v
  rcases job with _ | ⟨j | j | j | j | j⟩<;>exact⟨tVer,VerM.wr _,rfl,[],rfl,fun _=>rfl,congrArg T.val (by kernel_rfl:_=tN true (.leaf (some (busyV _,_))))⟩
theorem give_eq:giveG σ pkM=giveS σ:=by funext args l;unfold giveG giveS;rfl
theorem stepS_eq:stepG σ pkM=stepS σ:=by funext args l;unfold stepG stepS;rfl
theorem tabPk_ok:TabOk Tryz.prog (NV σ) (tabPk σ pkM):=tabAdd_ok fits_ok (tabAdd_ok busyS_ok (tabAdd_ok (by rw [give_eq];exact give_ok) (tabAdd_ok (by rw [stepS_eq];exact step_ok) tab0_ok)))
def btD:Bt:=⟨0,false,0,0,0,0,false,false,0,0⟩
def pickF (F:PkF) (m:ParM) (k:Nat):(Nat×Bt)×ParM:=pkF cond cN (fun i m=>((i+1,btD),m)) (fun b m=>((0,b),m)) F k m
def okPkF (F:PkF) (m:ParM) (k:Nat):Bool:=pkF cond bN (fun _ _=>true) (fun _ _=>true) F k m
def queueF (F:PkF) (m:ParM) (k:Nat) (o:O):Nat×ParM:=quF cond cN (fun i m=>(i+1,m)) (fun m=>(0,m)) F k m o
def okQuF (F:PkF) (m:ParM) (k:Nat) (o:O):Bool:=quF cond bN (fun _ _=>true) (fun _=>true) F k m o
noncomputable def pickM:ParM->Nat->(Nat×Bt)×ParM:=pickF pkM
noncomputable def okPk:ParM->Nat->Bool:=okPkF pkM
noncomputable def queueM:ParM->Nat->O->Nat×ParM:=queueF pkM
noncomputable def okQu:ParM->Nat->O->Bool:=okQuF pkM
def valPk (σ:Sg):(Nat×Bt)×ParM->SV×ParM
 | ((0,b),m)=>(.tup [.agg b.enc,.c .inil],m)
 | ((i+1,_),m)=>(.tup [btZ,errV σ i],m)
def valQu (σ:Sg):Nat×ParM->SV×ParM
 | (0,m)=>(.v (.c .inil),m)
 | (i+1,m)=>(.v (errV σ i),m)
theorem pk_rel (σ:Sg) (F:PkF) (k:Nat) (m:ParM):RelF (valPk σ) (pkF tI tN (pkE σ) pkL F k m) (okPkF F m k) (pickF F m k):=by
 unfold okPkF pickF pkF pkStep fn0 fnP
 dsimp only
 repeat' first | exact fun _=>rfl | apply rel_N | apply rel_I
theorem qu_rel (σ:Sg) (F:PkF) (k:Nat) (m:ParM) (o:O):RelF (valQu σ) (quF tI tN (quE σ) quL F k m o) (okQuF F m k o) (queueF F m k o):=by
 unfold okQuF queueF quF fn0 fnP
 dsimp only
 repeat' first | exact fun _=>rfl | apply rel_N | apply rel_I
theorem lpM_t (m:ParM):lpM m=true:=by
 unfold lpM lpB
 rw [decide_eq_true rfl,decide_eq_true rfl]
theorem fst_val {α:Type} {t u:T α} {c:Bool} (h:fstT t=some (c,u)) (hc:c=true):t.val=u.val:=by
 cases t with
 | ite b x y=>cases h;subst hc;rfl
 | _=>cases h
theorem snd_val {α:Type} {t u:T α} {c:Bool} (h:sndT t=some (c,u)) (hc:c=false):t.val=u.val:=by
 cases t with
 | ite b x y=>cases h;subst hc;rfl
 | _=>cases h
theorem decP_spec {r:SV×List AV×List AV} {v:SV} {a:ParM} (h:decP r=some (v,a)):r=(v,[.par a],[]):=by
 unfold decP at h
 split at h
 ·cases h;rfl
 ·cases h
theorem kargs_cl {M:List Bool} (hM:8=M.length) {a:AV} {args:List SV} (hf:svsFree args=true):∀x∈ptrP::args,ClV (hpO M [a]) x:=fun x hx=>by
 rcases List.mem_cons.1 hx with rfl | hx
 ·exact ptr_cl hM
 ·exact svsFree_cl hf x hx
theorem par_run {f:FuncId} {M:List Bool} (hM:8=M.length) {args:List SV} (hf:svsFree args=true) {m:ParM} {v:SV} {m':ParM} (h:((runP noLp σ (tabPk σ pkM) f M 10 (ptrP::args) [parV m]).map decP).val=some (some (v,m'))) :
 Ctr Tryz.prog (NV σ) f (ptrP::args) (hpO M [parV m]) v (hpO M [parV m']):=by
 obtain⟨y,h1,h2⟩:=map_some h
 rw [decP_spec h2] at h1
 exact ctr_nv (runP_ok lps0 (tabL tabPk_ok) hM (kargs_cl hM hf) h1).1
theorem par_out {f:FuncId} {M:List Bool} (hM:8=M.length) {args:List SV} (hf:svsFree args=true) {m:ParM} {v:SV} {m':ParM} (h:(runOut σ pkM f M (ptrP::args) m).val=some (some (v,m'))) :
 Ctr Tryz.prog (NV σ) f (ptrP::args) (hpO M [parV m]) v (hpO M [parV m']):=by
 obtain⟨y,h1,h2⟩:=map_some h
 rw [decP_spec h2] at h1
 exact ctr_nv (runQl_ok lps0 (tabL tabPk_ok) hM (a:=parV m) (K:=layG AV.len tPar (ParM.wr m)) ⟨_,rfl⟩ (fun L S w hq=>(q_obj (N:=NVl noLp σ) rfl (by exact rfl) rfl L S w).1 hq) (kargs_cl hM hf) h1).1
theorem k_den {c:Cell} {k:Nat} (h:iOf c=some (k:Int)) (ρ:Nm):SV.den ρ (.v (.c c))=SV.den ρ (kLit k):=by
 show c.den ρ=_
 rw [iOf_den h ρ];rfl
theorem ki_den {c:Cell} {k:Int} (h:iOf c=some k) (ρ:Nm):SV.den ρ (.v (.c c))=SV.den ρ (.v (.c (.it .i64 k))):=by
 show c.den ρ=_
 rw [iOf_den h ρ];rfl
theorem ros_k {P:List RosM->Nat->Prop} {ts:List RosM} {k:Nat} (hn:ts.length<=6) (hk:k < ts.length) (_:∀a,P [a] 0) (_:∀a b,P [a,b] 0) (_:∀a b,P [a,b] 1) (_:∀a b c,P [a,b,c] 0) (_:∀a b c,P [a,b,c] 1) (_:∀a b c,P [a,b,c] 2) (_:∀a b c d,P [a,b,c,d] 0) (_:∀a b c d,P [a,b,c,d] 1) (_:∀a b c d,P [a,b,c,d] 2) (_:∀a b c d,P [a,b,c,d] 3) (_:∀a b c d e,P [a,b,c,d,e] 0) (_:∀a b c d e,P [a,b,c,d,e] 1) (_:∀a b c d e,P [a,b,c,d,e] 2) (_:∀a b c d e,P [a,b,c,d,e] 3) (_:∀a b c d e,P [a,b,c,d,e] 4) (_:∀a b c d e f,P [a,b,c,d,e,f] 0) (_:∀a b c d e f,P [a,b,c,d,e,f] 1) (_:∀a b c d e f,P [a,b,c,d,e,f] 2) (_:∀a b c d e f,P [a,b,c,d,e,f] 3) (_:∀a b c d e f,P [a,b,c,d,e,f] 4) (_:∀a b c d e f,P [a,b,c,d,e,f] 5):P ts k:=by
 rcases ts with _ | ⟨a,_ | ⟨b,_ | ⟨c,_ | ⟨d,_ | ⟨e,_ | ⟨f,_ | ⟨g,ts⟩⟩⟩⟩⟩⟩⟩<;>simp only [List.length_cons,List.length_nil] at hn hk<;>(try omega) <;>
  rcases (by omega:k=0 \/ k=1 \/ k=2 \/ k=3 \/ k=4 \/ k=5) with rfl | rfl | rfl | rfl | rfl | rfl<;>first | omega | solve_by_elim
theorem ros_n {P:List RosM->Prop} {ts:List RosM} (hn:ts.length<=6) (h0:1<=ts.length) (_:∀a,P [a]) (_:∀a b,P [a,b]) (_:∀a b c,P [a,b,c]) (_:∀a b c d,P [a,b,c,d]) (_:∀a b c d e,P [a,b,c,d,e]) (_:∀a b c d e f,P [a,b,c,d,e,f]):P ts:=by
 rcases ts with _ | ⟨a,_ | ⟨b,_ | ⟨c,_ | ⟨d,_ | ⟨e,_ | ⟨f,_ | ⟨g,ts⟩⟩⟩⟩⟩⟩⟩<;>simp only [List.length_cons,List.length_nil] at hn h0<;>first | omega | solve_by_elim
theorem pk_all (σ:Sg) (F:PkF) (m:ParM) (hn:m.threads.length<=6) (k:Nat) (hk:k < m.threads.length):runPk σ F k m=pkF tI tN (pkE σ) pkL F k m:=by
 obtain⟨so,p,ts,bs⟩:=m
 apply ros_k (P:=fun ts k=>runPk σ F k (⟨so,p,ts,bs⟩:ParM)=pkF tI tN (pkE σ) pkL F k (⟨so,p,ts,bs⟩:ParM)) hn hk<;>(intros;as_aux_lemma=>kernel_rfl)
theorem pk_allO (σ:Sg) (F:PkF) (m:ParM) (hn:m.threads.length<=6) (h0:1<=m.threads.length) (k:Int):fstT (runOut σ F 8 mPk [ptrP,.v (.c (.it .i64 k))] m)=some (!(hasB m.threads.length k),tN (lpM m) (pkE σ ErA m)):=by
 obtain⟨so,p,ts,bs⟩:=m
 apply ros_n (P:=fun ts=>fstT (runOut σ F 8 mPk [ptrP,.v (.c (.it .i64 k))] (⟨so,p,ts,bs⟩:ParM))=some (!(hasB ts.length k),tN (lpM (⟨so,p,ts,bs⟩:ParM)) (pkE σ ErA (⟨so,p,ts,bs⟩:ParM)))) hn h0<;>(intros;as_aux_lemma=>kernel_rfl)
theorem qu_all (σ:Sg) (F:PkF) (m:ParM) (o:O) (hn:m.threads.length<=6) (k:Nat) (hk:k < m.threads.length):runQu σ F k m o=quF tI tN (quE σ) quL F k m o:=by
 obtain⟨so,p,ts,bs⟩:=m
 apply ros_k (P:=fun ts k=>runQu σ F k (⟨so,p,ts,bs⟩:ParM) o=quF tI tN (quE σ) quL F k (⟨so,p,ts,bs⟩:ParM) o) hn hk<;>(intros;as_aux_lemma=>kernel_rfl)
theorem qu_allO (σ:Sg) (F:PkF) (m:ParM) (o:O) (hn:m.threads.length<=6) (h0:1<=m.threads.length) (k:Int):sndT (runOut σ F 7 mQu [ptrP,.v (.c (.it .i64 k)),.v (.agg (gsC (O.wr o)))] m)=some ((!(hasB m.threads.length k))==false,tN (lpM m) (quE σ ErA m)):=by
 obtain⟨so,p,ts,bs⟩:=m
 apply ros_n (P:=fun ts=>sndT (runOut σ F 7 mQu [ptrP,.v (.c (.it .i64 k)),.v (.agg (gsC (O.wr o)))] (⟨so,p,ts,bs⟩:ParM))=some ((!(hasB ts.length k))==false,tN (lpM (⟨so,p,ts,bs⟩:ParM)) (quE σ ErA (⟨so,p,ts,bs⟩:ParM)))) hn h0<;>(intros;as_aux_lemma=>kernel_rfl)
theorem hasB_t {n:Nat} {k:Int} (h:hasB n k=true):∃i:Nat,k=(i:Int) /\ i < n:=by
 obtain⟨h1,h2⟩:=andB_s h
 have h1:=of_decide_eq_true h1
 have h2:=of_decide_eq_true h2
 exact⟨k.toNat,by omega,by omega⟩
def okN (m:ParM):Bool:=decide (1<=m.threads.length /\ m.threads.length<=6)
def pickG (σ:Sg) (ok:ParM->Nat->Bool) (pk:ParM->Nat->(Nat×Bt)×ParM) (args:List SV) (l:List AV):T (SV×List AV×List AV):=match args,l with
 | [.v (.c (.ptr 8 0)),.v (.c c)],[.par m]=>match iOf c with
   | some k=>.need (okN m) (.ite (!(hasB m.threads.length k)) (.leaf (.tup [btZ,errV σ ErA],[.par m],[])) (.need (ok m k.toNat)
     (.ite (Nat.beq (pk m k.toNat).1.1 0) (.leaf (.tup [.agg (pk m k.toNat).1.2.enc,.c .inil],[.par (pk m k.toNat).2],[]))
       (.ite (Nat.beq (pk m k.toNat).1.1 (ErS+1)) (.leaf (.tup [btZ,errV σ ErS],[.par (pk m k.toNat).2],[])) (.need (Nat.beq (pk m k.toNat).1.1 (ErA+1)) (.leaf (.tup [btZ,errV σ ErA],[.par (pk m k.toNat).2],[])))))))
   | none=>.fail "Pick"
 | _,_=>.fail "Pick"
def queueG (σ:Sg) (ok:ParM->Nat->O->Bool) (qu:ParM->Nat->O->Nat×ParM) (args:List SV) (l:List AV):T (SV×List AV×List AV):=match args,l with
 | [.v (.c (.ptr 8 0)),.v (.c c),a],[.par m]=>match iOf c,aOp.dec [a] with
   | some k,some o=>.need (okN m) (.ite (!(hasB m.threads.length k)) (.leaf (.v (errV σ ErA),[.par m],[])) (.need (ok m k.toNat o)
     (.ite (Nat.beq (qu m k.toNat o).1 0) (.leaf (.v (.c .inil),[.par (qu m k.toNat o).2],[]))
       (.ite (Nat.beq (qu m k.toNat o).1 (ErF+1)) (.leaf (.v (errV σ ErF),[.par (qu m k.toNat o).2],[])) (.need (Nat.beq (qu m k.toNat o).1 (ErA+1)) (.leaf (.v (errV σ ErA),[.par (qu m k.toNat o).2],[])))))))
   | _,_=>.fail "Queue"
 | _,_=>.fail "Queue"
theorem okN_s {m:ParM} (h:okN m=true):1<=m.threads.length /\ m.threads.length<=6:=of_decide_eq_true h
theorem argK (c:Cell) (k:Nat) (h:iOf c=some (k:Int)) (r:List SV) (ρ:Nm):(ptrP::.v (.c c)::r).map (SV.den ρ)=(ptrP::kLit k::r).map (SV.den ρ):=by
 simp only [List.map_cons,k_den h ρ]
theorem argI (c:Cell) (k:Int) (h:iOf c=some k) (r:List SV) (ρ:Nm):(ptrP::.v (.c c)::r).map (SV.den ρ)=(ptrP::.v (.c (.it .i64 k))::r).map (SV.den ρ):=by
 simp only [List.map_cons,ki_den h ρ]
theorem toNat_k (i:Nat):(i:Int).toNat=i:=rfl
theorem pick_ok:FnOk Tryz.prog (NV σ) 8 (sumG isS mPk (pickG σ okPk pickM)):=by
 refine sumG_ok isS_ok (mkM_len _) fun args l x l' nw h hl hargs=>?_
 unfold pickG at h
 split at h
 ·rename_i c m
  split at h
  ·rename_i k hc
   obtain⟨hn,h⟩:=need_some (h:(T.need _ _).val=_)
   obtain⟨hn1,hn6⟩:=okN_s hn
   have fin:∀{x0:SV} {m0:ParM},Ctr Tryz.prog (NV σ) 8 [ptrP,.v (.c c)] (hpO mPk [parV m]) x0 (hpO mPk [parV m0])->some (x0,[AV.par m0],([]:List AV))=some (x,l',nw)->Ctr Tryz.prog (NV σ) 8 [ptrP,.v (.c c)] (hpO mPk [parV m]) x (hpO mPk (l'++nw)):=fun {x0 m0} h1 h2=>by
    simp only [Option.some.injEq,Prod.mk.injEq] at h2
    obtain⟨rfl,rfl,rfl⟩:=h2
    exact h1
   cases hb:hasB m.threads.length k with
   | false =>
     rw [hb] at h
     refine fin (ctr_args (par_out (args:=[.v (.c (.it .i64 k))]) (mkM_len _) rfl ((fst_val (pk_allO σ pkM m hn6 hn1 k) (by rw [hb];rfl)).trans (nv (lpM_t m)))) fun ρ=>argI c k hc [] ρ) h
   | true =>
     rw [hb] at h
     obtain⟨i,rfl,hi⟩:=hasB_t hb
     obtain⟨hok,h⟩:=need_some (h:(T.need _ _).val=_)
     rw [toNat_k] at hok h
     have hctr:=ctr_args (par_run (args:=[kLit i]) (mkM_len _) rfl ((congrArg T.val (pk_all σ pkM m hn6 i hi)).trans (pk_rel σ pkM i m hok))) fun ρ=>argK c i hc [] ρ
     rw [show pickF pkM m i=pickM m i from rfl] at hctr
     generalize pickM m i=r at h hctr
     obtain⟨⟨e,b⟩,m2⟩:=r
     cases e with
     | zero=>exact fin hctr h
     | succ e =>
       replace h:(T.ite (Nat.beq (e+1) (ErS+1)) _ _).val=_:=h
       cases h1:Nat.beq (e+1) (ErS+1) with
       | true =>
         rw [h1] at h
         have h1:=(beq_iff _ _).1 h1
         cases h1
         exact fin hctr h
       | false =>
         rw [h1] at h
         obtain⟨h2,h⟩:=need_some (h:(T.need _ _).val=_)
         have h2:=(beq_iff _ _).1 h2
         cases h2
         exact fin hctr h
  ·simp [T.val] at h
 ·simp [T.val] at h
theorem queue_ok:FnOk Tryz.prog (NV σ) 7 (sumG isS mQu (queueG σ okQu queueM)):=by
 refine sumG_ok isS_ok (mkM_len _) fun args l x l' nw h hl hargs=>?_
 unfold queueG at h
 split at h
 ·rename_i c a m
  split at h
  ·rename_i k o hc ho
   obtain⟨hn,h⟩:=need_some (h:(T.need _ _).val=_)
   obtain⟨hn1,hn6⟩:=okN_s hn
   have fin:∀{x0:SV} {m0:ParM},Ctr Tryz.prog (NV σ) 7 [ptrP,.v (.c c),.v (.agg (gsC (O.wr o)))] (hpO mQu [parV m]) x0 (hpO mQu [parV m0])->some (x0,[AV.par m0],([]:List AV))=some (x,l',nw)->Ctr Tryz.prog (NV σ) 7 [ptrP,.v (.c c),a] (hpO mQu [parV m]) x (hpO mQu (l'++nw)):=fun {x0 m0} h1 h2=>by
    simp only [Option.some.injEq,Prod.mk.injEq] at h2
    obtain⟨rfl,rfl,rfl⟩:=h2
    exact ctr_args h1 fun ρ=>congrArg (fun z=>SV.den ρ ptrP::SV.den ρ (.v (.c c))::z) (aOp.ok _ _ ho ρ).symm
   cases hb:hasB m.threads.length k with
   | false =>
     rw [hb] at h
     refine fin (ctr_args (par_out (args:=[.v (.c (.it .i64 k)),.v (.agg (gsC (O.wr o)))]) (mkM_len _) rfl ((snd_val (qu_allO σ pkM m o hn6 hn1 k) (by rw [hb];rfl)).trans (nv (lpM_t m)))) fun ρ=>argI c k hc _ ρ) h
   | true =>
     rw [hb] at h
     obtain⟨i,rfl,hi⟩:=hasB_t hb
     obtain⟨hok,h⟩:=need_some (h:(T.need _ _).val=_)
     rw [toNat_k] at hok h
     have hctr:=ctr_args (par_run (args:=[kLit i,.v (.agg (gsC (O.wr o)))]) (mkM_len _) rfl ((congrArg T.val (qu_all σ pkM m o hn6 i hi)).trans (qu_rel σ pkM i m o hok))) fun ρ=>argK c i hc _ ρ
     rw [show queueF pkM m i o=queueM m i o from rfl] at hctr
     generalize queueM m i o=r at h hctr
     obtain⟨e,m2⟩:=r
     cases e with
     | zero=>exact fin hctr h
     | succ e =>
       replace h:(T.ite (Nat.beq (e+1) (ErF+1)) _ _).val=_:=h
       cases h1:Nat.beq (e+1) (ErF+1) with
       | true =>
         rw [h1] at h
         have h1:=(beq_iff _ _).1 h1
         cases h1
         exact fin hctr h
       | false =>
         rw [h1] at h
         obtain⟨h2,h⟩:=need_some (h:(T.need _ _).val=_)
         have h2:=(beq_iff _ _).1 h2
         cases h2
         exact fin hctr h
  ·simp [T.val] at h
 ·simp [T.val] at h
end Go.Proofs.YtcpdipfepeccgaaGreatDoor

namespace Go.Proofs.YtcpdipfepeccgaaGreatDoor
open Go Go.Sx Go.Proofs
set_option maxRecDepth 100000
set_option maxHeartbeats 0
noncomputable def mAw:List Bool:=mkM 5
theorem run_awake (σ:Sg):runN σ tabE 5 mAw [] [] =
 .need (decide (σ ErS=σ ErS)) (.need (decide (σ ErA=σ ErA)) (.need (decide (σ ErA=σ ErA)) (.leaf (.v (.c (.bt true)),[],[])))):=by kernel_rfl
variable {σ:Sg}
theorem treeB_ok {tab:Tab} (ht:TabOk Tryz.prog (NV σ) tab) {f:FuncId} {M:List Bool} (hM:8=M.length) (h:(runN σ tab f M [] []).val=some (.v (.c (.bt true)),[],[])):FnOk Tryz.prog (NV σ) f (sumG isS M treeT):=by
 refine sumG_ok isS_ok hM fun args l v l' nw h' hl hargs=>?_
 unfold treeT at h'
 split at h'
 ·simp only [T.val,Option.some.injEq,Prod.mk.injEq] at h'
  obtain⟨rfl,rfl,rfl⟩:=h'
  exact ctr_val (runN_ok ht hM (fun x hx=>by cases hx) h).1 (fun c hc n hn=>by simp [V1.cells] at hc;subst hc;cases hn) fun ρ=>rfl
 ·simp [T.val] at h'
theorem awake_ok:FnOk Tryz.prog (NV σ) 5 (sumG isS mAw treeT) :=
 treeB_ok tabE_ok (mkM_len _) (by rw [run_awake];simp [T.val])
end Go.Proofs.YtcpdipfepeccgaaGreatDoor

namespace Go.Proofs
open Go Go.Sx Go.Proofs
open Go.Shelf in
def Tryz.cloneBt_ren:Go.Shelf.Ren:=⟨fun | 41=>24 | n=>n,fun | 22=>41 | 23=>37 | 4=>4 | n=>n,fun | n=>n⟩
theorem Tryz.cloneBt:Go.Proofs.SlLaysE0.n41 Tryz.prog Tryz.cloneBt_ren:={
 mixed:=by kernel_rfl
 f41:=⟨Tryz.f24.name,by decide,Tryz.func24.trans (congrArg some (by kernel_rfl))⟩
 t4:=Tryz.underlying4
 a4:=Tryz.isAgg4
 z4:=Tryz.sizeOf4
 v4:=Tryz.zeroValue4
 t22:=Tryz.underlying41
 a22:=Tryz.isAgg41
 z22:=Tryz.sizeOf41
 v22:=Tryz.zeroValue41}
end Go.Proofs
namespace Go.Proofs.YtcpdipfepeccgaaGreatDoor
open Go Go.Sx Go.Proofs Go.RowKit
theorem hpO_at (M:List Bool) (l:List AV) (j:Nat) (a:AV) (h:l[j]?=some a):hget (hpO M l) (M.length+j)=some (.abs a):=by
 unfold hpO
 rw [hget_append,sentL_len,if_neg (by omega),show M.length+j - M.length=j by omega]
 exact(absL_get _ _ _).2 ⟨a,h,rfl⟩
def CloneC (f:FuncId) (es:Nat) (ty:TypeId):Prop :=
 (∀(n c:Nat) (w:World),Calls Tryz.prog f #[.slice none n c] w fun e w'=>e=.returned (.slice none 0 0) /\ w'=w) /\
 ∀(b off n c:Nat) (news:List Value) (w:World),news.length=n * es->n<=1000000->(∀j u,news[j]?=some u->w.cell? ⟨b,off+j,none⟩=some u)->(∀u∈news,u.oneCell'=true) ->
   Calls Tryz.prog f #[.slice (some ⟨b,off,none⟩) n c] w fun e w'=>∃v',e=.returned v' /\ w'.ownsRow w.heap.size ty es v' n news /\ v'≠.slice none 0 0 /\ Below w.heap.size w w'
def cloneS (ok:AV->Bool) (es:Nat) (args:List SV) (l:List AV):T (SV×List AV×List AV):=match args,l with
 | [.v (.c (.vs n 0 len e false))],[a]=>match Nat.beq n 8,Nat.beq e es,ok a with
   | true,true,true=>.need (decide (len=a.len /\ len<=1000000)) (.leaf (.v (.c (.vs (8+1) 0 len es false)),[a],[a]))
   | _,_,_=>.fail "copy"
 | _,_=>.fail "copy"
theorem cloneS_ok {σ:Sg} {f:FuncId} {es:Nat} {ty:TypeId} (hc:CloneC f es ty) {ok:AV->Bool} (hok:∀a,ok a=true->∃vs,a.arr=some (es,ty,vs)):FnOk Tryz.prog (NV σ) f (sumG isS noM (cloneS ok es)):=by
 refine sumG_ok isS_ok rfl fun args l v l' nw h hl hargs=>?_
 unfold cloneS at h
 split at h
 ·rename_i n len e a
  split at h
  ·rename_i h1 h2 h3
   have hn:=(beq_iff _ _).1 h1
   have he:=(beq_iff _ _).1 h2
   subst hn he
   replace h:=need_some h
   obtain⟨hb,h⟩:=h
   have hb:=of_decide_eq_true hb
   simp only [T.val,Option.some.injEq,Prod.mk.injEq] at h
   obtain⟨rfl,rfl,rfl⟩:=h
   obtain⟨vs,harr⟩:=hok a h3
   have hF:(NV σ).F.arr a=some (e,ty,vs):=harr
   have hlen:=(NV σ).F.len_ok a _ _ _ hF
   have hla:(NV σ).F.len a=len:=hb.1.symm
   rw [hla] at hlen
   have h7:hget (hpO noM [a]) 8=some (.abs a):=hpO_at noM [a] 0 _ rfl
   have h8:hget (hpO noM [a,a]) (8+1)=some (.abs a):=hpO_at noM [a,a] 1 _ rfl
   refine⟨?_,hpO_cl noM [a,a],fun ρ w hO=>?_⟩
   ·intro c hcc
    simp [V1.cells] at hcc
    subst hcc
    intro m hm
    cases hm
    exact⟨_,h8⟩
   ·obtain⟨hone,hq⟩:=(NV σ).F.arr_q a _ _ _ hF
    have hv:=(hq _ _ _).1 (hO.q 8 _ h7)
    have fin:∀(w':World) (lc:Sx.Loc) (S':Nat->Prop),vecQ lc S' vs e ty w'->Fr (fun _=>False) S' w w'->∃ρ',vsDen lc 0 len e=(SV.v (.c (.vs (8+1) 0 len e false))).den ρ' /\ Own (NV σ) ρ' (hpO noM [a,a]) w' /\ Evo (NV σ) (hpO noM [a]).length ρ (hpO noM [a]) w ρ' (hpO noM [a,a]) w':=by
     intro w' lc S' g1 g2
     obtain⟨o1,o2⟩:=arr_swap (N:=NV σ) hO (hpO_cl noM [a]) (by show 8<=_;exact Nat.le_succ _) (d:=none) (fun n h=>by cases h) hF (S:=fun _=>False) (fun k h=>h.elim) g1 g2
     refine⟨_,?_,o1,o2⟩
     show _=vsDen ((ρ.set (8+1) lc S').L (8+1)) 0 len e
     rw [(set_L _ _ _ _).1]
    show Calls Tryz.prog f #[vsDen (ρ.L 8) 0 len e] w _
    rw [vsDen_eq]
    by_cases hn:len=0 /\ (ρ.L 8).c=0
    ·rw [if_pos hn]
     refine(hc.1 0 0 w).mono ?_
     rintro ex w' ⟨rfl,rfl⟩
     have hvs:vs=[]:=List.eq_nil_of_length_eq_zero (by rw [hlen,hn.1,Nat.zero_mul])
     obtain⟨ρ',r1,r2,r3⟩:=fin w' ⟨0,0,0⟩ (fun _=>False) (.inl ⟨Nat.zero_le _,hvs,fun _ h=>h⟩) ⟨fun _ _ _=>rfl,fun k h=>h.elim,rfl,rfl,rfl,Nat.le_refl _⟩
     refine⟨ρ',?_,r2,r3⟩
     rw [<- r1,vsDen_eq,if_pos ⟨hn.1,rfl⟩]
    ·rw [if_neg hn]
     refine(hc.2 _ _ len _ vs w hlen hb.2 (fun j u hu=>?_) hone).mono ?_
     ·have:=vecQ_at hv j u hu
      have ea:(⟨(ρ.L 8).b,(ρ.L 8).o,none⟩:Addr).add j=⟨(ρ.L 8).b,(ρ.L 8).o+j,none⟩:=by unfold Addr.add;split<;>simp_all
      rw [ea] at this
      exact this
     ·rintro ex w' ⟨v',rfl,⟨_,hown⟩,hne,hbl⟩
      rcases hown with⟨h0,_⟩ | ⟨g,cap,cur,rfl,hg,hh,hle,_,hcs,htk⟩
      ·exact absurd h0 hne
      ·obtain⟨ρ',r1,r2,r3⟩:=fin w' ⟨g,0,cap+1⟩ (fun k=>k=g) (.inr ⟨Nat.succ_pos _,fun k=>Iff.rfl,cur.toList,by rw [Array.toArray_toList];exact hh,by simp [hcs],by rw [hlen];exact Nat.mul_le_mul_right _ (by simpa using hle),fun j u hu=>by
        rw [<- htk,List.getElem?_take] at hu
        split at hu
        ·simpa using hu
        ·cases hu⟩)
        ⟨fun k hk _=>hbl.block k hk,fun k hk=>.inl (by rw [hk];exact hg),hbl.os,hbl.tape,hbl.output,hbl.size⟩
       refine⟨ρ',?_,r2,r3⟩
       rw [<- r1,vsDen_eq,if_neg (fun h=>by cases h.2)]
       rfl
  ·simp [T.val] at h
 ·simp [T.val] at h
theorem cloneC_of {f:FuncId} {rn:Go.Shelf.Ren} (L:SlLaysE0.n41 Tryz.prog rn) (hf:rn.f 41=f) {t:TypeId} {si:SI} (hs:slT.get t=some si) (ht:rn.t 23=si.e) (hb:si.bytes<=1000):CloneC f si.size si.e:=by
 subst hf
 obtain⟨hu,i,z,hi,hz,e1,e2,hpos,hzl,hzd,hzn⟩:=mkSI_spec (slOk t si hs)
 have hzs:z.cells.size=si.size:=by
  have:=congrArg List.length (hzd Nm.id)
  rw [den_len] at this
  simp at this
  omega
 refine⟨fun n c w=>AnyE.slices_Clone_nil L n c w,fun b off n c news w hl hn hc h1=>?_⟩
 have h:=AnyE.slices_Clone L i z si.size si.bytes (by rw [ht];exact hi) hz e1 e2 hzs hpos (fun w=>by rw [ht];simp [Go.sizeOf,typeInfo,hi,e1]) b off n c news w hl (by simp only [maxLen];omega) (by
  have:n * si.bytes<=1000000 * 1000:=Nat.mul_le_mul hn hb
  omega) hc h1
 rw [ht] at h
 exact h
theorem cloneBt_c:CloneC 24 10 37:=cloneC_of (t:=41) (si:=si41) Tryz.cloneBt rfl (by kernel_rfl) rfl (by decide)
def okBt:AV->Bool | .beats _=>true | _=>false
theorem cloneBt_ok {σ:Sg}:FnOk Tryz.prog (NV σ) 24 (sumG isS noM (cloneS okBt 10)):=cloneS_ok cloneBt_c fun a ha=>by cases a<;>first | (cases ha;done) | exact⟨_,rfl⟩
end Go.Proofs.YtcpdipfepeccgaaGreatDoor
