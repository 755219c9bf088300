import Derived.Test.YtadmfaohjnjajaaGreatDoorRr
import Derived.Test.YtadmfaohjnjajaaGreatDoorPb
set_option linter.unusedVariables false
set_option linter.unusedSimpArgs false
set_option maxHeartbeats 4000000
namespace Go.Proofs.YtadmfaohjnjajaaGreatDoor
section
open Go Go.Sx Go.Proofs
set_option maxRecDepth 100000
variable {σ:Sg} {lp:Lp}
noncomputable def JobM.next:JobM->Rp1->Cl×JobM
 | .pile j,x=>((jv j x).1,.pile (jv j x).2)
 | .cort j,x=>((iy j x).1,.cort (iy j x).2)
 | .lit j,x=>((bj j x).1,.lit (bj j x).2)
 | .vau j,x=>((aF j x).1,.vau (aF j x).2)
 | .ste j,x=>((ax j x).1,.ste (ax j x).2)
def JobM.ok:JobM->Bool
 | .vau j=>Il j
 | .ste j=>CI j
 | _=>true
def tLf (r:Ex×VerM):T (Ex×VerM):=.leaf r
noncomputable def bW (v:VerM):T (Ex×VerM):=dI tI tLf v (match v.job with | none=>.fail "no job" | some j=>tN j.ok (eC tI tN tLf adF v (j.next v.rite.reply)))
theorem kU {v:VerM} {nx:Cl×JobM} {r:Ex×VerM} (h:(eC tI tN tLf adF v nx).val=some r):(eC tI tN tF adF v nx).val=some (r.1,qD r.2):=by
 unfold eC at h ⊢
 cases hk:nx.1.kind != 12 with
 | true =>
   rw [hk] at h
   have h:(T.need (adF.okb v.rite nx.1) (tLf _)).val=some r:=h
   show (T.need (adF.okb v.rite nx.1) (tF _)).val=_
   obtain⟨h1,h2⟩:=aj h
   rw [nv h1]
   simp only [tLf,T.val,Option.some.injEq] at h2
   subst h2;rfl
 | false =>
   rw [hk] at h
   have h:(T.need (adF.okb v.rite fC) (tLf _)).val=some r:=h
   show (T.need (adF.okb v.rite fC) (tF _)).val=_
   obtain⟨h1,h2⟩:=aj h
   rw [nv h1]
   simp only [tLf,T.val,Option.some.injEq] at h2
   subst h2;rfl
theorem gX {v:VerM} {c1:T (Ex×VerM)} {c2:T (Ex×St AV)} {r:Ex×VerM} (hc:∀r,c1.val=some r->c2.val=some (r.1,qD r.2)) (h:(dI tI tLf v c1).val=some r):(dI tI tF v c2).val=some (r.1,qD r.2):=by
 have lf:∀{x r:Ex×VerM},(tLf x).val=some r->(tF x).val=some (r.1,qD r.2):=fun {x r} h=>by
  simp only [tLf,T.val,Option.some.injEq] at h
  subst h;rfl
 unfold dI at h ⊢
 cases h1:((v.doing != 0)==true) with
 | false=>rw [h1] at h;exact lf h
 | true =>
   rw [h1] at h
   cases h2:!fZ v.rite with
   | false=>rw [h2] at h;exact lf h
   | true =>
     rw [h2] at h
     cases h3:v.doing==1 with
     | true=>rw [h3] at h;exact hc r h
     | false =>
       rw [h3] at h
       cases h4:v.doing==2 with
       | true=>rw [h4] at h;exact hc r h
       | false=>rw [h4] at h;exact lf h
theorem Uk (σ:Sg) (v:VerM) (r:Ex×VerM) (h:(bW v).val=some r):∃s1,Rnd Tryz.prog (NV σ) 52 LA (qD v) r.1 s1 /\ ∃π,Back (NV σ) (hpV v).length 52 s1 (qD r.2) π:=by
 have hcal:dM Tryz.prog (NV σ) (aN (lv (NV σ) (uv adF) 5)):=bK (iH okV oq hvV JT 5)
 have hlp:FE Tryz.prog (NV σ) 52 LA (fun _=>none):=fun _ _ _ g hg=>by cases hg
 have noPkOk:∀d a,cP d=some a->∀π,Lesser (NV σ) (d.ren π) (.abs a):=fun d a h=>by cases h
 obtain⟨so,en,ri,dg,cl,op,job,an⟩:=v
 cases job with
 | none=>exact ma okV hcal hlp noPkOk (by show 7<=9;decide) ((congrArg T.val (Qz σ adF ⟨so,en,ri,dg,cl,op,none,an⟩)).trans (gX (c2:=Rj) (fun r h=>by cases h) h))
 | some j =>
   cases j with
   | pile j=>exact ma okV hcal hlp noPkOk (by show 7<=10;decide) ((congrArg T.val (Qy σ adF ⟨so,en,ri,dg,cl,op,none,an⟩ j)).trans (gX (fun r h=>kU (aj h).2) h))
   | cort j=>exact ma okV hcal hlp noPkOk (by show 7<=10;decide) ((congrArg T.val (QA σ adF ⟨so,en,ri,dg,cl,op,none,an⟩ j)).trans (gX (fun r h=>kU (aj h).2) h))
   | lit j=>exact ma okV hcal hlp noPkOk (by show 7<=10;decide) ((congrArg T.val (Ul σ adF ⟨so,en,ri,dg,cl,op,none,an⟩ j)).trans (gX (fun r h=>kU (aj h).2) h))
   | vau j=>exact ma okV hcal hlp noPkOk (by show 7<=10;decide) ((congrArg T.val (Ui σ adF ⟨so,en,ri,dg,cl,op,none,an⟩ j)).trans (gX (fun r h=>by obtain⟨hb,h⟩:=aj h;exact(nv hb).trans (kU h)) h))
   | ste j=>exact ma okV hcal hlp noPkOk (by show 7<=10;decide) ((congrArg T.val (Uj σ adF ⟨so,en,ri,dg,cl,op,none,an⟩ j)).trans (gX (fun r h=>by obtain⟨hb,h⟩:=aj h;exact(nv hb).trans (kU h)) h))
def bF (v:VerM):Nat:=match v.job with | none=>0 | some (.pile _)=>1 | some (.cort _)=>2 | some (.lit _)=>3 | some (.vau _)=>4 | some (.ste _)=>5
theorem BB (v:VerM):(hpV v).length=match bF v with | 0=>9 | _=>10:=by
 obtain⟨so,en,ri,dg,cl,op,job,an⟩:=v
 cases job with
 | none=>rfl
 | some j=>cases j<;>rfl
theorem zx (j:JobM) (x:Rp1) (v:VerM):bF {v with job:=some (j.next x).2}=bF {v with job:=some j}:=by cases j<;>rfl
theorem oU {v:VerM} {r:Ex×VerM} (h:(bW v).val=some r):bF r.2=bF v:=by
 unfold bW dI at h
 have lf:∀{x r:Ex×VerM},bF x.2=bF v->(tLf x).val=some r->bF r.2=bF v:=fun {x r} hx h=>by
  simp only [tLf,T.val,Option.some.injEq] at h
  subst h;exact hx
 have hc:∀r,(match v.job with | none=>T.fail "no job" | some j=>tN j.ok (eC tI tN tLf adF v (j.next v.rite.reply))).val=some r->bF r.2=bF v:=fun r h=>by
  split at h
  ·cases h
  ·rename_i j hj
   obtain⟨_,h⟩:=aj h
   have hv:bF {v with job:=some (j.next v.rite.reply).2}=bF v:=(zx j _ v).trans (by rw [<- hj])
   unfold eC at h
   cases hk:(j.next v.rite.reply).1.kind != 12 with
   | true =>
     rw [hk] at h
     obtain⟨_,h⟩:=aj (h:(T.need _ (tLf _)).val=some r)
     exact lf hv h
   | false =>
     rw [hk] at h
     obtain⟨_,h⟩:=aj (h:(T.need _ (tLf _)).val=some r)
     exact lf hv h
 cases h1:((v.doing != 0)==true) with
 | false=>rw [h1] at h;exact lf rfl h
 | true =>
   rw [h1] at h
   cases h2:!fZ v.rite with
   | false=>rw [h2] at h;exact lf rfl h
   | true =>
     rw [h2] at h
     cases h3:v.doing==1 with
     | true=>rw [h3] at h;exact hc r h
     | false =>
       rw [h3] at h
       cases h4:v.doing==2 with
       | true=>rw [h4] at h;exact hc r h
       | false=>rw [h4] at h;exact lf rfl h
noncomputable def Kc (k:Nat) (v:VerM):T (Ex×VerM):=.need (decide (bF v=k)) (bW v)
theorem zN {k0:Nat} {e:Ex} {v':VerM}:∀(k:Nat) (v:VerM),bF v=k0->dj bW k v=some (e,v')->dj (Kc k0) k v=some (e,v')
 | 0,v,_,h=>by cases h
 | k+1,v,hv,h=>by
   have e:(Kc k0 v).val=(bW v).val:=nv (decide_eq_true hv)
   cases hs:(bW v).val with
   | none=>simp only [dj,hs] at h;cases h
   | some r =>
     obtain⟨x,m⟩:=r
     cases x with
     | normal =>
       simp only [dj,hs] at h
       simp only [dj,e,hs]
       exact zN k m ((oU hs).trans hv) h
     | exit i =>
       simp only [dj,hs] at h
       simp only [dj,e,hs]
       exact h
     | ret =>
       simp only [dj,hs] at h
       simp only [dj,e,hs]
       exact h
theorem tO {e:Ex} {v':VerM}:∀(k:Nat) (v:VerM),dj bW k v=some (e,v')->bF v'=bF v
 | 0,v,h=>by cases h
 | k+1,v,h=>by
   simp only [dj] at h
   split at h
   ·rename_i m hs
    exact(tO k m h).trans (oU hs)
   ·rename_i hs;cases h;exact oU hs
   ·rename_i hs;cases h;exact oU hs
   ·cases h
def Yc (v:VerM) (s:St AV):Prop:=Sx.look s.E 0=.v (.c (.ptr 7 2)) /\ s.H=hpV v
noncomputable def gA (v v':VerM) (s:St AV):T (Ex×St AV):=.need (fO (Yc v s)) (.leaf (.exit 0,qD v'))
theorem WW {N':Env AV} (hF:N'.F=(NV σ).F) (hG:N'.G=(NV σ).G) (v v':VerM) (k:Nat) (hk:dj bW k v=some (.exit 0,v')):dG Tryz.prog N' 52 LA (gA v v'):=by
 refine xy (N:=NV σ) hF hG fun s s' ex hgs=>?_
 obtain⟨E1,H1⟩:=s
 unfold gA at hgs
 replace hgs:=aj hgs
 obtain⟨hb,hgs⟩:=hgs
 obtain⟨e0,eH⟩:=eU hb
 simp only at e0 eH
 subst eH
 simp only [T.val,Option.some.injEq,Prod.mk.injEq] at hgs
 obtain⟨rfl,rfl⟩:=hgs
 refine⟨{M:=VerM,fam:=qD,step:=Kc (bF v),L:=(hpV v).length,len:=rfl,hGL:=(by rw [BB];show 7<=_;split<;>omega),run:=fun m r hr=>?_,m:=v,k:=k,m':=v',ent:=?_,it:=zN k v rfl hk,fin:=rfl}⟩
 ·obtain⟨hb,hr⟩:=aj hr
  have hb:=of_decide_eq_true hb
  obtain⟨s1,h1,h2⟩:=Uk σ m r hr
  rw [BB,hb,<- BB] at h2
  exact⟨s1,h1,h2⟩
 ·refine mz (N:=NV σ) (nt:=52) (E:=E1) (ks:=ksA) (E':=[(0,.v (.c (.ptr 7 2)))]) fun k hk=>?_
  simp only [ksA,List.mem_cons,List.not_mem_nil,or_false] at hk
  subst hk
  exact .inl e0.symm
noncomputable def lpA (v v':VerM):Lp:=gT 29 0 (gA v v') fJ
theorem X2 (v v':VerM) (k:Nat) (hk:dj bW k v=some (.exit 0,v')):cV Tryz.prog (NVl (lpA v v') σ) :=
 gJ jM (fn:=Tryz.f29) (by kernel_rfl) (c:=cB Tryz.f29) (by kernel_rfl) (nt:=52) (by kernel_rfl) (b:=LA) (br (by kernel_rfl)) (WW (σ:=σ) (N':=NVl fJ σ) rfl rfl v v' k hk)
noncomputable def uy (lp:Lp) (σ:Sg) (tab:Tab) (f:FuncId) (M:List Bool) (off:Nat) (args:List SV) (a:AV) (ty:TypeId) (gs:Gs):T (SV×List AV×List AV) :=
 wI lp σ tab f M (.v (.c (.ptr 7 off))::args) [a] (dw AV.len ty gs)
theorem O2 {M:List Bool} {a:AV} {l:List AV} {off:Nat} (hM:7=M.length):ClV (hpO M (a::l)) (.v (.c (.ptr 7 off))):=by
 intro c hc n hn
 have hc:c∈[Cell.ptr 7 off]:=hc
 rw [List.mem_singleton.1 hc] at hn
 cases hn
 refine⟨.abs a,?_⟩
 unfold hpO
 rw [aH,dv,if_neg (by omega),hM,Nat.sub_self]
 rfl
theorem KK {lp:Lp} (hlp:cV Tryz.prog (NVl lp σ)) {tab:Tab} (ht:bO Tryz.prog (NV σ) tab) {f:FuncId} {M:List Bool} (hM:7=M.length) {off:Nat} {args:List SV} (hf:fy args=true) {a:AV} {ty:TypeId} {gs:Gs} (ho:a.okD=true) (hl:j5 σ a=some (dw AV.len ty (eO gs))) {v:SV} {l' nw:List AV}
 (h:(uy lp σ tab f M off args a ty gs).val=some (v,l',nw)):Ctr Tryz.prog (NV σ) f (.v (.c (.ptr 7 off))::args) (hpO M [a]) v (hpO M (l'++nw)) :=
 oG (rq hlp (wh ht) hM (a:=a) (K:=dw AV.len ty gs) ⟨_,rfl⟩ (fun L S w hq=>rD ((nU (N:=NVl lp σ) rfl hl ho L S w).1 hq)) (fun x hx=>by
  rcases List.mem_cons.1 hx with rfl | hx
  ·exact O2 hM
  ·exact cW hf x hx) h).1
def CU {γ α:Type} (off:Nat) (A:ArgK γ) (O:ObK α) (ok:α->γ->Option Bool) (next:α->γ->SV×α×List AV) (args:List SV) (l:List AV):T (SV×List AV×List AV):=match args,l with
 | .v (.c (.ptr 7 o))::r,[a]=>match Nat.beq o off,A.dec r,O.X a with
   | true,some x,some j=>xj (ok j x) (.leaf ((next j x).1,[O.V (next j x).2.1],(next j x).2.2))
   | _,_,_=>.fail "method"
 | _,_=>.fail "method"
theorem CT {f:FuncId} {M:List Bool} (hM:7=M.length) {γ α:Type} {off:Nat} {A:ArgK γ} {O:ObK α} {ok:α->γ->Option Bool} {next:α->γ->SV×α×List AV}
 (hrun:∀j x,okO (ok j x)=true->Ctr Tryz.prog (NV σ) f (.v (.c (.ptr 7 off))::A.enc x) (hpO M [O.V j]) (next j x).1 (hpO M (O.V (next j x).2.1::(next j x).2.2))):FnOk Tryz.prog (NV σ) f (aZ isS M (CU off A O ok next)):=by
 refine dQ bR hM fun args l v l' nw h hl hargs=>?_
 unfold CU at h
 split at h
 ·rename_i o r a
  split at h
  ·rename_i x j ho hx hj
   have ho:=(ai _ _).1 ho
   subst ho
   replace h:=fL h
   obtain⟨hok,h⟩:=h
   simp only [T.val,Option.some.injEq,Prod.mk.injEq] at h
   obtain⟨rfl,rfl,rfl⟩:=h
   have ea:=O.ok _ _ hj
   subst ea
   exact eX (hrun j x hok) fun ρ=>by
    simp only [List.map_cons]
    rw [A.ok _ _ hx ρ]
  ·simp [T.val] at h
 ·simp [T.val] at h
def ye (v:VerM):Prop:=SV.v (.c (.ptr 7 2))=.v (.c (.ptr 7 2)) /\ hpV v=hpV v
theorem pn (v:VerM):fO (ye v)=true:=fN ⟨rfl,rfl⟩
theorem NP (σ:Sg) (v v':VerM) (j j':PileM):uy (lpA {v with job:=some (.pile j)} {v' with job:=some (.pile j')}) σ bm 29 noM 2 [] (eJ {v with job:=some (.pile j)}) lW (VerM.wr {v with job:=some (.pile j)}) =
 .need (fO (ye {v with job:=some (.pile j)})) (.need true (.leaf (.tup [],[eJ {v' with job:=some (.pile j')}],[]))):=by kernel_rfl
theorem NR (σ:Sg) (v v':VerM) (j j':CortM):uy (lpA {v with job:=some (.cort j)} {v' with job:=some (.cort j')}) σ bm 29 noM 2 [] (eJ {v with job:=some (.cort j)}) lW (VerM.wr {v with job:=some (.cort j)}) =
 .need (fO (ye {v with job:=some (.cort j)})) (.need true (.leaf (.tup [],[eJ {v' with job:=some (.cort j')}],[]))):=by kernel_rfl
theorem QD (σ:Sg) (v v':VerM) (j j':LitM):uy (lpA {v with job:=some (.lit j)} {v' with job:=some (.lit j')}) σ bm 29 noM 2 [] (eJ {v with job:=some (.lit j)}) lW (VerM.wr {v with job:=some (.lit j)}) =
 .need (fO (ye {v with job:=some (.lit j)})) (.need true (.leaf (.tup [],[eJ {v' with job:=some (.lit j')}],[]))):=by kernel_rfl
theorem QB (σ:Sg) (v v':VerM) (j j':VauM):uy (lpA {v with job:=some (.vau j)} {v' with job:=some (.vau j')}) σ bm 29 noM 2 [] (eJ {v with job:=some (.vau j)}) lW (VerM.wr {v with job:=some (.vau j)}) =
 .need (fO (ye {v with job:=some (.vau j)})) (.need true (.leaf (.tup [],[eJ {v' with job:=some (.vau j')}],[]))):=by kernel_rfl
theorem QC (σ:Sg) (v v':VerM) (j j':SteM):uy (lpA {v with job:=some (.ste j)} {v' with job:=some (.ste j')}) σ bm 29 noM 2 [] (eJ {v with job:=some (.ste j)}) lW (VerM.wr {v with job:=some (.ste j)}) =
 .need (fO (ye {v with job:=some (.ste j)})) (.need true (.leaf (.tup [],[eJ {v' with job:=some (.ste j')}],[]))):=by kernel_rfl
theorem NQ (σ:Sg) (v v':VerM):uy (lpA {v with job:=none} {v' with job:=none}) σ bm 29 noM 2 [] (eJ {v with job:=none}) lW (VerM.wr {v with job:=none}) =
 .need (fO (ye {v with job:=none})) (.need true (.leaf (.tup [],[eJ {v' with job:=none}],[]))):=by kernel_rfl
def uL:Nat:=16
noncomputable def Ug (v:VerM):Option (Ex×VerM):=dj bW uL v
noncomputable def g6 (v:VerM):VerM:=match Ug v with | some (_,v')=>v' | none=>v
noncomputable def pN (v:VerM):Bool:=match Ug v with | some (.exit 0,_)=>true | _=>false
theorem o7 {v:VerM} (h:pN v=true):dj bW uL v=some (.exit 0,g6 v):=by
 unfold pN at h
 split at h
 ·rename_i v' hv
  unfold g6
  rw [hv]
  exact hv
 ·cases h
theorem Hg (σ:Sg) (v:VerM) (h:pN v=true):Ctr Tryz.prog (NV σ) 29 [.v (.c (.ptr 7 2))] (hpO noM [eJ v]) (.tup []) (hpO noM [eJ (g6 v)]):=by
 have hk:=o7 h
 have hkind:=tO uL v hk
 generalize g6 v=v' at hk hkind
 have fin:∀(gs:Gs),j5 σ (eJ v)=some (dw AV.len lW (eO gs))->(uy (lpA v v') σ bm 29 noM 2 [] (eJ v) lW gs).val=some (.tup [],[eJ v'],[])->_:=fun gs hl hr=>KK (M:=noM) (off:=2) (X2 v v' uL hk) aJ rfl (args:=[]) rfl (a:=eJ v) rfl hl hr
 obtain⟨so,en,ri,dg,cl,op,job,an⟩:=v
 obtain⟨so',en',ri',dg',cl',op',job',an'⟩:=v'
 cases job with
 | none =>
   cases job' with
   | none=>exact fin (VerM.wr ⟨so,en,ri,dg,cl,op,none,an⟩) rfl ((congrArg T.val (NQ σ ⟨so,en,ri,dg,cl,op,none,an⟩ ⟨so',en',ri',dg',cl',op',none,an'⟩)).trans (nv (pn _)))
   | some j'=>cases j'<;>cases hkind
 | some j =>
   cases j with
   | pile j =>
     cases job' with
     | none=>cases hkind
     | some j' =>
       cases j' with
       | pile j'=>exact fin (VerM.wr ⟨so,en,ri,dg,cl,op,some (.pile j),an⟩) rfl ((congrArg T.val (NP σ ⟨so,en,ri,dg,cl,op,none,an⟩ ⟨so',en',ri',dg',cl',op',none,an'⟩ j j')).trans (nv (pn _)))
       | _=>cases hkind
   | cort j =>
     cases job' with
     | none=>cases hkind
     | some j' =>
       cases j' with
       | cort j'=>exact fin (VerM.wr ⟨so,en,ri,dg,cl,op,some (.cort j),an⟩) rfl ((congrArg T.val (NR σ ⟨so,en,ri,dg,cl,op,none,an⟩ ⟨so',en',ri',dg',cl',op',none,an'⟩ j j')).trans (nv (pn _)))
       | _=>cases hkind
   | lit j =>
     cases job' with
     | none=>cases hkind
     | some j' =>
       cases j' with
       | lit j'=>exact fin (VerM.wr ⟨so,en,ri,dg,cl,op,some (.lit j),an⟩) rfl ((congrArg T.val (QD σ ⟨so,en,ri,dg,cl,op,none,an⟩ ⟨so',en',ri',dg',cl',op',none,an'⟩ j j')).trans (nv (pn _)))
       | _=>cases hkind
   | vau j =>
     cases job' with
     | none=>cases hkind
     | some j' =>
       cases j' with
       | vau j'=>exact fin (VerM.wr ⟨so,en,ri,dg,cl,op,some (.vau j),an⟩) rfl ((congrArg T.val (QB σ ⟨so,en,ri,dg,cl,op,none,an⟩ ⟨so',en',ri',dg',cl',op',none,an'⟩ j j')).trans (nv (pn _)))
       | _=>cases hkind
   | ste j =>
     cases job' with
     | none=>cases hkind
     | some j' =>
       cases j' with
       | ste j'=>exact fin (VerM.wr ⟨so,en,ri,dg,cl,op,some (.ste j),an⟩) rfl ((congrArg T.val (QC σ ⟨so,en,ri,dg,cl,op,none,an⟩ ⟨so',en',ri',dg',cl',op',none,an'⟩ j j')).trans (nv (pn _)))
       | _=>cases hkind
end
section
open Go Go.Sx Go.Proofs
set_option maxRecDepth 100000
variable {σ:Sg} {lp:Lp}
def aOp:ArgK O where
 enc c:=[.v (.agg (gsC (O.wr c)))]
 dec:=fun | [.v (.agg cs)]=>(match O.rd ((u0 cs).map .p) with | some (c,[])=>some c | _=>none) | _=>none
 ok:=fun l a h ρ=>by
  split at h
  ·split at h
   ·rename_i hc
    cases h
    have:=O.rd_s hc
    rw [List.append_nil] at this
    rw [<- this,lF]
    simp only [List.map_cons,List.map_nil,SV.den,V1.den,oc]
   ·cases h
  ·cases h
 free:=fun _=>rfl
section
variable {β:Type} (I:Bool->β->β->β) (ok bad nilp:β)
def UG (o:O):Bool:=match (o.kind==o.kind&&(o.key==0&&(o.val==o.val&&o.tall==0)))==true with | true=>(match decide (0<=o.val)==true with | true=>decide (o.val<=1073741824) | false=>false) | false=>false
def NA (o:O):Bool:=o.kind==o.kind&&(o.key==0&&(o.val==0&&o.tall==0))
def mM (o:O):β:=I (o.kind==1) (I (!UG o) bad ok) (I (o.kind==2) (I (o.kind==2) (I (!NA o) bad ok) bad) (I (o.kind==3) (I (!NA o) bad ok) bad))
def m4 (o:O):β:=I (o.kind==4) (I (!UG o) bad ok) (I (o.kind==5) (I (!NA o) bad ok) bad)
def Rv (o:O):Bool:=match (o.val==0)==true with | true=>o.tall==0 | false=>false
def oA (o:O):Bool:=match (match decide (o.key < 0)==false with | true=>decide (o.key > 255) | false=>true) with
 | true=>false
 | false=>match o.kind==6 with
   | true=>(match decide (0<=o.val)==true with
     | true=>(match decide (o.val<=1073741824)==true with | true=>(match decide (0<=o.tall)==true with | true=>decide (o.tall<=3) | false=>false) | false=>false)
     | false=>false)
   | false=>(match o.kind==7 with | true=>(match o.kind==7 with | true=>Rv o | false=>false) | false=>(match o.kind==8 with | true=>Rv o | false=>false))
def oJ (o:O):Bool:=match (!oA o)==false with | true=>o.tall != 0 | false=>true
def oI (o:O):Bool:=match (!oA o)==false with | true=>(match (o.kind==6)==true with | true=>decide (o.tall < 1) | false=>false) | false=>true
def nu (o:O):β:=I (oJ o) bad (I (o.kind==6) (I (o.kind==6) ok nilp) (I (o.kind==7) (I (o.kind==7) ok nilp) (I (o.kind==8) ok nilp)))
def qR (o:O):β:=I (oJ o) bad ok
def ra (o:O):β:=I (oI o) bad ok
end
def iw (s:Int) (o:O):Bool:=if s=1 then mM cond true false o else if s=2 then m4 cond true false o else if s=3 then nu cond true false true o else if s=4 then qR cond true false o else if s=5 then ra cond true false o else false
def xp (o:O):PileM:=⟨0,aD,o,wNil,wNil,0⟩
def xq (o:O):CortM:=⟨0,aD,o,wNil,wNil,wNil,wNil,0⟩
def zB (o:O):LitM:=fq (aC 0,o.key,o)
def zA (o:O):VauM:=⟨0,aD,o,0,0,0,0,wNil,wNil,wNil,none,none,⟨0,0⟩,wNil⟩
def CS (o:O):SteM:=⟨0,aD,o,none,wNil,0,0,0⟩
def tJ {α:Type} (j:α):T (Option α):=.need true (.leaf (some j))
def Cg {α:Type}:T (Option α):=.fail "load"
def Vc {α:Type}:T (Option α):=.leaf none
theorem O7 (σ:Sg) (o:O):(gg σ bm 34 noM (aOp.enc o) []).map (nC oPile)=mM tI (tJ (xp o)) Cg o:=by kernel_rfl
theorem Qc (σ:Sg) (o:O):(gg σ bm 35 noM (aOp.enc o) []).map (nC oCort)=m4 tI (tJ (xq o)) Cg o:=by kernel_rfl
theorem Tf (σ:Sg) (o:O):(gg σ bm 36 noM (aOp.enc o) []).map (nC oLit)=nu tI (tJ (zB o)) Cg Vc o:=by kernel_rfl
theorem R2 (σ:Sg) (o:O):(gg σ bm 37 noM (aOp.enc o) []).map (nC oVau)=qR tI (tJ (zA o)) Cg o:=by kernel_rfl
theorem Sm (σ:Sg) (o:O):(gg σ bm 38 noM (aOp.enc o) []).map (nC oSte)=ra tI (tJ (CS o)) Cg o:=by kernel_rfl
end
section
open Go Go.Sx Go.Proofs
set_option maxRecDepth 100000
variable {σ:Sg}
def rpZ:V1:=rpC ⟨wNil,false⟩
def E9 (σ:Sg):V1:=.c (.ifc 229 (.op 0 (σ 0)))
noncomputable def iI (σ:Sg) (m:PlotM) (a:Acc):SV×List AV×List AV:=if m.valid a then(.tup [rpC (m.access a).1,.c .inil],[.plot (m.access a).2],[]) else(.tup [rpZ,E9 σ],[.plot m],[])
def W6 (σ:Sg):Option (Int×Nat)->Bool
 | none=>true
 | some (_,i)=>decide (σ i=σ i)
noncomputable def lfD (σ:Sg) (lb ls lf:Nat) (r e:V1) (m:PlotM):T (SV×List AV×List AV) :=
 .need (decide (lb=m.board.length)) (.need (decide (ls=m.slots.length)) (.need (decide (lf=m.free.length)) (.need (W6 σ m.fault) (.leaf (.tup [r,e],[.plot m],[])))))
noncomputable def lfM (σ:Sg) (m0:PlotM) (r:Rp1) (m:PlotM):T (SV×List AV×List AV):=lfD σ m0.board.length m0.slots.length m0.free.length (rpC r) (.c .inil) m
noncomputable def lfE (σ:Sg) (m:PlotM):T (SV×List AV×List AV):=lfD σ m.board.length m.slots.length m.free.length rpZ (E9 σ) m
def PlotM.tick (m:PlotM):PlotM:={m with steps:=bH m.steps}
def PlotM.bad (m:PlotM) (e:Nat):PlotM:=match m.fault with | none=>{m.tick with fault:=some (m.tick.steps,e)} | some _=>m.tick
noncomputable def lfB (σ:Sg) (m:PlotM) (k:Int) (e:Nat):T (SV×List AV×List AV):=lfM σ m ⟨if k=1 \/ k=3 then dt (-1) else wNil,false⟩ (m.bad e)
noncomputable def AY (σ:Sg) (m:PlotM) (k:Int) (c:Bool) (w o:W) (m2:PlotM):T (SV×List AV×List AV) :=
 if k=1 then .need c (lfM σ m ⟨w,true⟩ m.tick)
 else if k=2 then .need c (lfM σ m ⟨wNil,true⟩ m2)
 else .need c (.need c (.ite (!ia w o) (lfM σ m ⟨w,false⟩ m.tick) (.need c (lfM σ m ⟨w,true⟩ m2))))
def aB (a b:Bool):Bool:=match a==true with | true=>b | false=>false
noncomputable def JX (σ:Sg) (m:PlotM) (k f:Int) (o n:W):T (SV×List AV×List AV) :=
 .ite (!aB (decide (0<=f)) (decide (f < (m.board.length:Int)))) (lfE σ m) (.need (decide (0<=f /\ f < (m.board.length:Int)))
  (AY σ m k (decide (0+f.toNat < m.board.length)) (m.board.getD (0+f.toNat) kwords.dflt) o {m.tick with board:=m.board.set (0+f.toNat) n}))
def iX (s:Int):Nat:=0+(IntKind.wrap .i64 (s - 1)).toNat
def iB (m:PlotM) (s:Int):Bool:=decide (0<=IntKind.wrap .i64 (s - 1) /\ IntKind.wrap .i64 (s - 1) < (m.slots.length:Int))
noncomputable def AZ (σ:Sg) (m:PlotM) (k s g:Int) (e:Nat) (t:T (SV×List AV×List AV)):T (SV×List AV×List AV) :=
 .need (iB m s) (.need (decide (iX s < m.slots.length)) (.ite (!(m.slots.getD (iX s) kslots.dflt).used) (lfB σ m k e)
  (.need (decide (iX s < m.slots.length)) (.ite ((m.slots.getD (iX s) kslots.dflt).gen != g) (lfB σ m k 6) t))))
noncomputable def Rh (σ:Sg) (m:PlotM) (k s g f:Int) (o n:W):T (SV×List AV×List AV) :=
 .ite (aB (decide (1<=s)) (decide (s<=(m.slots.length:Int)))==true) (.ite (decide (0<=f)==true) (.ite (!decide (f < 10)) (lfE σ m)
  (AZ σ m k s g 5 (.need (match iB m s with | true=>decide (0<=f /\ f < 10) | false=>false)
    (AY σ m k (match decide (iX s < m.slots.length) with | true=>(match decide (f.toNat * 5 % 5=0) with | true=>decide (f.toNat * 5 / 5 < 10) | false=>false) | false=>false)
      ((m.slots.getD (iX s) kslots.dflt).at (f.toNat * 5 / 5)) o {m.tick with slots:=m.slots.set (iX s) ((m.slots.getD (iX s) kslots.dflt).setAt (f.toNat * 5 / 5) n)})))) (lfE σ m)) (lfE σ m)
noncomputable def Ri (σ:Sg) (m:PlotM) (o:W):T (SV×List AV×List AV) :=
 .ite (!aB (decide (1<=o.slot)) (decide (o.slot<=(m.slots.length:Int)))) (lfE σ m) (AZ σ m 5 o.slot o.gen 4
  (.need (iB m o.slot) (.need (decide (iX o.slot < m.slots.length)) (.need (decide (m.free.length=Intf.len (F6 σ) (AV.ints m.free) /\ (m.free.length+1) * (SI.bytes Cr+1)<=lim))
    (lfD σ m.board.length m.slots.length (m.free.length+1) (rpC ⟨wNil,true⟩) (.c .inil) {m.tick with slots:=m.slots.set (iX o.slot) {m.slots.getD (iX o.slot) kslots.dflt with used:=false},free:=m.free++[⟨o.slot⟩]})))))
noncomputable def Vd (σ:Sg) (m:PlotM) (n:W):T (SV×List AV×List AV) :=
 let x:=IntKind.wrap .i64 ((m.free.length:Int) - 1)
 let v:=(m.free.getD (0+x.toNat) kints.dflt).val
 let i:=iX v
 let up (l:List Sl) (h:Sl->Sl):List Sl:=l.set i (h (l.getD i kslots.dflt))
 let s1:=up m.slots fun q=>{q with gen:=bH q.gen}
 let s2:=up s1 fun q=>{q with used:=true}
 let s3:=up s2 fun q=>{q with cells:=[wNil,wNil,wNil,wNil,wNil,wNil,wNil,wNil,wNil,dt n.num]}
 .ite ((m.free.length:Int)==0) (lfM σ m ⟨wNil,false⟩ m.tick)
  (.need (match decide (0<=x /\ x < (m.free.length:Int)) with | true=>decide (0+x.toNat < m.free.length) | false=>false)
  (.need (decide ((0:Int)<=0 /\ 0<=x /\ x<=(m.free.length:Int) /\ m.free.length=Intf.len (F6 σ) (AV.ints m.free)))
  (.need (iB m v) (.need (decide (i < m.slots.length)) (.need (decide (i < m.slots.length)) (.need (decide (i < s1.length)) (.need (decide (i < s2.length)) (.need (decide (i < s3.length))
    (lfD σ m.board.length m.slots.length (x.toNat - 0) (rpC ⟨⟨v,(s3.getD i kslots.dflt).gen,0,0,false⟩,true⟩) (.c .inil) {m.tick with slots:=s3,free:=m.free.take x.toNat,made:=bH m.made})))))))))
def FA (k s g:Cell) (f:Int) (o n:List Cell):List Cell:=[k,s,g,.it .i64 f]++o++n
noncomputable def mDo:List Bool:=mkM 22
def sD (a:Acc):List Cell:=[.it .i64 a.kind,.it .i64 a.s,.it .i64 a.g,.it .i64 a.f]++a.old.enc++a.new.enc
noncomputable def Ro (σ:Sg) (cs:List Cell) (m:PlotM):T (SV×List AV×List AV) :=
 Eu σ Sc 22 mDo [.v (.c (.ptr 7 0)),.v (.agg cs)] [.plot m] (ow σ m)
def RO (σ:Sg) (m:PlotM) (a:Acc):Prop:=∃cs,(Ro σ cs m).val=some (iI σ m a) /\ (∀ρ,ah ρ cs=ah ρ (sD a)) /\ tv cs=true
theorem DR {n:Int} (h:1<=n) (h2:n<=5000):IntKind.wrap .i64 (n - 1)=n - 1:=by
 unfold IntKind.wrap
 simp only [IntKind.bits,IntKind.signed]
 first | omega | (simp;omega)
theorem IF {n:Nat} (h:n<=5000):(n+1) * (SI.bytes Cr+1)<=lim:=by
 have:SI.bytes Cr<=1000:=by decide
 have:lim=1099511627776:=rfl
 have:(n+1) * (SI.bytes Cr+1)<=5001 * 1001:=Nat.mul_le_mul (by omega) (by omega)
 omega
theorem DX {α:Type} {c:Bool} {t e:T α}:(T.ite c t e).val=if c=true then t.val else e.val:=by cases c<;>rfl
theorem kv {α:Type} {c:Bool} {t:T α} (h:c=true):(T.need c t).val=t.val:=by subst h;rfl
theorem qt {lb ls lf:Nat} {r e:V1} {m:PlotM} (h1:lb=m.board.length) (h2:ls=m.slots.length) (h3:lf=m.free.length):(lfD σ lb ls lf r e m).val=some (.tup [r,e],[.plot m],[]):=by
 unfold lfD
 rw [kv (decide_eq_true h1),kv (decide_eq_true h2),kv (decide_eq_true h3)]
 cases h:m.fault with
 | none=>rfl
 | some x=>rw [show W6 σ (some x)=true from decide_eq_true rfl];rfl
theorem lA {m:PlotM} {a:Acc} (h:¬m.valid a):(lfE σ m).val=some (iI σ m a):=by unfold lfE iI;rw [qt rfl rfl rfl,if_neg h]
theorem Qs {m:PlotM} {e:Nat}:(m.bad e).board=m.board /\ (m.bad e).slots=m.slots /\ (m.bad e).free=m.free:=by unfold PlotM.bad;split<;>exact⟨rfl,rfl,rfl⟩
theorem GL {m:PlotM} {a:Acc} {e:Nat} (h:m.valid a) (hw:m.wrong a=some e):(lfB σ m a.kind e).val=some (iI σ m a):=by
 obtain⟨h1,h2,h3⟩:=Qs (m:=m) (e:=e)
 unfold lfB lfM iI
 rw [qt (by rw [h1]) (by rw [h2]) (by rw [h3]),if_pos h]
 unfold PlotM.access PlotM.bad
 rw [hw]
 rfl
theorem y4 {m m2:PlotM} {a:Acc} {c:Bool} {w:W} (hk:a.kind=1 \/ a.kind=2 \/ a.kind=3) (h:m.valid a) (hw:m.wrong a=none) (hc:c=true) (h1:m.tick.read a.s a.f=w) (h2:m.tick.write a.s a.f a.new=m2)
 (hb:m2.board.length=m.board.length) (hs:m2.slots.length=m.slots.length) (hf:m2.free=m.free):(AY σ m a.kind c w a.old m2).val=some (iI σ m a):=by
 have e1:∀r,(lfM σ m r m.tick).val=some (.tup [rpC r,.c .inil],[.plot m.tick],[]):=fun r=>qt rfl rfl rfl
 have e2:∀r,(lfM σ m r m2).val=some (.tup [rpC r,.c .inil],[.plot m2],[]):=fun r=>qt hb.symm hs.symm (by rw [hf])
 obtain⟨k,s,g,f,o,n⟩:=a
 unfold AY iI
 rw [if_pos h]
 unfold PlotM.access
 rw [hw]
 subst hc
 dsimp only at hk h1 h2 ⊢
 rw [show ({m with steps:=bH m.steps}:PlotM)=m.tick from rfl,h1,h2]
 rcases hk with rfl | rfl | rfl
 ·simp only [if_true,kv,e1,show ¬(1:Int)=4 by decide,show ¬(1:Int)=5 by decide,if_false]
 ·simp only [if_true,kv,e2,show ¬(2:Int)=4 by decide,show ¬(2:Int)=5 by decide,show ¬(2:Int)=1 by decide,if_false]
 ·simp only [kv,DX,e1,e2,show ¬(3:Int)=4 by decide,show ¬(3:Int)=5 by decide,show ¬(3:Int)=1 by decide,show ¬(3:Int)=2 by decide,if_false]
  cases ia w o<;>rfl
theorem D4 {m:PlotM} {k f:Int} {o n:W} (hk:k=1 \/ k=2 \/ k=3):(JX σ m k f o n).val=some (iI σ m ⟨k,0,0,f,o,n⟩):=by
 have hv:m.valid ⟨k,0,0,f,o,n⟩↔0<=f /\ f < (m.board.length:Int):=by unfold PlotM.valid PlotM.hasA;simp [hk]
 unfold JX
 rw [DX]
 by_cases h1:0<=f /\ f < (m.board.length:Int)
 ·rw [if_neg (by simp [aB,h1.1,h1.2]),kv (decide_eq_true h1)]
  refine y4 (a:=⟨k,0,0,f,o,n⟩) hk (hv.2 h1) ?_ (decide_eq_true (by omega)) ?_ ?_ (by simp) rfl rfl
  ·unfold PlotM.wrong;dsimp only;rw [if_neg (by omega),if_neg (by omega)];rfl
  ·rw [Nat.zero_add];rfl
  ·rw [Nat.zero_add];rfl
 ·rw [if_pos (by simp only [aB];cases h2:decide (0<=f)<;>simp_all)]
  exact lA fun h=>h1 (hv.1 h)
theorem iX_eq {s:Int} (h:1<=s) (h2:s<=5000):iX s=(s - 1).toNat:=by unfold iX;rw [DR h h2,Nat.zero_add]
theorem PI {m:PlotM} {s:Int} (h:m.has s) (hl:m.slots.length<=5000):iB m s=true:=by
 obtain⟨h,h2⟩:=h
 unfold iB;rw [DR h (by omega)];exact decide_eq_true (by omega)
theorem y7 {m:PlotM} {a:Acc} {k s g:Int} {e:Nat} {t:T (SV×List AV×List AV)} (hk:k=a.kind) (h:m.valid a) (hs:m.has s) (hl:m.slots.length<=5000) (hw:m.wrong a=m.state s g e) (ht:m.wrong a=none->t.val=some (iI σ m a)) :
 (AZ σ m k s g e t).val=some (iI σ m a):=by
 have hb:=PI hs hl
 obtain⟨h1,h2⟩:=hs
 have ei:iX s=(s - 1).toNat:=iX_eq h1 (by omega)
 have hi:decide (iX s < m.slots.length)=true:=decide_eq_true (by omega)
 unfold AZ
 subst hk
 rw [kv hb,kv hi,DX,kv hi,DX]
 have e0:m.slots.getD (iX s) kslots.dflt=m.slot s:=by rw [ei];rfl
 rw [e0]
 have hs0:¬s=0:=by omega
 unfold PlotM.state at hw
 rw [if_neg hs0] at hw
 by_cases hu:(m.slot s).used=false
 ·rw [if_pos hu] at hw;rw [if_pos (by rw [hu];rfl)];exact GL h hw
 ·rw [if_neg hu] at hw;rw [if_neg (by simpa using hu)]
  by_cases hg:(m.slot s).gen=g
  ·rw [if_pos hg] at hw;rw [if_neg (by simp [hg])];exact ht hw
  ·rw [if_neg hg] at hw;rw [if_pos (by simp [hg])];exact GL h hw
theorem HA {m:PlotM} {k s g f:Int} {o n:W} (hk:k=1 \/ k=2 \/ k=3) (h0:s≠0) (hl:m.slots.length<=5000):(Rh σ m k s g f o n).val=some (iI σ m ⟨k,s,g,f,o,n⟩):=by
 have hv:m.valid ⟨k,s,g,f,o,n⟩↔m.has s /\ 0<=f /\ f < 10:=by unfold PlotM.valid PlotM.hasA;simp [hk,h0]
 unfold Rh
 simp only [DX]
 by_cases h1:m.has s
 ·rw [if_pos (by simp [aB,h1.1,h1.2])]
  by_cases h3:0<=f
  ·rw [if_pos (by simp [h3])]
   by_cases h4:f < 10
   ·rw [if_neg (by simp [h4])]
    have h:=hv.2 ⟨h1,h3,h4⟩
    have ei:iX s=(s - 1).toNat:=iX_eq h1.1 (by have:=h1.2;omega)
    have ef:f.toNat * 5 / 5=f.toNat:=by omega
    have hi:decide (iX s < m.slots.length)=true:=decide_eq_true (by have:=h1.1;have:=h1.2;omega)
    refine y7 (a:=⟨k,s,g,f,o,n⟩) rfl h h1 hl (by unfold PlotM.wrong;dsimp only;rw [if_neg (by omega),if_neg (by omega)]) fun hw=>?_
    rw [PI h1 hl,kv (decide_eq_true ⟨h3,h4⟩)]
    refine y4 (a:=⟨k,s,g,f,o,n⟩) hk h hw ?_ ?_ ?_ rfl (by simp) rfl
    ·rw [hi];dsimp only;rw [decide_eq_true (show f.toNat * 5 % 5=0 by omega)];exact decide_eq_true (by omega)
    ·rw [ei,ef];unfold PlotM.read;rw [if_neg h0];rfl
    ·rw [ei,ef];unfold PlotM.write;rw [if_neg h0];rfl
   ·rw [if_pos (by simp [h4])];exact lA fun h=>h4 (hv.1 h).2.2
  ·rw [if_neg (by simp [h3])];exact lA fun h=>h3 (hv.1 h).2.1
 ·rw [if_neg (by intro h;apply h1;simp only [aB] at h;cases h2:decide (1<=s)<;>simp_all [PlotM.has])]
  exact lA fun h=>h1 (hv.1 h).1
theorem HB {m:PlotM} {s g f:Int} {o n:W} (hok:m.Ok):(Ri σ m o).val=some (iI σ m ⟨5,s,g,f,o,n⟩):=by
 have hv:m.valid ⟨5,s,g,f,o,n⟩↔m.has o.slot:=by unfold PlotM.valid;simp
 unfold Ri
 rw [DX]
 by_cases h1:m.has o.slot
 ·rw [if_neg (by simp [aB,h1.1,h1.2])]
  have ei:iX o.slot=(o.slot - 1).toNat:=iX_eq h1.1 (by have:=h1.2;have:=hok.ls;omega)
  have hi:decide (iX o.slot < m.slots.length)=true:=decide_eq_true (by have:=h1.1;have:=h1.2;omega)
  refine y7 (a:=⟨5,s,g,f,o,n⟩) rfl (hv.2 h1) h1 hok.ls rfl fun hw=>?_
  rw [kv (PI h1 hok.ls),kv hi,kv (decide_eq_true ⟨rfl,IF hok.lf⟩)]
  refine Eq.trans (qt rfl (by simp) (by simp)) ?_
  rw [ei]
  unfold iI PlotM.access
  rw [if_pos (hv.2 h1),hw]
  rfl
 ·rw [if_pos (by simp only [aB,PlotM.has] at *;cases h2:decide (1<=o.slot)<;>simp_all)]
  exact lA fun h=>h1 (hv.1 h)
theorem JW {m:PlotM} {s g f:Int} {o n:W} (hok:m.Ok):(Vd σ m n).val=some (iI σ m ⟨4,s,g,f,o,n⟩):=by
 unfold iI
 rw [if_pos (show m.valid ⟨4,s,g,f,o,n⟩ by unfold PlotM.valid;simp)]
 obtain⟨b,sl,fr,st,md,ft⟩:=m
 have hl:sl.length<=5000:=hok.ls
 have hf:fr.length<=5000:=hok.lf
 unfold Vd
 simp only [PlotM.access,PlotM.wrong,PlotM.alloc,bH,if_true,PlotM.slot,PlotM.tick,DX]
 by_cases h0:fr.length=0
 ·rw [if_pos (by simp [h0]),if_pos h0]
  exact qt rfl rfl rfl
 ·have e1:IntKind.wrap .i64 ((fr.length:Int) - 1)=(fr.length:Int) - 1:=DR (by omega) (by omega)
  have e2:((fr.length:Int) - 1).toNat=fr.length - 1:=by omega
  have e4:fr.length - 1 < fr.length:=by omega
  have hm:fr.getD (fr.length - 1) kints.dflt∈fr:=by
   have:fr.getD (fr.length - 1) kints.dflt=fr[fr.length - 1]:=by simp [List.getD,e4]
   rw [this];exact List.getElem_mem e4
  have i:=hok.fr _ hm
  rw [if_neg (by simpa using h0),if_neg h0]
  simp only [e1,e2,Nat.zero_add]
  generalize fr.getD (fr.length - 1) kints.dflt=q at i hm ⊢
  have ei:=iX_eq i.1 (Int.le_trans i.2 (by show (sl.length:Int)<=5000;omega))
  have hi:(q.val - 1).toNat < sl.length:=by have h1:=i.1;have h2:q.val<=(sl.length:Int):=i.2;omega
  have hb:=PI i hl
  rw [ei,hb]
  simp only [List.length_set,decide_eq_true hi,decide_eq_true e4]
  rw [decide_eq_true (show 0<=(fr.length:Int) - 1 /\ (fr.length:Int) - 1 < (fr.length:Int) by omega),decide_eq_true (show (0:Int)<=0 /\ 0<=(fr.length:Int) - 1 /\ (fr.length:Int) - 1<=(fr.length:Int) /\ fr.length=Intf.len (F6 σ) (AV.ints fr) from⟨by omega,by omega,by omega,rfl⟩)]
  simp only [kv]
  refine Eq.trans (qt rfl (by simp) (by simp)) ?_
  simp [show q.val.toNat - 1 < sl.length by omega,List.getD,List.getElem?_set,wNil,dt]
theorem xg {n:Int} {l:List Int} (h:n ∉ l):∀c∈l,(n==c)=false:=fun c hc=>beq_eq_false_iff_ne.2 fun e=>h (e▸hc)
theorem T1 (m:PlotM) (a:Acc) (hok:m.Ok):RO σ m a:=by
 have K {cs:List Cell} {t:T (SV×List AV×List AV)} (hr:Ro σ cs m=t) (hv:t.val=some (iI σ m a)) (h1:∀ρ,ah ρ cs=ah ρ (sD a)) (h2:tv cs=true):RO σ m a:=⟨cs,by rw [hr];exact hv,h1,h2⟩
 obtain⟨k,s,g,f,⟨os,og,ot,on,om⟩,n⟩:=a
 by_cases hk:k=1 \/ k=2 \/ k=3
 ·by_cases hs:s=0
  ·by_cases hg:g=0
   ·subst hs hg
    refine K (cs:=FA (.il .i64 k) (.il .i64 0) (.il .i64 0) f (W.mk os og ot on om).enc n.enc) ?_ (D4 hk) (fun _=>rfl) rfl
    obtain⟨b,sl,fr,st,md,_ | ⟨fk,fi⟩⟩:=m<;>rcases hk with rfl | rfl | rfl<;>kernel_rfl
   ·subst hs
    refine K (cs:=FA (.il .i64 k) (.il .i64 0) (.iv .i64 g [0] (xg (by simpa using hg))) f (W.mk os og ot on om).enc n.enc) ?_ (lA (by unfold PlotM.valid PlotM.hasA;simp [hk,hg])) (fun _=>rfl) rfl
    obtain⟨b,sl,fr,st,md,_ | ⟨fk,fi⟩⟩:=m<;>rcases hk with rfl | rfl | rfl<;>kernel_rfl
  ·refine K (cs:=FA (.il .i64 k) (.iv .i64 s [0] (xg (by simpa using hs))) (.it .i64 g) f (W.mk os og ot on om).enc n.enc) ?_ (HA hk hs hok.ls) (fun _=>rfl) rfl
   obtain⟨b,sl,fr,st,md,_ | ⟨fk,fi⟩⟩:=m<;>rcases hk with rfl | rfl | rfl<;>kernel_rfl
 by_cases k4:k=4
 ·subst k4
  refine K (cs:=FA (.il .i64 4) (.it .i64 s) (.it .i64 g) f (W.mk os og ot on om).enc n.enc) ?_ (JW hok) (fun _=>rfl) rfl
  obtain⟨b,sl,fr,st,md,_ | ⟨fk,fi⟩⟩:=m<;>kernel_rfl
 by_cases k5:k=5
 ·subst k5
  by_cases ho:os=0
  ·subst ho
   refine K (cs:=FA (.il .i64 5) (.it .i64 s) (.it .i64 g) f [.il .i64 0,.it .i64 og,.it .i64 ot,.it .i64 on,.bt om] n.enc) ?_ (lA (by unfold PlotM.valid PlotM.has;simp)) (fun _=>rfl) rfl
   obtain⟨b,sl,fr,st,md,_ | ⟨fk,fi⟩⟩:=m<;>kernel_rfl
  ·refine K (cs:=FA (.il .i64 5) (.it .i64 s) (.it .i64 g) f [.iv .i64 os [0] (xg (by simpa using ho)),.it .i64 og,.it .i64 ot,.it .i64 on,.bt om] n.enc) ?_ (HB (o:=⟨os,og,ot,on,om⟩) hok) (fun _=>rfl) rfl
   obtain⟨b,sl,fr,st,md,_ | ⟨fk,fi⟩⟩:=m<;>kernel_rfl
 refine K (cs:=FA (.iv .i64 k [1,2,3,4,5] (xg (by simp;omega))) (.it .i64 s) (.it .i64 g) f (W.mk os og ot on om).enc n.enc) ?_ (lA (by unfold PlotM.valid;simp [hk,k4,k5])) (fun _=>rfl) rfl
 obtain⟨b,sl,fr,st,md,_ | ⟨fk,fi⟩⟩:=m<;>kernel_rfl
end
section
open Go Go.Sx Go.Proofs
set_option maxRecDepth 100000
variable {σ:Sg}
def NT:List Cell->Option Acc
 | [c0,c1,c2,c3,c4,c5,c6,c7,c8,c9,c10,c11,c12,c13]=>match iOf c0,iOf c1,iOf c2,iOf c3,W.dec [c4,c5,c6,c7,c8],W.dec [c9,c10,c11,c12,c13] with
   | some k,some s,some g,some f,some o,some n=>some ⟨k,s,g,f,o,n⟩
   | _,_,_,_,_,_=>none
 | _=>none
theorem Jg {cs:List Cell} {a:Acc} (h:NT cs=some a) (ρ:Nm):ah ρ (sD a)=ah ρ cs:=by
 unfold NT at h
 split at h
 ·split at h
  ·rename_i k s g f o n h0 h1 h2 h3 h4 h5
   cases h
   have e4:=(W.dec_ok _ _ h4)
   have e5:=(W.dec_ok _ _ h5)
   have d4:ah ρ o.enc=ah ρ _:=(gH fun c hc=>(by simp [W.enc] at hc;rcases hc with rfl | rfl | rfl | rfl | rfl<;>rfl)).trans (e4.1.trans (gH e4.2).symm)
   have d5:ah ρ n.enc=ah ρ _:=(gH fun c hc=>(by simp [W.enc] at hc;rcases hc with rfl | rfl | rfl | rfl | rfl<;>rfl)).trans (e5.1.trans (gH e5.2).symm)
   unfold sD
   simp only [ah,List.map_append,List.map_cons,List.map_nil] at d4 d5 ⊢
   rw [d4,d5,bp h0 ρ,bp h1 ρ,bp h2 ρ,bp h3 ρ]
   rfl
  ·cases h
 ·cases h
instance (m:PlotM):Decidable m.Ok:=decidable_of_iff (m.board.length<=5000 /\ m.slots.length<=5000 /\ m.free.length<=5000 /\ ∀x∈m.free,m.has x.val) ⟨fun⟨a,b,c,d⟩=>⟨a,b,c,d⟩,fun⟨a,b,c,d⟩=>⟨a,b,c,d⟩⟩
noncomputable def doS (σ:Sg) (args:List SV) (l:List AV):T (SV×List AV×List AV):=match args,l with
 | [.v (.c (.ptr 7 0)),.v (.agg cs)],[.plot m]=>match NT cs with
   | some a=>.need (decide m.Ok) (.ite (decide (m.valid a)) (.leaf (.tup [rpC (m.access a).1,.c .inil],[.plot (m.access a).2],[])) (.leaf (.tup [rpZ,E9 σ],[.plot m],[])))
   | none=>.fail "Do"
 | _,_=>.fail "Do"
theorem M4:FnOk Tryz.prog (NV σ) 22 (aZ isS mDo (doS σ)):=by
 refine dQ bR (gC _) fun args l v l' nw h hl hargs=>?_
 unfold doS at h
 split at h
 ·rename_i cs m
  split at h
  ·rename_i a ha
   replace h:=aj h
   obtain⟨hok,h⟩:=h
   have hok:=of_decide_eq_true hok
   obtain⟨cs',hr,hd,hn⟩:=T1 (σ:=σ) m a hok
   have h2:iI σ m a=(v,l',nw):=by
    unfold iI
    by_cases hv:m.valid a
    ·rw [if_pos hv];rw [decide_eq_true hv] at h;exact Option.some.inj h
    ·rw [if_neg hv];rw [decide_eq_false hv] at h;exact Option.some.inj h
   rw [h2] at hr
   have hc:=A9 FV (σ:=σ) (M:=mDo) (gC _) (a:=.plot m) (l:=[]) (K:=ow σ m) rfl ⟨_,rfl⟩ rfl (fun x hx=>by
    simp only [List.mem_cons,List.not_mem_nil,or_false] at hx
    rcases hx with rfl | rfl
    ·exact hargs _ (by simp)
    ·intro c hc n hcn;rw [od hn c hc] at hcn;cases hcn) hr
   exact eX hc.1 fun ρ=>by
    simp only [List.map_cons,List.map_nil,SV.den,V1.den]
    rw [hd ρ,Jg ha ρ]
  ·simp [T.val] at h
 ·simp [T.val] at h
end
section
open Go Go.Sx Go.Proofs
set_option maxRecDepth 100000
variable {σ:Sg} {lp:Lp}
structure StF where
 okt:RiteM->Bool
 tk:RiteM->Rp1->RiteM
 oka:VerM->Bool
 ad:VerM->VerM
 ap:VerM->PileM
 ac:VerM->CortM
 al:VerM->LitM
 av:VerM->VauM
 ast:VerM->SteM
def Mv (F:StF) (k:Nat) (v:VerM):Option JobM:=match k with | 0=>none | 1=>some (.pile (F.ap v)) | 2=>some (.cort (F.ac v)) | 3=>some (.lit (F.al v)) | 4=>some (.vau (F.av v)) | _=>some (.ste (F.ast v))
noncomputable def JO (σ:Sg) (F:StF) (k:Nat):Tab:=aQ 55 (aZ isS noM (dK aNo vBo oRite (fun _ _=>none) (fun m _=>(fZ m,m)))) (aQ 30 (aZ isS noM (dK aNo R5 oRite (fun _ _=>none) (fun m _=>(gS m,m))))
 (aQ 31 (aZ isS noM (dK aRp vQ oRite (fun m _=>some (F.okt m)) (fun m x=>((),F.tk m x)))) (aQ 22 (aZ isS mDo (doS σ))
 (aQ 29 (Jv σ (aZ isS noM (CU 2 aNo oVer (fun v _=>some (F.oka v)) fun v _=>(.tup [],{F.ad v with job:=Mv F k v},[])))) bm))))
noncomputable def mSt:List Bool:=mkM 11
def P6:SV×List AV×List AV->Option (SV×VerM×PlotM)
 | (v,[.ver a,.plot p],[])=>some (v,a,p)
 | _=>none
noncomputable def zb (σ:Sg) (F:StF) (k:Nat) (v:VerM) (p:PlotM):T (Option (SV×VerM×PlotM)):=(wI fJ σ (JO σ F k) 11 mSt [.v (.c (.ptr 7 0)),.v (.c (.ptr 8 0))] [eJ v,.plot p] (dw AV.len lW (VerM.wr v))).map P6
end
section
open Go Go.Sx Go.Proofs
set_option maxRecDepth 100000
variable {σ:Sg} {lp:Lp}
structure Strd where
 over:Bool
 code:Int
 val:Int
 real:Int
def Ow (s:Strd):V1:=.agg [.bt s.over,.it .i64 s.code,.it .i64 s.val,.it .i64 s.real]
def E8 (σ:Sg) (i:Nat):V1:=.c (.ifc 229 (.op i (σ i)))
def ErS:Nat:=1
def ErA:Nat:=0
def J7:V1:=.agg [.bt false,.it .i64 0,.it .i64 0,.it .i64 0]
section
variable {β:Type} (I:Bool->β->β->β) (N:Bool->β->β)
def mI (L:Strd->VerM->β) (oka:VerM->Bool) (ad:VerM->VerM) (v1:VerM) (r:Int):β :=
 N true (N (oka v1) (I ((ad v1).doing==0) (N true (L ⟨true,(ad v1).answer.code,(ad v1).answer.val,r⟩ (ad v1))) (N true (L ⟨false,0,0,r⟩ (ad v1)))))
def mH (L:Strd->VerM->β) (oka:VerM->Bool) (ad:VerM->VerM) (v v1:VerM) (a:Acc):β :=
 let fin:=mI I N L oka ad v1
 I (v.call.kind==6) (I (fZ v1.rite) (fin (-1)) (I (orB (v.engine==3) (v.engine==5)) (fin 1) (fin 0)))
 (I (v.call.kind==8) (I (a.kind != 4) (fin (-1)) (fin 0))
 (I (v.call.kind==3) (I (v.call.kind==3) (fin 0) (fin (-1)))
 (I (v.call.kind==4) (I (v.call.kind==4) (fin 0) (fin (-1)))
 (I (v.call.kind==5) (I (v.call.kind==5) (fin 0) (fin (-1)))
 (I (v.call.kind==9) (fin 0) (fin (-1)))))))
end
def yK {β:Type} (I:Bool->β->β->β) (N:Bool->β->β) (E:Nat->β) (L:Strd->VerM->PlotM->β) (okt:RiteM->Bool) (tk:RiteM->Rp1->RiteM) (oka:VerM->Bool) (ad:VerM->VerM) (v:VerM) (p:PlotM):β :=
 let a:=(gS v.rite).1
 I (!(v.doing != 0)) (N true (E ErS))
   (N (decide p.Ok) (I (decide (p.valid a)) (N (okt v.rite) (mH I N (fun s v'=>L s v' (p.access a).2) oka ad v {v with rite:=tk v.rite (p.access a).1} a)) (N true (E ErA))))
def stL (s:Strd) (v:VerM) (p:PlotM):T (Option (SV×VerM×PlotM)):=.leaf (some (.tup [Ow s,.c .inil],v,p))
def stE (σ:Sg) (v:VerM) (p:PlotM) (i:Nat):T (Option (SV×VerM×PlotM)):=.leaf (some (.tup [J7,E8 σ i],v,p))
def adK (F:StF) (k:Nat) (v:VerM):VerM:={F.ad v with job:=Mv F k v}
theorem Vk (σ:Sg) (F:StF) (v:VerM) (p:PlotM):zb σ F 0 {v with job:=none} p=yK tI tN (stE σ {v with job:=none} p) stL F.okt F.tk F.oka (adK F 0) {v with job:=none} p:=by kernel_rfl
theorem Vj (σ:Sg) (F:StF) (v:VerM) (j:PileM) (p:PlotM):zb σ F 1 {v with job:=some (.pile j)} p=yK tI tN (stE σ {v with job:=some (.pile j)} p) stL F.okt F.tk F.oka (adK F 1) {v with job:=some (.pile j)} p:=by kernel_rfl
theorem Vi (σ:Sg) (F:StF) (v:VerM) (j:CortM) (p:PlotM):zb σ F 2 {v with job:=some (.cort j)} p=yK tI tN (stE σ {v with job:=some (.cort j)} p) stL F.okt F.tk F.oka (adK F 2) {v with job:=some (.cort j)} p:=by kernel_rfl
theorem Vh (σ:Sg) (F:StF) (v:VerM) (j:LitM) (p:PlotM):zb σ F 3 {v with job:=some (.lit j)} p=yK tI tN (stE σ {v with job:=some (.lit j)} p) stL F.okt F.tk F.oka (adK F 3) {v with job:=some (.lit j)} p:=by kernel_rfl
theorem Vg (σ:Sg) (F:StF) (v:VerM) (j:VauM) (p:PlotM):zb σ F 4 {v with job:=some (.vau j)} p=yK tI tN (stE σ {v with job:=some (.vau j)} p) stL F.okt F.tk F.oka (adK F 4) {v with job:=some (.vau j)} p:=by kernel_rfl
theorem Vf (σ:Sg) (F:StF) (v:VerM) (j:SteM) (p:PlotM):zb σ F 5 {v with job:=some (.ste j)} p=yK tI tN (stE σ {v with job:=some (.ste j)} p) stL F.okt F.tk F.oka (adK F 5) {v with job:=some (.ste j)} p:=by kernel_rfl
noncomputable def stF (k:Nat):StF where
 okt:=Bk
 tk:=eE
 oka v:=match pN v with | true=>Nat.beq (bF v) k | false=>false
 ad:=g6
 ap v:=match (g6 v).job with | some (.pile j)=>j | _=>xp ⟨0,0,0,0⟩
 ac v:=match (g6 v).job with | some (.cort j)=>j | _=>xq ⟨0,0,0,0⟩
 al v:=match (g6 v).job with | some (.lit j)=>j | _=>zB ⟨0,0,0,0⟩
 av v:=match (g6 v).job with | some (.vau j)=>j | _=>zA ⟨0,0,0,0⟩
 ast v:=match (g6 v).job with | some (.ste j)=>j | _=>CS ⟨0,0,0,0⟩
theorem A6 {k:Nat} {v:VerM} (h:(stF k).oka v=true):pN v=true /\ bF v=k:=by
 have h:(match pN v with | true=>Nat.beq (bF v) k | false=>false)=true:=h
 split at h
 ·rename_i h1;exact⟨h1,(ai _ _).1 h⟩
 ·cases h
theorem adK_eq {k:Nat} {v:VerM} (h:(stF k).oka v=true):adK (stF k) k v=g6 v:=by
 obtain⟨h1,h2⟩:=A6 h
 have hk:=(tO uL v (o7 h1)).trans h2
 unfold adK Mv stF
 dsimp only
 generalize g6 v=w at hk ⊢
 obtain⟨so,en,ri,dg,cl,op,job,an⟩:=w
 cases job with
 | none=>cases hk;rfl
 | some j=>cases j<;>(cases hk;rfl)
theorem JN (k:Nat):bO Tryz.prog (NV σ) (JO σ (stF k) k):=by
 refine au sV (au HY (au On (au M4 (au (AQ (CT rfl fun v x h=>?_)) aJ))))
 have h:(stF k).oka v=true:=h
 have e:{(stF k).ad v with job:=Mv (stF k) k v}=g6 v:=adK_eq h
 show Ctr _ _ _ _ _ (.tup []) (hpO noM [eJ {(stF k).ad v with job:=Mv (stF k) k v}])
 rw [e]
 exact Hg σ v (A6 h).1
noncomputable def hN (v:VerM) (p:PlotM):VerM:={v with rite:=eE v.rite (p.access (gS v.rite).1).1}
noncomputable def cD (v:VerM) (p:PlotM):Strd×VerM×PlotM :=
 mH cond (fun _ t=>t) (fun s v'=>(s,v',(p.access (gS v.rite).1).2)) (fun _=>true) g6 v (hN v p) (gS v.rite).1
def Gv (v:VerM) (p:PlotM):Prop:=Bk v.rite=true /\ pN (hN v p)=true
noncomputable def Ga (σ:Sg) (args:List SV) (l:List AV):T (SV×List AV×List AV):=match args,l with
 | [.v (.c (.ptr 7 0)),.v (.c (.ptr 8 0))],[.ver v,.plot p] =>
   .ite (!(v.doing != 0)) (.leaf (.tup [J7,E8 σ ErS],[.ver v,.plot p],[]))
    (.need (decide p.Ok) (.ite (decide (p.valid (gS v.rite).1)) (.need (fO (Gv v p)) (.leaf (.tup [Ow (cD v p).1,.c .inil],[.ver (cD v p).2.1,.plot (cD v p).2.2],[]))) (.leaf (.tup [J7,E8 σ ErA],[.ver v,.plot p],[]))))
 | _,_=>.fail "Step"
theorem Cj {β:Type} {f:Strd×VerM×PlotM->β} {L:Strd->VerM->T β} {p2:PlotM} {oka:VerM->Bool} {ad:VerM->VerM} {v v1:VerM} {a:Acc} (ho:oka v1=true) (he:ad v1=g6 v1) (hL:∀s v',L s v'=.leaf (f (s,v',p2))) :
 (mH tI tN L oka ad v v1 a).val=some (f (mH cond (fun _ t=>t) (fun s v'=>(s,v',p2)) (fun _=>true) g6 v v1 a)):=by
 have fin:∀r,(mI tI tN L oka ad v1 r).val=some (f (mI cond (fun _ t=>t) (fun s v'=>(s,v',p2)) (fun _=>true) g6 v1 r)):=fun r=>by
  unfold mI
  rw [he,ho,hL,hL]
  show (tI _ _ _).val=_
  cases (g6 v1).doing==0<;>rfl
 unfold mH
 dsimp only
 have spl:∀{b:Bool} {t e:T β} {x y:Strd×VerM×PlotM},t.val=some (f x)->e.val=some (f y)->(tI b t e).val=some (f (cond b x y)):=fun {b t e x y} h1 h2=>by cases b<;>assumption
 repeat' first | exact fin _ | apply spl
theorem Ka (σ:Sg) (v:VerM) (p:PlotM) (r:Option (SV×VerM×PlotM)) (h:(yK tI tN (stE σ v p) stL Bk eE (stF (bF v)).oka (adK (stF (bF v)) (bF v)) v p).val=some r) :
 (wI fJ σ (JO σ (stF (bF v)) (bF v)) 11 mSt [.v (.c (.ptr 7 0)),.v (.c (.ptr 8 0))] [eJ v,.plot p] (dw AV.len lW (VerM.wr v)) |>.map P6).val=some r:=by
 obtain⟨so,en,ri,dg,cl,op,job,an⟩:=v
 cases job with
 | none=>exact(congrArg T.val (Vk σ (stF 0) ⟨so,en,ri,dg,cl,op,none,an⟩ p)).trans h
 | some j =>
   cases j with
   | pile j=>exact(congrArg T.val (Vj σ (stF 1) ⟨so,en,ri,dg,cl,op,none,an⟩ j p)).trans h
   | cort j=>exact(congrArg T.val (Vi σ (stF 2) ⟨so,en,ri,dg,cl,op,none,an⟩ j p)).trans h
   | lit j=>exact(congrArg T.val (Vh σ (stF 3) ⟨so,en,ri,dg,cl,op,none,an⟩ j p)).trans h
   | vau j=>exact(congrArg T.val (Vg σ (stF 4) ⟨so,en,ri,dg,cl,op,none,an⟩ j p)).trans h
   | ste j=>exact(congrArg T.val (Vf σ (stF 5) ⟨so,en,ri,dg,cl,op,none,an⟩ j p)).trans h
theorem IW {r:SV×List AV×List AV} {v:SV} {a:VerM} {p:PlotM} (h:P6 r=some (v,a,p)):r=(v,[.ver a,.plot p],[]):=by
 unfold P6 at h
 split at h
 ·cases h;rfl
 ·cases h
theorem R7 {M:List Bool} (hM:7=M.length) {a b:AV} {l:List AV}:∀x∈[SV.v (.c (.ptr 7 0)),.v (.c (.ptr 8 0))],ClV (hpO M (a::b::l)) x:=fun x hx=>by
 simp only [List.mem_cons,List.not_mem_nil,or_false] at hx
 rcases hx with rfl | rfl
 ·exact Bg hM
 ·intro c hc n hn
  have hc:c∈[Cell.ptr 8 0]:=hc
  rw [List.mem_singleton.1 hc] at hn
  cases hn
  refine⟨.abs b,?_⟩
  unfold hpO
  rw [aH,dv,if_neg (by omega),<- hM]
  rfl
theorem Kb (σ:Sg) (v:VerM) (p:PlotM) {x:SV} {v':VerM} {p':PlotM} (h:(yK tI tN (stE σ v p) stL Bk eE (stF (bF v)).oka (adK (stF (bF v)) (bF v)) v p).val=some (some (x,v',p'))) :
 Ctr Tryz.prog (NV σ) 11 [.v (.c (.ptr 7 0)),.v (.c (.ptr 8 0))] (hpO mSt [eJ v,.plot p]) x (hpO mSt [eJ v',.plot p']):=by
 obtain⟨y,h1,h2⟩:=map_some (Ka σ v p _ h)
 rw [IW h2] at h1
 exact oG (rq jM (wh (JN _)) (gC _) (a:=eJ v) (K:=dw AV.len lW (VerM.wr v)) ⟨_,rfl⟩ (fun L S w hq=>(nU (N:=NVl fJ σ) rfl (by exact rfl) rfl L S w).1 hq) (R7 (gC _)) h1).1
theorem Oy:FnOk Tryz.prog (NV σ) 11 (aZ isS mSt (Ga σ)):=by
 refine dQ bR (gC _) fun args l x l' nw h hl hargs=>?_
 unfold Ga at h
 split at h
 ·rename_i v p
  have fin:∀{x0:SV} {v0:VerM} {p0:PlotM},(yK tI tN (stE σ v p) stL Bk eE (stF (bF v)).oka (adK (stF (bF v)) (bF v)) v p).val=some (some (x0,v0,p0))->some (x0,[AV.ver v0,.plot p0],([]:List AV))=some (x,l',nw)->Ctr Tryz.prog (NV σ) 11 [.v (.c (.ptr 7 0)),.v (.c (.ptr 8 0))] (hpO mSt [eJ v,.plot p]) x (hpO mSt (l'++nw)):=fun {x0 v0 p0} h1 h2=>by
   simp only [Option.some.injEq,Prod.mk.injEq] at h2
   obtain⟨rfl,rfl,rfl⟩:=h2
   exact Kb σ v p h1
  unfold yK at fin
  dsimp only at fin
  cases hb:(!(v.doing != 0)) with
  | true =>
    rw [hb] at h fin
    exact fin rfl h
  | false =>
    rw [hb] at h fin
    obtain⟨h1,h⟩:=aj (h:(T.need _ _).val=_)
    cases hv:decide (p.valid (gS v.rite).1) with
    | false =>
      rw [hv] at h fin
      exact fin (nv h1) h
    | true =>
      rw [hv] at h fin
      obtain⟨h2,h⟩:=aj (h:(T.need _ _).val=_)
      obtain⟨h3,h4⟩:=eU h2
      have ho:(stF (bF v)).oka (hN v p)=true:=by
       show (match pN (hN v p) with | true=>Nat.beq (bF (hN v p)) (bF v) | false=>false)=true
       rw [h4]
       exact(ai _ _).2 rfl
      refine fin ((nv h1).trans ((nv h3).trans (Cj (f:=fun r=>some (SV.tup [Ow r.1,.c .inil],r.2.1,r.2.2)) ho (adK_eq ho) fun _ _=>rfl))) h
 ·simp [T.val] at h
end
end Go.Proofs.YtadmfaohjnjajaaGreatDoor
