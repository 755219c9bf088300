import Derived.Test.YtcpdipfepeccgaaGreatDoorQw
import Derived.Test.YtcpdipfepeccgaaGreatDoorSxOh
set_option linter.unusedVariables false
set_option linter.unusedSimpArgs false
set_option maxHeartbeats 4000000
namespace Go.Proofs.YtcpdipfepeccgaaGreatDoor
open Go Go.Sx Go.Proofs
set_option maxRecDepth 100000
variable {σ:Sg} {lp:Lp}
noncomputable def JobM.next:JobM->Rp1->Cl×JobM
 | .pile j,x=>((iH j x).1,.pile (iH j x).2)
 | .cort j,x=>((iY j x).1,.cort (iY j x).2)
 | .lit j,x=>((dC j x).1,.lit (dC j x).2)
 | .vau j,x=>((kr j x).1,.vau (kr j x).2)
 | .ste j,x=>((eU j x).1,.ste (eU j x).2)
def JobM.ok:JobM->Bool
 | .vau j=>EP j
 | .ste j=>zD j
 | _=>true
def tLf (r:Ex×VerM):T (Ex×VerM):=.leaf r
noncomputable def bU (v:VerM):T (Ex×VerM):=dm tI tLf v (match v.job with | none=>.fail "no job" | some j=>tN j.ok (ey tI tN tLf adF v (j.next v.rite.reply)))
theorem je {v:VerM} {nx:Cl×JobM} {r:Ex×VerM} (h:(ey tI tN tLf adF v nx).val=some r):(ey tI tN tF adF v nx).val=some (r.1,od r.2):=by
 unfold ey at h ⊢
 cases hk:nx.1.kind != 12 with
 | true =>
   rw [hk] at h
   have h:(T.need (adF.okb v.rite nx.1) (tLf _)).val=some r:=h
   show (T.need (adF.okb v.rite nx.1) (tF _)).val=_
   obtain⟨h1,h2⟩:=ah h
   rw [nv h1]
   simp only [tLf,T.val,Option.some.injEq] at h2
   subst h2;rfl
 | false =>
   rw [hk] at h
   have h:(T.need (adF.okb v.rite ig) (tLf _)).val=some r:=h
   show (T.need (adF.okb v.rite ig) (tF _)).val=_
   obtain⟨h1,h2⟩:=ah h
   rw [nv h1]
   simp only [tLf,T.val,Option.some.injEq] at h2
   subst h2;rfl
theorem fy {v:VerM} {c1:T (Ex×VerM)} {c2:T (Ex×St AV)} {r:Ex×VerM} (hc:∀r,c1.val=some r->c2.val=some (r.1,od r.2)) (h:(dm tI tLf v c1).val=some r):(dm tI tF v c2).val=some (r.1,od r.2):=by
 have lf:∀{x r:Ex×VerM},(tLf x).val=some r->(tF x).val=some (r.1,od r.2):=fun {x r} h=>by
  simp only [tLf,T.val,Option.some.injEq] at h
  subst h;rfl
 unfold dm at h ⊢
 cases h1:((v.doing != 0)==true) with
 | false=>rw [h1] at h;exact lf h
 | true =>
   rw [h1] at h
   cases h2:!eE v.rite with
   | false=>rw [h2] at h;exact lf h
   | true =>
     rw [h2] at h
     cases h3:v.doing==1 with
     | true=>rw [h3] at h;exact hc r h
     | false =>
       rw [h3] at h
       cases h4:v.doing==2 with
       | true=>rw [h4] at h;exact hc r h
       | false=>rw [h4] at h;exact lf h
theorem Ql (σ:Sg) (v:VerM) (r:Ex×VerM) (h:(bU v).val=some r):∃s1,Rnd Tryz.prog (NV σ) 52 LA (od v) r.1 s1 /\ ∃π,Back (NV σ) (hpV v).length 52 s1 (od r.2) π:=by
 have hcal:cP Tryz.prog (NV σ) (joinCal (lv (NV σ) (qO adF) 5)):=bo (fU okV mQ hvV Gn 5)
 have hlp:CK Tryz.prog (NV σ) 52 LA (fun _=>none):=fun _ _ _ g hg=>by cases hg
 have noPkOk:∀d a,bZ d=some a->∀π,Lesser (NV σ) (d.ren π) (.abs a):=fun d a h=>by cases h
 obtain⟨so,en,ri,dg,cl,op,job,an⟩:=v
 cases job with
 | none=>exact jQ okV hcal hlp noPkOk (by show 8<=10;decide) ((congrArg T.val (MH σ adF ⟨so,en,ri,dg,cl,op,none,an⟩)).trans (fy (c2:=NA) (fun r h=>by cases h) h))
 | some j =>
   cases j with
   | pile j=>exact jQ okV hcal hlp noPkOk (by show 8<=11;decide) ((congrArg T.val (MG σ adF ⟨so,en,ri,dg,cl,op,none,an⟩ j)).trans (fy (fun r h=>je (ah h).2) h))
   | cort j=>exact jQ okV hcal hlp noPkOk (by show 8<=11;decide) ((congrArg T.val (MI σ adF ⟨so,en,ri,dg,cl,op,none,an⟩ j)).trans (fy (fun r h=>je (ah h).2) h))
   | lit j=>exact jQ okV hcal hlp noPkOk (by show 8<=11;decide) ((congrArg T.val (Qm σ adF ⟨so,en,ri,dg,cl,op,none,an⟩ j)).trans (fy (fun r h=>je (ah h).2) h))
   | vau j=>exact jQ okV hcal hlp noPkOk (by show 8<=11;decide) ((congrArg T.val (Qj σ adF ⟨so,en,ri,dg,cl,op,none,an⟩ j)).trans (fy (fun r h=>by obtain⟨hb,h⟩:=ah h;exact(nv hb).trans (je h)) h))
   | ste j=>exact jQ okV hcal hlp noPkOk (by show 8<=11;decide) ((congrArg T.val (Qk σ adF ⟨so,en,ri,dg,cl,op,none,an⟩ j)).trans (fy (fun r h=>by obtain⟨hb,h⟩:=ah h;exact(nv hb).trans (je h)) h))
def bj (v:VerM):Nat:=match v.job with | none=>0 | some (.pile _)=>1 | some (.cort _)=>2 | some (.lit _)=>3 | some (.vau _)=>4 | some (.ste _)=>5
theorem yq (v:VerM):(hpV v).length=match bj v with | 0=>10 | _=>11:=by
 obtain⟨so,en,ri,dg,cl,op,job,an⟩:=v
 cases job with
 | none=>rfl
 | some j=>cases j<;>rfl
theorem wv (j:JobM) (x:Rp1) (v:VerM):bj {v with job:=some (j.next x).2}=bj {v with job:=some j}:=by cases j<;>rfl
theorem mf {v:VerM} {r:Ex×VerM} (h:(bU v).val=some r):bj r.2=bj v:=by
 unfold bU dm at h
 have lf:∀{x r:Ex×VerM},bj x.2=bj v->(tLf x).val=some r->bj r.2=bj v:=fun {x r} hx h=>by
  simp only [tLf,T.val,Option.some.injEq] at h
  subst h;exact hx
 have hc:∀r,(match v.job with | none=>T.fail "no job" | some j=>tN j.ok (ey tI tN tLf adF v (j.next v.rite.reply))).val=some r->bj r.2=bj v:=fun r h=>by
  split at h
  ·cases h
  ·rename_i j hj
   obtain⟨_,h⟩:=ah h
   have hv:bj {v with job:=some (j.next v.rite.reply).2}=bj v:=(wv j _ v).trans (by rw [<- hj])
   unfold ey at h
   cases hk:(j.next v.rite.reply).1.kind != 12 with
   | true =>
     rw [hk] at h
     obtain⟨_,h⟩:=ah (h:(T.need _ (tLf _)).val=some r)
     exact lf hv h
   | false =>
     rw [hk] at h
     obtain⟨_,h⟩:=ah (h:(T.need _ (tLf _)).val=some r)
     exact lf hv h
 cases h1:((v.doing != 0)==true) with
 | false=>rw [h1] at h;exact lf rfl h
 | true =>
   rw [h1] at h
   cases h2:!eE v.rite with
   | false=>rw [h2] at h;exact lf rfl h
   | true =>
     rw [h2] at h
     cases h3:v.doing==1 with
     | true=>rw [h3] at h;exact hc r h
     | false =>
       rw [h3] at h
       cases h4:v.doing==2 with
       | true=>rw [h4] at h;exact hc r h
       | false=>rw [h4] at h;exact lf rfl h
noncomputable def GL (k:Nat) (v:VerM):T (Ex×VerM):=.need (decide (bj v=k)) (bU v)
theorem wI {k0:Nat} {e:Ex} {v':VerM}:∀(k:Nat) (v:VerM),bj v=k0->bW bU k v=some (e,v')->bW (GL k0) k v=some (e,v')
 | 0,v,_,h=>by cases h
 | k+1,v,hv,h=>by
   have e:(GL k0 v).val=(bU v).val:=nv (decide_eq_true hv)
   cases hs:(bU v).val with
   | none=>simp only [bW,hs] at h;cases h
   | some r =>
     obtain⟨x,m⟩:=r
     cases x with
     | normal =>
       simp only [bW,hs] at h
       simp only [bW,e,hs]
       exact wI k m ((mf hs).trans hv) h
     | exit i =>
       simp only [bW,hs] at h
       simp only [bW,e,hs]
       exact h
     | ret =>
       simp only [bW,hs] at h
       simp only [bW,e,hs]
       exact h
theorem qq {e:Ex} {v':VerM}:∀(k:Nat) (v:VerM),bW bU k v=some (e,v')->bj v'=bj v
 | 0,v,h=>by cases h
 | k+1,v,h=>by
   simp only [bW] at h
   split at h
   ·rename_i m hs
    exact(qq k m h).trans (mf hs)
   ·rename_i hs;cases h;exact mf hs
   ·rename_i hs;cases h;exact mf hs
   ·cases h
def Us (v:VerM) (s:St AV):Prop:=Sx.look s.E 0=.v (.c (.ptr 8 2)) /\ s.H=hpV v
noncomputable def gA (v v':VerM) (s:St AV):T (Ex×St AV):=.need (cH (Us v s)) (.leaf (.exit 0,od v'))
theorem S5 {N':Env AV} (hF:N'.F=(NV σ).F) (hG:N'.G=(NV σ).G) (v v':VerM) (k:Nat) (hk:bW bU k v=some (.exit 0,v')):b7 Tryz.prog N' 52 LA (gA v v'):=by
 refine iO (N:=NV σ) hF hG fun s s' ex hgs=>?_
 obtain⟨E1,H1⟩:=s
 unfold gA at hgs
 replace hgs:=ah hgs
 obtain⟨hb,hgs⟩:=hgs
 obtain⟨e0,eH⟩:=cK hb
 simp only at e0 eH
 subst eH
 simp only [T.val,Option.some.injEq,Prod.mk.injEq] at hgs
 obtain⟨rfl,rfl⟩:=hgs
 refine⟨{M:=VerM,fam:=od,step:=GL (bj v),L:=(hpV v).length,len:=rfl,hGL:=(by rw [yq];show 8<=_;split<;>omega),run:=fun m r hr=>?_,m:=v,k:=k,m':=v',ent:=?_,it:=wI k v rfl hk,fin:=rfl}⟩
 ·obtain⟨hb,hr⟩:=ah hr
  have hb:=of_decide_eq_true hb
  obtain⟨s1,h1,h2⟩:=Ql σ m r hr
  rw [yq,hb,<- yq] at h2
  exact⟨s1,h1,h2⟩
 ·refine kf (N:=NV σ) (nt:=52) (E:=E1) (ks:=ksA) (E':=[(0,.v (.c (.ptr 8 2)))]) fun k hk=>?_
  simp only [ksA,List.mem_cons,List.not_mem_nil,or_false] at hk
  subst hk
  exact .inl e0.symm
noncomputable def lpA (v v':VerM):Lp:=dS 36 0 (gA v v') cZ
theorem Ui (v v':VerM) (k:Nat) (hk:bW bU k v=some (.exit 0,v')):bS Tryz.prog (NVl (lpA v v') σ) :=
 fe fL (fn:=Tryz.f36) (by kernel_rfl) (c:=bC Tryz.f36) (by kernel_rfl) (nt:=52) (by kernel_rfl) (b:=LA) (aR (by kernel_rfl)) (S5 (σ:=σ) (N':=NVl cZ σ) rfl rfl v v' k hk)
noncomputable def qT (lp:Lp) (σ:Sg) (tab:Tab) (f:FuncId) (M:List Bool) (off:Nat) (args:List SV) (a:AV) (ty:TypeId) (gs:Gs):T (SV×List AV×List AV) :=
 oP lp σ tab f M (.v (.c (.ptr 8 off))::args) [a] (cD AV.len ty gs)
theorem K1 {M:List Bool} {a:AV} {l:List AV} {off:Nat} (hM:8=M.length):ClV (hpO M (a::l)) (.v (.c (.ptr 8 off))):=by
 intro c hc n hn
 have hc:c∈[Cell.ptr 8 off]:=hc
 rw [List.mem_singleton.1 hc] at hn
 cases hn
 refine⟨.abs a,?_⟩
 unfold hpO
 rw [ax,cC,if_neg (by omega),hM,Nat.sub_self]
 rfl
theorem He {lp:Lp} (hlp:bS Tryz.prog (NVl lp σ)) {tab:Tab} (ht:bm Tryz.prog (NV σ) tab) {f:FuncId} {M:List Bool} (hM:8=M.length) {off:Nat} {args:List SV} (hf:cS args=true) {a:AV} {ty:TypeId} {gs:Gs} (ho:a.okD=true) (hl:ia σ a=some (cD AV.len ty (dz gs))) {v:SV} {l' nw:List AV}
 (h:(qT lp σ tab f M off args a ty gs).val=some (v,l',nw)):Ctr Tryz.prog (NV σ) f (.v (.c (.ptr 8 off))::args) (hpO M [a]) v (hpO M (l'++nw)) :=
 gZ (jR hlp (ny ht) hM (a:=a) (K:=cD AV.len ty gs) ⟨_,rfl⟩ (fun L S w hq=>o7 ((jW (N:=NVl lp σ) rfl hl ho L S w).1 hq)) (fun x hx=>by
  rcases List.mem_cons.1 hx with rfl | hx
  ·exact K1 hM
  ·exact bL hf x hx) h).1
def zX {γ α:Type} (off:Nat) (A:ArgK γ) (O:ObK α) (ok:α->γ->Option Bool) (next:α->γ->SV×α×List AV) (args:List SV) (l:List AV):T (SV×List AV×List AV):=match args,l with
 | .v (.c (.ptr 8 o))::r,[a]=>match Nat.beq o off,A.dec r,O.X a with
   | true,some x,some j=>tH (ok j x) (.leaf ((next j x).1,[O.V (next j x).2.1],(next j x).2.2))
   | _,_,_=>.fail "method"
 | _,_=>.fail "method"
theorem zW {f:FuncId} {M:List Bool} (hM:8=M.length) {γ α:Type} {off:Nat} {A:ArgK γ} {O:ObK α} {ok:α->γ->Option Bool} {next:α->γ->SV×α×List AV}
 (hrun:∀j x,okO (ok j x)=true->Ctr Tryz.prog (NV σ) f (.v (.c (.ptr 8 off))::A.enc x) (hpO M [O.V j]) (next j x).1 (hpO M (O.V (next j x).2.1::(next j x).2.2))):FnOk Tryz.prog (NV σ) f (aL isS M (zX off A O ok next)):=by
 refine b9 bk hM fun args l v l' nw h hl hargs=>?_
 unfold zX at h
 split at h
 ·rename_i o r a
  split at h
  ·rename_i x j ho hx hj
   have ho:=(af _ _).1 ho
   subst ho
   replace h:=dB h
   obtain⟨hok,h⟩:=h
   simp only [T.val,Option.some.injEq,Prod.mk.injEq] at h
   obtain⟨rfl,rfl,rfl⟩:=h
   have ea:=O.ok _ _ hj
   subst ea
   exact bE (hrun j x hok) fun ρ=>by
    simp only [List.map_cons]
    rw [A.ok _ _ hx ρ]
  ·simp [T.val] at h
 ·simp [T.val] at h
def uA (v:VerM):Prop:=SV.v (.c (.ptr 8 2))=.v (.c (.ptr 8 2)) /\ hpV v=hpV v
theorem mE (v:VerM):cH (uA v)=true:=cQ ⟨rfl,rfl⟩
theorem J1 (σ:Sg) (v v':VerM) (j j':PileM):qT (lpA {v with job:=some (.pile j)} {v' with job:=some (.pile j')}) σ aQ 36 noM 2 [] (dV {v with job:=some (.pile j)}) kX (VerM.wr {v with job:=some (.pile j)}) =
 .need (cH (uA {v with job:=some (.pile j)})) (.need true (.leaf (.tup [],[dV {v' with job:=some (.pile j')}],[]))):=by kernel_rfl
theorem J3 (σ:Sg) (v v':VerM) (j j':CortM):qT (lpA {v with job:=some (.cort j)} {v' with job:=some (.cort j')}) σ aQ 36 noM 2 [] (dV {v with job:=some (.cort j)}) kX (VerM.wr {v with job:=some (.cort j)}) =
 .need (cH (uA {v with job:=some (.cort j)})) (.need true (.leaf (.tup [],[dV {v' with job:=some (.cort j')}],[]))):=by kernel_rfl
theorem ML (σ:Sg) (v v':VerM) (j j':LitM):qT (lpA {v with job:=some (.lit j)} {v' with job:=some (.lit j')}) σ aQ 36 noM 2 [] (dV {v with job:=some (.lit j)}) kX (VerM.wr {v with job:=some (.lit j)}) =
 .need (cH (uA {v with job:=some (.lit j)})) (.need true (.leaf (.tup [],[dV {v' with job:=some (.lit j')}],[]))):=by kernel_rfl
theorem MJ (σ:Sg) (v v':VerM) (j j':VauM):qT (lpA {v with job:=some (.vau j)} {v' with job:=some (.vau j')}) σ aQ 36 noM 2 [] (dV {v with job:=some (.vau j)}) kX (VerM.wr {v with job:=some (.vau j)}) =
 .need (cH (uA {v with job:=some (.vau j)})) (.need true (.leaf (.tup [],[dV {v' with job:=some (.vau j')}],[]))):=by kernel_rfl
theorem MK (σ:Sg) (v v':VerM) (j j':SteM):qT (lpA {v with job:=some (.ste j)} {v' with job:=some (.ste j')}) σ aQ 36 noM 2 [] (dV {v with job:=some (.ste j)}) kX (VerM.wr {v with job:=some (.ste j)}) =
 .need (cH (uA {v with job:=some (.ste j)})) (.need true (.leaf (.tup [],[dV {v' with job:=some (.ste j')}],[]))):=by kernel_rfl
theorem J2 (σ:Sg) (v v':VerM):qT (lpA {v with job:=none} {v' with job:=none}) σ aQ 36 noM 2 [] (dV {v with job:=none}) kX (VerM.wr {v with job:=none}) =
 .need (cH (uA {v with job:=none})) (.need true (.leaf (.tup [],[dV {v' with job:=none}],[]))):=by kernel_rfl
def ra:Nat:=16
noncomputable def JZ (v:VerM):Option (Ex×VerM):=bW bU ra v
noncomputable def dI (v:VerM):VerM:=match JZ v with | some (_,v')=>v' | none=>v
noncomputable def rC (v:VerM):Bool:=match JZ v with | some (.exit 0,_)=>true | _=>false
theorem wa {v:VerM} (h:rC v=true):bW bU ra v=some (.exit 0,dI v):=by
 unfold rC at h
 split at h
 ·rename_i v' hv
  unfold dI
  rw [hv]
  exact hv
 ·cases h
theorem DW (σ:Sg) (v:VerM) (h:rC v=true):Ctr Tryz.prog (NV σ) 36 [.v (.c (.ptr 8 2))] (hpO noM [dV v]) (.tup []) (hpO noM [dV (dI v)]):=by
 have hk:=wa h
 have hkind:=qq ra v hk
 generalize dI v=v' at hk hkind
 have fin:∀(gs:Gs),ia σ (dV v)=some (cD AV.len kX (dz gs))->(qT (lpA v v') σ aQ 36 noM 2 [] (dV v) kX gs).val=some (.tup [],[dV v'],[])->_:=fun gs hl hr=>He (M:=noM) (off:=2) (Ui v v' ra hk) au rfl (args:=[]) rfl (a:=dV v) rfl hl hr
 obtain⟨so,en,ri,dg,cl,op,job,an⟩:=v
 obtain⟨so',en',ri',dg',cl',op',job',an'⟩:=v'
 cases job with
 | none =>
   cases job' with
   | none=>exact fin (VerM.wr ⟨so,en,ri,dg,cl,op,none,an⟩) rfl ((congrArg T.val (J2 σ ⟨so,en,ri,dg,cl,op,none,an⟩ ⟨so',en',ri',dg',cl',op',none,an'⟩)).trans (nv (mE _)))
   | some j'=>cases j'<;>cases hkind
 | some j =>
   cases j with
   | pile j =>
     cases job' with
     | none=>cases hkind
     | some j' =>
       cases j' with
       | pile j'=>exact fin (VerM.wr ⟨so,en,ri,dg,cl,op,some (.pile j),an⟩) rfl ((congrArg T.val (J1 σ ⟨so,en,ri,dg,cl,op,none,an⟩ ⟨so',en',ri',dg',cl',op',none,an'⟩ j j')).trans (nv (mE _)))
       | _=>cases hkind
   | cort j =>
     cases job' with
     | none=>cases hkind
     | some j' =>
       cases j' with
       | cort j'=>exact fin (VerM.wr ⟨so,en,ri,dg,cl,op,some (.cort j),an⟩) rfl ((congrArg T.val (J3 σ ⟨so,en,ri,dg,cl,op,none,an⟩ ⟨so',en',ri',dg',cl',op',none,an'⟩ j j')).trans (nv (mE _)))
       | _=>cases hkind
   | lit j =>
     cases job' with
     | none=>cases hkind
     | some j' =>
       cases j' with
       | lit j'=>exact fin (VerM.wr ⟨so,en,ri,dg,cl,op,some (.lit j),an⟩) rfl ((congrArg T.val (ML σ ⟨so,en,ri,dg,cl,op,none,an⟩ ⟨so',en',ri',dg',cl',op',none,an'⟩ j j')).trans (nv (mE _)))
       | _=>cases hkind
   | vau j =>
     cases job' with
     | none=>cases hkind
     | some j' =>
       cases j' with
       | vau j'=>exact fin (VerM.wr ⟨so,en,ri,dg,cl,op,some (.vau j),an⟩) rfl ((congrArg T.val (MJ σ ⟨so,en,ri,dg,cl,op,none,an⟩ ⟨so',en',ri',dg',cl',op',none,an'⟩ j j')).trans (nv (mE _)))
       | _=>cases hkind
   | ste j =>
     cases job' with
     | none=>cases hkind
     | some j' =>
       cases j' with
       | ste j'=>exact fin (VerM.wr ⟨so,en,ri,dg,cl,op,some (.ste j),an⟩) rfl ((congrArg T.val (MK σ ⟨so,en,ri,dg,cl,op,none,an⟩ ⟨so',en',ri',dg',cl',op',none,an'⟩ j j')).trans (nv (mE _)))
       | _=>cases hkind
end Go.Proofs.YtcpdipfepeccgaaGreatDoor

namespace Go.Proofs.YtcpdipfepeccgaaGreatDoor
open Go Go.Sx Go.Proofs
set_option maxRecDepth 100000
variable {σ:Sg} {lp:Lp}
def aOp:ArgK O where
 enc c:=[.v (.agg (gsC (O.wr c)))]
 dec:=fun | [.v (.agg cs)]=>(match O.rd ((rD cs).map .p) with | some (c,[])=>some c | _=>none) | _=>none
 ok:=fun l a h ρ=>by
  split at h
  ·split at h
   ·rename_i hc
    cases h
    have:=O.rd_s hc
    rw [List.append_nil] at this
    rw [<- this,ju]
    simp only [List.map_cons,List.map_nil,SV.den,V1.den,lK]
   ·cases h
  ·cases h
 free:=fun _=>rfl
section
variable {β:Type} (I:Bool->β->β->β) (ok bad nilp:β)
def QD (o:O):Bool:=match (o.kind==o.kind&&(o.key==0&&(o.val==o.val&&o.tall==0)))==true with | true=>(match decide (0<=o.val)==true with | true=>decide (o.val<=1073741824) | false=>false) | false=>false
def JL (o:O):Bool:=o.kind==o.kind&&(o.key==0&&(o.val==0&&o.tall==0))
def ku (o:O):β:=I (o.kind==1) (I (!QD o) bad ok) (I (o.kind==2) (I (o.kind==2) (I (!JL o) bad ok) bad) (I (o.kind==3) (I (!JL o) bad ok) bad))
def kK (o:O):β:=I (o.kind==4) (I (!QD o) bad ok) (I (o.kind==5) (I (!JL o) bad ok) bad)
def NQ (o:O):Bool:=match (o.val==0)==true with | true=>o.tall==0 | false=>false
def lR (o:O):Bool:=match (match decide (o.key < 0)==false with | true=>decide (o.key > 255) | false=>true) with
 | true=>false
 | false=>match o.kind==6 with
   | true=>(match decide (0<=o.val)==true with
     | true=>(match decide (o.val<=1073741824)==true with | true=>(match decide (0<=o.tall)==true with | true=>decide (o.tall<=3) | false=>false) | false=>false)
     | false=>false)
   | false=>(match o.kind==7 with | true=>(match o.kind==7 with | true=>NQ o | false=>false) | false=>(match o.kind==8 with | true=>NQ o | false=>false))
def l5 (o:O):Bool:=match (!lR o)==false with | true=>o.tall != 0 | false=>true
def yI (o:O):Bool:=match (!lR o)==false with | true=>(match (o.kind==6)==true with | true=>decide (o.tall < 1) | false=>false) | false=>true
def kU (o:O):β:=I (l5 o) bad (I (o.kind==6) (I (o.kind==6) ok nilp) (I (o.kind==7) (I (o.kind==7) ok nilp) (I (o.kind==8) ok nilp)))
def oz (o:O):β:=I (l5 o) bad ok
def oL (o:O):β:=I (yI o) bad ok
end
def cX (s:Int) (o:O):Bool:=if s=1 then ku cond true false o else if s=2 then kK cond true false o else if s=3 then kU cond true false true o else if s=4 then oz cond true false o else if s=5 then oL cond true false o else false
def tO (o:O):PileM:=⟨0,bu,o,aq,aq,0⟩
def tP (o:O):CortM:=⟨0,bu,o,aq,aq,aq,aq,0⟩
def zU (o:O):LitM:=gW (bH 0,o.key,o)
def zS (o:O):VauM:=⟨0,bu,o,0,0,0,0,aq,aq,aq,none,none,⟨0,0⟩,aq⟩
def zT (o:O):SteM:=⟨0,bu,o,none,aq,0,0,0⟩
def tJ {α:Type} (j:α):T (Option α):=.need true (.leaf (some j))
def za {α:Type}:T (Option α):=.fail "load"
def Q1 {α:Type}:T (Option α):=.leaf none
theorem K7 (σ:Sg) (o:O):(eG σ aQ 29 noM (aOp.enc o) []).map (kW oPile)=ku tI (tJ (tO o)) za o:=by kernel_rfl
theorem Mi (σ:Sg) (o:O):(eG σ aQ 30 noM (aOp.enc o) []).map (kW oCort)=kK tI (tJ (tP o)) za o:=by kernel_rfl
theorem Pp (σ:Sg) (o:O):(eG σ aQ 31 noM (aOp.enc o) []).map (kW oLit)=kU tI (tJ (zU o)) za Q1 o:=by kernel_rfl
theorem Of (σ:Sg) (o:O):(eG σ aQ 32 noM (aOp.enc o) []).map (kW oVau)=oz tI (tJ (zS o)) za o:=by kernel_rfl
theorem OD (σ:Sg) (o:O):(eG σ aQ 33 noM (aOp.enc o) []).map (kW oSte)=oL tI (tJ (zT o)) za o:=by kernel_rfl
end Go.Proofs.YtcpdipfepeccgaaGreatDoor

namespace Go.Proofs.YtcpdipfepeccgaaGreatDoor
open Go Go.Sx Go.Proofs
set_option maxRecDepth 100000
variable {σ:Sg}
def rpZ:V1:=rpC ⟨aq,false⟩
def Cr (σ:Sg):V1:=.c (.ifc 252 (.op 1 (σ 1)))
noncomputable def fW (σ:Sg) (m:PlotM) (a:Acc):SV×List AV×List AV:=if m.valid a then(.tup [rpC (m.access a).1,.c .inil],[.plot (m.access a).2],[]) else(.tup [rpZ,Cr σ],[.plot m],[])
def Te (σ:Sg):Option (Int×Nat)->Bool
 | none=>true
 | some (_,i)=>decide (σ i=σ i)
noncomputable def lfD (σ:Sg) (lb ls lf:Nat) (r e:V1) (m:PlotM):T (SV×List AV×List AV) :=
 .need (decide (lb=m.board.length)) (.need (decide (ls=m.slots.length)) (.need (decide (lf=m.free.length)) (.need (Te σ m.fault) (.leaf (.tup [r,e],[.plot m],[])))))
noncomputable def lfM (σ:Sg) (m0:PlotM) (r:Rp1) (m:PlotM):T (SV×List AV×List AV):=lfD σ m0.board.length m0.slots.length m0.free.length (rpC r) (.c .inil) m
noncomputable def lfE (σ:Sg) (m:PlotM):T (SV×List AV×List AV):=lfD σ m.board.length m.slots.length m.free.length rpZ (Cr σ) m
def PlotM.tick (m:PlotM):PlotM:={m with steps:=bp m.steps}
def PlotM.bad (m:PlotM) (e:Nat):PlotM:=match m.fault with | none=>{m.tick with fault:=some (m.tick.steps,e)} | some _=>m.tick
noncomputable def lfB (σ:Sg) (m:PlotM) (k:Int) (e:Nat):T (SV×List AV×List AV):=lfM σ m ⟨if k=1 \/ k=3 then g9 (-1) else aq,false⟩ (m.bad e)
noncomputable def xI (σ:Sg) (m:PlotM) (k:Int) (c:Bool) (w o:W) (m2:PlotM):T (SV×List AV×List AV) :=
 if k=1 then .need c (lfM σ m ⟨w,true⟩ m.tick)
 else if k=2 then .need c (lfM σ m ⟨aq,true⟩ m2)
 else .need c (.need c (.ite (!qS w o) (lfM σ m ⟨w,false⟩ m.tick) (.need c (lfM σ m ⟨w,true⟩ m2))))
def aB (a b:Bool):Bool:=match a==true with | true=>b | false=>false
noncomputable def Gu (σ:Sg) (m:PlotM) (k f:Int) (o n:W):T (SV×List AV×List AV) :=
 .ite (!aB (decide (0<=f)) (decide (f < (m.board.length:Int)))) (lfE σ m) (.need (decide (0<=f /\ f < (m.board.length:Int)))
  (xI σ m k (decide (0+f.toNat < m.board.length)) (m.board.getD (0+f.toNat) kwords.dflt) o {m.tick with board:=m.board.set (0+f.toNat) n}))
def iX (s:Int):Nat:=0+(IntKind.wrap .i64 (s - 1)).toNat
def iB (m:PlotM) (s:Int):Bool:=decide (0<=IntKind.wrap .i64 (s - 1) /\ IntKind.wrap .i64 (s - 1) < (m.slots.length:Int))
noncomputable def xJ (σ:Sg) (m:PlotM) (k s g:Int) (e:Nat) (t:T (SV×List AV×List AV)):T (SV×List AV×List AV) :=
 .need (iB m s) (.need (decide (iX s < m.slots.length)) (.ite (!(m.slots.getD (iX s) kslots.dflt).used) (lfB σ m k e)
  (.need (decide (iX s < m.slots.length)) (.ite ((m.slots.getD (iX s) kslots.dflt).gen != g) (lfB σ m k 7) t))))
noncomputable def Ny (σ:Sg) (m:PlotM) (k s g f:Int) (o n:W):T (SV×List AV×List AV) :=
 .ite (aB (decide (1<=s)) (decide (s<=(m.slots.length:Int)))==true) (.ite (decide (0<=f)==true) (.ite (!decide (f < 10)) (lfE σ m)
  (xJ σ m k s g 6 (.need (match iB m s with | true=>decide (0<=f /\ f < 10) | false=>false)
    (xI σ m k (match decide (iX s < m.slots.length) with | true=>(match decide (f.toNat * 5 % 5=0) with | true=>decide (f.toNat * 5 / 5 < 10) | false=>false) | false=>false)
      ((m.slots.getD (iX s) kslots.dflt).at (f.toNat * 5 / 5)) o {m.tick with slots:=m.slots.set (iX s) ((m.slots.getD (iX s) kslots.dflt).setAt (f.toNat * 5 / 5) n)})))) (lfE σ m)) (lfE σ m)
noncomputable def Nz (σ:Sg) (m:PlotM) (o:W):T (SV×List AV×List AV) :=
 .ite (!aB (decide (1<=o.slot)) (decide (o.slot<=(m.slots.length:Int)))) (lfE σ m) (xJ σ m 5 o.slot o.gen 5
  (.need (iB m o.slot) (.need (decide (iX o.slot < m.slots.length)) (.need (decide (m.free.length=Intf.len (F6 σ) (AV.ints m.free) /\ (m.free.length+1) * (SI.bytes zk+1)<=lim))
    (lfD σ m.board.length m.slots.length (m.free.length+1) (rpC ⟨aq,true⟩) (.c .inil) {m.tick with slots:=m.slots.set (iX o.slot) {m.slots.getD (iX o.slot) kslots.dflt with used:=false},free:=m.free++[⟨o.slot⟩]})))))
noncomputable def Q2 (σ:Sg) (m:PlotM) (n:W):T (SV×List AV×List AV) :=
 let x:=IntKind.wrap .i64 ((m.free.length:Int) - 1)
 let v:=(m.free.getD (0+x.toNat) kints.dflt).val
 let i:=iX v
 let up (l:List Sl) (h:Sl->Sl):List Sl:=l.set i (h (l.getD i kslots.dflt))
 let s1:=up m.slots fun q=>{q with gen:=bp q.gen}
 let s2:=up s1 fun q=>{q with used:=true}
 let s3:=up s2 fun q=>{q with cells:=[aq,aq,aq,aq,aq,aq,aq,aq,aq,g9 n.num]}
 .ite ((m.free.length:Int)==0) (lfM σ m ⟨aq,false⟩ m.tick)
  (.need (match decide (0<=x /\ x < (m.free.length:Int)) with | true=>decide (0+x.toNat < m.free.length) | false=>false)
  (.need (decide ((0:Int)<=0 /\ 0<=x /\ x<=(m.free.length:Int) /\ m.free.length=Intf.len (F6 σ) (AV.ints m.free)))
  (.need (iB m v) (.need (decide (i < m.slots.length)) (.need (decide (i < m.slots.length)) (.need (decide (i < s1.length)) (.need (decide (i < s2.length)) (.need (decide (i < s3.length))
    (lfD σ m.board.length m.slots.length (x.toNat - 0) (rpC ⟨⟨v,(s3.getD i kslots.dflt).gen,0,0,false⟩,true⟩) (.c .inil) {m.tick with slots:=s3,free:=m.free.take x.toNat,made:=bp m.made})))))))))
def CI (k s g:Cell) (f:Int) (o n:List Cell):List Cell:=[k,s,g,.it .i64 f]++o++n
noncomputable def mDo:List Bool:=mkM 38
def pM (a:Acc):List Cell:=[.it .i64 a.kind,.it .i64 a.s,.it .i64 a.g,.it .i64 a.f]++a.old.enc++a.new.enc
noncomputable def NJ (σ:Sg) (cs:List Cell) (m:PlotM):T (SV×List AV×List AV) :=
 G9 σ Ow 38 mDo [.v (.c (.ptr 8 0)),.v (.agg cs)] [.plot m] (lQ σ m)
def N7 (σ:Sg) (m:PlotM) (a:Acc):Prop:=∃cs,(NJ σ cs m).val=some (fW σ m a) /\ (∀ρ,ae ρ cs=ae ρ (pM a)) /\ qf cs=true
theorem Ba {n:Int} (h:1<=n) (h2:n<=5000):IntKind.wrap .i64 (n - 1)=n - 1:=by
 unfold IntKind.wrap
 simp only [IntKind.bits,IntKind.signed]
 first | omega | (simp;omega)
theorem E8 {n:Nat} (h:n<=5000):(n+1) * (SI.bytes zk+1)<=lim:=by
 have:SI.bytes zk<=1000:=by decide
 have:lim=1099511627776:=rfl
 have:(n+1) * (SI.bytes zk+1)<=5001 * 1001:=Nat.mul_le_mul (by omega) (by omega)
 omega
theorem Bf {α:Type} {c:Bool} {t e:T α}:(T.ite c t e).val=if c=true then t.val else e.val:=by cases c<;>rfl
theorem iC {α:Type} {c:Bool} {t:T α} (h:c=true):(T.need c t).val=t.val:=by subst h;rfl
theorem nX {lb ls lf:Nat} {r e:V1} {m:PlotM} (h1:lb=m.board.length) (h2:ls=m.slots.length) (h3:lf=m.free.length):(lfD σ lb ls lf r e m).val=some (.tup [r,e],[.plot m],[]):=by
 unfold lfD
 rw [iC (decide_eq_true h1),iC (decide_eq_true h2),iC (decide_eq_true h3)]
 cases h:m.fault with
 | none=>rfl
 | some x=>rw [show Te σ (some x)=true from decide_eq_true rfl];rfl
theorem jr {m:PlotM} {a:Acc} (h:¬m.valid a):(lfE σ m).val=some (fW σ m a):=by unfold lfE fW;rw [nX rfl rfl rfl,if_neg h]
theorem My {m:PlotM} {e:Nat}:(m.bad e).board=m.board /\ (m.bad e).slots=m.slots /\ (m.bad e).free=m.free:=by unfold PlotM.bad;split<;>exact⟨rfl,rfl,rfl⟩
theorem Dz {m:PlotM} {a:Acc} {e:Nat} (h:m.valid a) (hw:m.wrong a=some e):(lfB σ m a.kind e).val=some (fW σ m a):=by
 obtain⟨h1,h2,h3⟩:=My (m:=m) (e:=e)
 unfold lfB lfM fW
 rw [nX (by rw [h1]) (by rw [h2]) (by rw [h3]),if_pos h]
 unfold PlotM.access PlotM.bad
 rw [hw]
 rfl
theorem vv {m m2:PlotM} {a:Acc} {c:Bool} {w:W} (hk:a.kind=1 \/ a.kind=2 \/ a.kind=3) (h:m.valid a) (hw:m.wrong a=none) (hc:c=true) (h1:m.tick.read a.s a.f=w) (h2:m.tick.write a.s a.f a.new=m2)
 (hb:m2.board.length=m.board.length) (hs:m2.slots.length=m.slots.length) (hf:m2.free=m.free):(xI σ m a.kind c w a.old m2).val=some (fW σ m a):=by
 have e1:∀r,(lfM σ m r m.tick).val=some (.tup [rpC r,.c .inil],[.plot m.tick],[]):=fun r=>nX rfl rfl rfl
 have e2:∀r,(lfM σ m r m2).val=some (.tup [rpC r,.c .inil],[.plot m2],[]):=fun r=>nX hb.symm hs.symm (by rw [hf])
 obtain⟨k,s,g,f,o,n⟩:=a
 unfold xI fW
 rw [if_pos h]
 unfold PlotM.access
 rw [hw]
 subst hc
 dsimp only at hk h1 h2 ⊢
 rw [show ({m with steps:=bp m.steps}:PlotM)=m.tick from rfl,h1,h2]
 rcases hk with rfl | rfl | rfl
 ·simp only [if_true,iC,e1,show ¬(1:Int)=4 by decide,show ¬(1:Int)=5 by decide,if_false]
 ·simp only [if_true,iC,e2,show ¬(2:Int)=4 by decide,show ¬(2:Int)=5 by decide,show ¬(2:Int)=1 by decide,if_false]
 ·simp only [iC,Bf,e1,e2,show ¬(3:Int)=4 by decide,show ¬(3:Int)=5 by decide,show ¬(3:Int)=1 by decide,show ¬(3:Int)=2 by decide,if_false]
  cases qS w o<;>rfl
theorem Bn {m:PlotM} {k f:Int} {o n:W} (hk:k=1 \/ k=2 \/ k=3):(Gu σ m k f o n).val=some (fW σ m ⟨k,0,0,f,o,n⟩):=by
 have hv:m.valid ⟨k,0,0,f,o,n⟩↔0<=f /\ f < (m.board.length:Int):=by unfold PlotM.valid PlotM.hasA;simp [hk]
 unfold Gu
 rw [Bf]
 by_cases h1:0<=f /\ f < (m.board.length:Int)
 ·rw [if_neg (by simp [aB,h1.1,h1.2]),iC (decide_eq_true h1)]
  refine vv (a:=⟨k,0,0,f,o,n⟩) hk (hv.2 h1) ?_ (decide_eq_true (by omega)) ?_ ?_ (by simp) rfl rfl
  ·unfold PlotM.wrong;dsimp only;rw [if_neg (by omega),if_neg (by omega)];rfl
  ·rw [Nat.zero_add];rfl
  ·rw [Nat.zero_add];rfl
 ·rw [if_pos (by simp only [aB];cases h2:decide (0<=f)<;>simp_all)]
  exact jr fun h=>h1 (hv.1 h)
theorem iX_eq {s:Int} (h:1<=s) (h2:s<=5000):iX s=(s - 1).toNat:=by unfold iX;rw [Ba h h2,Nat.zero_add]
theorem LM {m:PlotM} {s:Int} (h:m.has s) (hl:m.slots.length<=5000):iB m s=true:=by
 obtain⟨h,h2⟩:=h
 unfold iB;rw [Ba h (by omega)];exact decide_eq_true (by omega)
theorem vD {m:PlotM} {a:Acc} {k s g:Int} {e:Nat} {t:T (SV×List AV×List AV)} (hk:k=a.kind) (h:m.valid a) (hs:m.has s) (hl:m.slots.length<=5000) (hw:m.wrong a=m.state s g e) (ht:m.wrong a=none->t.val=some (fW σ m a)) :
 (xJ σ m k s g e t).val=some (fW σ m a):=by
 have hb:=LM hs hl
 obtain⟨h1,h2⟩:=hs
 have ei:iX s=(s - 1).toNat:=iX_eq h1 (by omega)
 have hi:decide (iX s < m.slots.length)=true:=decide_eq_true (by omega)
 unfold xJ
 subst hk
 rw [iC hb,iC hi,Bf,iC hi,Bf]
 have e0:m.slots.getD (iX s) kslots.dflt=m.slot s:=by rw [ei];rfl
 rw [e0]
 have hs0:¬s=0:=by omega
 unfold PlotM.state at hw
 rw [if_neg hs0] at hw
 by_cases hu:(m.slot s).used=false
 ·rw [if_pos hu] at hw;rw [if_pos (by rw [hu];rfl)];exact Dz h hw
 ·rw [if_neg hu] at hw;rw [if_neg (by simpa using hu)]
  by_cases hg:(m.slot s).gen=g
  ·rw [if_pos hg] at hw;rw [if_neg (by simp [hg])];exact ht hw
  ·rw [if_neg hg] at hw;rw [if_pos (by simp [hg])];exact Dz h hw
theorem D8 {m:PlotM} {k s g f:Int} {o n:W} (hk:k=1 \/ k=2 \/ k=3) (h0:s≠0) (hl:m.slots.length<=5000):(Ny σ m k s g f o n).val=some (fW σ m ⟨k,s,g,f,o,n⟩):=by
 have hv:m.valid ⟨k,s,g,f,o,n⟩↔m.has s /\ 0<=f /\ f < 10:=by unfold PlotM.valid PlotM.hasA;simp [hk,h0]
 unfold Ny
 simp only [Bf]
 by_cases h1:m.has s
 ·rw [if_pos (by simp [aB,h1.1,h1.2])]
  by_cases h3:0<=f
  ·rw [if_pos (by simp [h3])]
   by_cases h4:f < 10
   ·rw [if_neg (by simp [h4])]
    have h:=hv.2 ⟨h1,h3,h4⟩
    have ei:iX s=(s - 1).toNat:=iX_eq h1.1 (by have:=h1.2;omega)
    have ef:f.toNat * 5 / 5=f.toNat:=by omega
    have hi:decide (iX s < m.slots.length)=true:=decide_eq_true (by have:=h1.1;have:=h1.2;omega)
    refine vD (a:=⟨k,s,g,f,o,n⟩) rfl h h1 hl (by unfold PlotM.wrong;dsimp only;rw [if_neg (by omega),if_neg (by omega)]) fun hw=>?_
    rw [LM h1 hl,iC (decide_eq_true ⟨h3,h4⟩)]
    refine vv (a:=⟨k,s,g,f,o,n⟩) hk h hw ?_ ?_ ?_ rfl (by simp) rfl
    ·rw [hi];dsimp only;rw [decide_eq_true (show f.toNat * 5 % 5=0 by omega)];exact decide_eq_true (by omega)
    ·rw [ei,ef];unfold PlotM.read;rw [if_neg h0];rfl
    ·rw [ei,ef];unfold PlotM.write;rw [if_neg h0];rfl
   ·rw [if_pos (by simp [h4])];exact jr fun h=>h4 (hv.1 h).2.2
  ·rw [if_neg (by simp [h3])];exact jr fun h=>h3 (hv.1 h).2.1
 ·rw [if_neg (by intro h;apply h1;simp only [aB] at h;cases h2:decide (1<=s)<;>simp_all [PlotM.has])]
  exact jr fun h=>h1 (hv.1 h).1
theorem D9 {m:PlotM} {s g f:Int} {o n:W} (hok:m.Ok):(Nz σ m o).val=some (fW σ m ⟨5,s,g,f,o,n⟩):=by
 have hv:m.valid ⟨5,s,g,f,o,n⟩↔m.has o.slot:=by unfold PlotM.valid;simp
 unfold Nz
 rw [Bf]
 by_cases h1:m.has o.slot
 ·rw [if_neg (by simp [aB,h1.1,h1.2])]
  have ei:iX o.slot=(o.slot - 1).toNat:=iX_eq h1.1 (by have:=h1.2;have:=hok.ls;omega)
  have hi:decide (iX o.slot < m.slots.length)=true:=decide_eq_true (by have:=h1.1;have:=h1.2;omega)
  refine vD (a:=⟨5,s,g,f,o,n⟩) rfl (hv.2 h1) h1 hok.ls rfl fun hw=>?_
  rw [iC (LM h1 hok.ls),iC hi,iC (decide_eq_true ⟨rfl,E8 hok.lf⟩)]
  refine Eq.trans (nX rfl (by simp) (by simp)) ?_
  rw [ei]
  unfold fW PlotM.access
  rw [if_pos (hv.2 h1),hw]
  rfl
 ·rw [if_pos (by simp only [aB,PlotM.has] at *;cases h2:decide (1<=o.slot)<;>simp_all)]
  exact jr fun h=>h1 (hv.1 h)
theorem Gt {m:PlotM} {s g f:Int} {o n:W} (hok:m.Ok):(Q2 σ m n).val=some (fW σ m ⟨4,s,g,f,o,n⟩):=by
 unfold fW
 rw [if_pos (show m.valid ⟨4,s,g,f,o,n⟩ by unfold PlotM.valid;simp)]
 obtain⟨b,sl,fr,st,md,ft⟩:=m
 have hl:sl.length<=5000:=hok.ls
 have hf:fr.length<=5000:=hok.lf
 unfold Q2
 simp only [PlotM.access,PlotM.wrong,PlotM.alloc,bp,if_true,PlotM.slot,PlotM.tick,Bf]
 by_cases h0:fr.length=0
 ·rw [if_pos (by simp [h0]),if_pos h0]
  exact nX rfl rfl rfl
 ·have e1:IntKind.wrap .i64 ((fr.length:Int) - 1)=(fr.length:Int) - 1:=Ba (by omega) (by omega)
  have e2:((fr.length:Int) - 1).toNat=fr.length - 1:=by omega
  have e4:fr.length - 1 < fr.length:=by omega
  have hm:fr.getD (fr.length - 1) kints.dflt∈fr:=by
   have:fr.getD (fr.length - 1) kints.dflt=fr[fr.length - 1]:=by simp [List.getD,e4]
   rw [this];exact List.getElem_mem e4
  have i:=hok.fr _ hm
  rw [if_neg (by simpa using h0),if_neg h0]
  simp only [e1,e2,Nat.zero_add]
  generalize fr.getD (fr.length - 1) kints.dflt=q at i hm ⊢
  have ei:=iX_eq i.1 (Int.le_trans i.2 (by show (sl.length:Int)<=5000;omega))
  have hi:(q.val - 1).toNat < sl.length:=by have h1:=i.1;have h2:q.val<=(sl.length:Int):=i.2;omega
  have hb:=LM i hl
  rw [ei,hb]
  simp only [List.length_set,decide_eq_true hi,decide_eq_true e4]
  rw [decide_eq_true (show 0<=(fr.length:Int) - 1 /\ (fr.length:Int) - 1 < (fr.length:Int) by omega),decide_eq_true (show (0:Int)<=0 /\ 0<=(fr.length:Int) - 1 /\ (fr.length:Int) - 1<=(fr.length:Int) /\ fr.length=Intf.len (F6 σ) (AV.ints fr) from⟨by omega,by omega,by omega,rfl⟩)]
  simp only [iC]
  refine Eq.trans (nX rfl (by simp) (by simp)) ?_
  simp [show q.val.toNat - 1 < sl.length by omega,List.getD,List.getElem?_set,aq,g9]
theorem tD {n:Int} {l:List Int} (h:n ∉ l):∀c∈l,(n==c)=false:=fun c hc=>beq_eq_false_iff_ne.2 fun e=>h (e▸hc)
theorem P2 (m:PlotM) (a:Acc) (hok:m.Ok):N7 σ m a:=by
 have K {cs:List Cell} {t:T (SV×List AV×List AV)} (hr:NJ σ cs m=t) (hv:t.val=some (fW σ m a)) (h1:∀ρ,ae ρ cs=ae ρ (pM a)) (h2:qf cs=true):N7 σ m a:=⟨cs,by rw [hr];exact hv,h1,h2⟩
 obtain⟨k,s,g,f,⟨os,og,ot,on,om⟩,n⟩:=a
 by_cases hk:k=1 \/ k=2 \/ k=3
 ·by_cases hs:s=0
  ·by_cases hg:g=0
   ·subst hs hg
    refine K (cs:=CI (.il .i64 k) (.il .i64 0) (.il .i64 0) f (W.mk os og ot on om).enc n.enc) ?_ (Bn hk) (fun _=>rfl) rfl
    obtain⟨b,sl,fr,st,md,_ | ⟨fk,fi⟩⟩:=m<;>rcases hk with rfl | rfl | rfl<;>kernel_rfl
   ·subst hs
    refine K (cs:=CI (.il .i64 k) (.il .i64 0) (.iv .i64 g [0] (tD (by simpa using hg))) f (W.mk os og ot on om).enc n.enc) ?_ (jr (by unfold PlotM.valid PlotM.hasA;simp [hk,hg])) (fun _=>rfl) rfl
    obtain⟨b,sl,fr,st,md,_ | ⟨fk,fi⟩⟩:=m<;>rcases hk with rfl | rfl | rfl<;>kernel_rfl
  ·refine K (cs:=CI (.il .i64 k) (.iv .i64 s [0] (tD (by simpa using hs))) (.it .i64 g) f (W.mk os og ot on om).enc n.enc) ?_ (D8 hk hs hok.ls) (fun _=>rfl) rfl
   obtain⟨b,sl,fr,st,md,_ | ⟨fk,fi⟩⟩:=m<;>rcases hk with rfl | rfl | rfl<;>kernel_rfl
 by_cases k4:k=4
 ·subst k4
  refine K (cs:=CI (.il .i64 4) (.it .i64 s) (.it .i64 g) f (W.mk os og ot on om).enc n.enc) ?_ (Gt hok) (fun _=>rfl) rfl
  obtain⟨b,sl,fr,st,md,_ | ⟨fk,fi⟩⟩:=m<;>kernel_rfl
 by_cases k5:k=5
 ·subst k5
  by_cases ho:os=0
  ·subst ho
   refine K (cs:=CI (.il .i64 5) (.it .i64 s) (.it .i64 g) f [.il .i64 0,.it .i64 og,.it .i64 ot,.it .i64 on,.bt om] n.enc) ?_ (jr (by unfold PlotM.valid PlotM.has;simp)) (fun _=>rfl) rfl
   obtain⟨b,sl,fr,st,md,_ | ⟨fk,fi⟩⟩:=m<;>kernel_rfl
  ·refine K (cs:=CI (.il .i64 5) (.it .i64 s) (.it .i64 g) f [.iv .i64 os [0] (tD (by simpa using ho)),.it .i64 og,.it .i64 ot,.it .i64 on,.bt om] n.enc) ?_ (D9 (o:=⟨os,og,ot,on,om⟩) hok) (fun _=>rfl) rfl
   obtain⟨b,sl,fr,st,md,_ | ⟨fk,fi⟩⟩:=m<;>kernel_rfl
 refine K (cs:=CI (.iv .i64 k [1,2,3,4,5] (tD (by simp;omega))) (.it .i64 s) (.it .i64 g) f (W.mk os og ot on om).enc n.enc) ?_ (jr (by unfold PlotM.valid;simp [hk,k4,k5])) (fun _=>rfl) rfl
 obtain⟨b,sl,fr,st,md,_ | ⟨fk,fi⟩⟩:=m<;>kernel_rfl
end Go.Proofs.YtcpdipfepeccgaaGreatDoor

namespace Go.Proofs.YtcpdipfepeccgaaGreatDoor
open Go Go.Sx Go.Proofs
set_option maxRecDepth 100000
variable {σ:Sg}
def J4:List Cell->Option Acc
 | [c0,c1,c2,c3,c4,c5,c6,c7,c8,c9,c10,c11,c12,c13]=>match iOf c0,iOf c1,iOf c2,iOf c3,W.dec [c4,c5,c6,c7,c8],W.dec [c9,c10,c11,c12,c13] with
   | some k,some s,some g,some f,some o,some n=>some ⟨k,s,g,f,o,n⟩
   | _,_,_,_,_,_=>none
 | _=>none
theorem FG {cs:List Cell} {a:Acc} (h:J4 cs=some a) (ρ:Nm):ae ρ (pM a)=ae ρ cs:=by
 unfold J4 at h
 split at h
 ·split at h
  ·rename_i k s g f o n h0 h1 h2 h3 h4 h5
   cases h
   have e4:=(W.dec_ok _ _ h4)
   have e5:=(W.dec_ok _ _ h5)
   have d4:ae ρ o.enc=ae ρ _:=(fb fun c hc=>(by simp [W.enc] at hc;rcases hc with rfl | rfl | rfl | rfl | rfl<;>rfl)).trans (e4.1.trans (fb e4.2).symm)
   have d5:ae ρ n.enc=ae ρ _:=(fb fun c hc=>(by simp [W.enc] at hc;rcases hc with rfl | rfl | rfl | rfl | rfl<;>rfl)).trans (e5.1.trans (fb e5.2).symm)
   unfold pM
   simp only [ae,List.map_append,List.map_cons,List.map_nil] at d4 d5 ⊢
   rw [d4,d5,aM h0 ρ,aM h1 ρ,aM h2 ρ,aM h3 ρ]
   rfl
  ·cases h
 ·cases h
instance (m:PlotM):Decidable m.Ok:=decidable_of_iff (m.board.length<=5000 /\ m.slots.length<=5000 /\ m.free.length<=5000 /\ ∀x∈m.free,m.has x.val) ⟨fun⟨a,b,c,d⟩=>⟨a,b,c,d⟩,fun⟨a,b,c,d⟩=>⟨a,b,c,d⟩⟩
noncomputable def doS (σ:Sg) (args:List SV) (l:List AV):T (SV×List AV×List AV):=match args,l with
 | [.v (.c (.ptr 8 0)),.v (.agg cs)],[.plot m]=>match J4 cs with
   | some a=>.need (decide m.Ok) (.ite (decide (m.valid a)) (.leaf (.tup [rpC (m.access a).1,.c .inil],[.plot (m.access a).2],[])) (.leaf (.tup [rpZ,Cr σ],[.plot m],[])))
   | none=>.fail "Do"
 | _,_=>.fail "Do"
theorem Jn:FnOk Tryz.prog (NV σ) 38 (aL isS mDo (doS σ)):=by
 refine b9 bk (bQ _) fun args l v l' nw h hl hargs=>?_
 unfold doS at h
 split at h
 ·rename_i cs m
  split at h
  ·rename_i a ha
   replace h:=ah h
   obtain⟨hok,h⟩:=h
   have hok:=of_decide_eq_true hok
   obtain⟨cs',hr,hd,hn⟩:=P2 (σ:=σ) m a hok
   have h2:fW σ m a=(v,l',nw):=by
    unfold fW
    by_cases hv:m.valid a
    ·rw [if_pos hv];rw [decide_eq_true hv] at h;exact Option.some.inj h
    ·rw [if_neg hv];rw [decide_eq_false hv] at h;exact Option.some.inj h
   rw [h2] at hr
   have hc:=KI CX (σ:=σ) (M:=mDo) (bQ _) (a:=.plot m) (l:=[]) (K:=lQ σ m) rfl ⟨_,rfl⟩ rfl (fun x hx=>by
    simp only [List.mem_cons,List.not_mem_nil,or_false] at hx
    rcases hx with rfl | rfl
    ·exact hargs _ (by simp)
    ·intro c hc n hcn;rw [lL hn c hc] at hcn;cases hcn) hr
   exact bE hc.1 fun ρ=>by
    simp only [List.map_cons,List.map_nil,SV.den,V1.den]
    rw [hd ρ,FG ha ρ]
  ·simp [T.val] at h
 ·simp [T.val] at h
end Go.Proofs.YtcpdipfepeccgaaGreatDoor

namespace Go.Proofs.YtcpdipfepeccgaaGreatDoor
open Go Go.Sx Go.Proofs
set_option maxRecDepth 100000
variable {σ:Sg} {lp:Lp}
structure StF where
 okt:RiteM->Bool
 tk:RiteM->Rp1->RiteM
 oka:VerM->Bool
 ad:VerM->VerM
 ap:VerM->PileM
 ac:VerM->CortM
 al:VerM->LitM
 av:VerM->VauM
 ast:VerM->SteM
def IU (F:StF) (k:Nat) (v:VerM):Option JobM:=match k with | 0=>none | 1=>some (.pile (F.ap v)) | 2=>some (.cort (F.ac v)) | 3=>some (.lit (F.al v)) | 4=>some (.vau (F.av v)) | _=>some (.ste (F.ast v))
noncomputable def Gh (σ:Sg) (F:StF) (k:Nat):Tab:=aC 58 (aL isS noM (cU aNo vBo oRite (fun _ _=>none) (fun m _=>(eE m,m)))) (aC 37 (aL isS noM (cU aNo Oi oRite (fun _ _=>none) (fun m _=>(fJ m,m))))
 (aC 39 (aL isS noM (cU aRp sg oRite (fun m _=>some (F.okt m)) (fun m x=>((),F.tk m x)))) (aC 38 (aL isS mDo (doS σ))
 (aC 36 (FU σ (aL isS noM (zX 2 aNo oVer (fun v _=>some (F.oka v)) fun v _=>(.tup [],{F.ad v with job:=IU F k v},[])))) aQ))))
noncomputable def mSt:List Bool:=mkM 21
def Md:SV×List AV×List AV->Option (SV×VerM×PlotM)
 | (v,[.ver a,.plot p],[])=>some (v,a,p)
 | _=>none
noncomputable def vH (σ:Sg) (F:StF) (k:Nat) (v:VerM) (p:PlotM):T (Option (SV×VerM×PlotM)):=(oP cZ σ (Gh σ F k) 21 mSt [.v (.c (.ptr 8 0)),.v (.c (.ptr 9 0))] [dV v,.plot p] (cD AV.len kX (VerM.wr v))).map Md
end Go.Proofs.YtcpdipfepeccgaaGreatDoor

namespace Go.Proofs.YtcpdipfepeccgaaGreatDoor
open Go Go.Sx Go.Proofs
set_option maxRecDepth 100000
variable {σ:Sg} {lp:Lp}
structure Strd where
 over:Bool
 code:Int
 val:Int
 real:Int
def Kz (s:Strd):V1:=.agg [.bt s.over,.it .i64 s.code,.it .i64 s.val,.it .i64 s.real]
def jl (σ:Sg) (i:Nat):V1:=.c (.ifc 252 (.op i (σ i)))
def ErS:Nat:=0
def ErA:Nat:=1
def zc:V1:=.agg [.bt false,.it .i64 0,.it .i64 0,.it .i64 0]
section
variable {β:Type} (I:Bool->β->β->β) (N:Bool->β->β)
def fZ (L:Strd->VerM->β) (oka:VerM->Bool) (ad:VerM->VerM) (v1:VerM) (r:Int):β :=
 N true (N (oka v1) (I ((ad v1).doing==0) (N true (L ⟨true,(ad v1).answer.code,(ad v1).answer.val,r⟩ (ad v1))) (N true (L ⟨false,0,0,r⟩ (ad v1)))))
def kt (L:Strd->VerM->β) (oka:VerM->Bool) (ad:VerM->VerM) (v v1:VerM) (a:Acc):β :=
 let fin:=fZ I N L oka ad v1
 I (v.call.kind==6) (I (eE v1.rite) (fin (-1)) (I (orB (v.engine==3) (v.engine==5)) (fin 1) (fin 0)))
 (I (v.call.kind==8) (I (a.kind != 4) (fin (-1)) (fin 0))
 (I (v.call.kind==3) (I (v.call.kind==3) (fin 0) (fin (-1)))
 (I (v.call.kind==4) (I (v.call.kind==4) (fin 0) (fin (-1)))
 (I (v.call.kind==5) (I (v.call.kind==5) (fin 0) (fin (-1)))
 (I (v.call.kind==9) (fin 0) (fin (-1)))))))
end
def u9 {β:Type} (I:Bool->β->β->β) (N:Bool->β->β) (E:Nat->β) (L:Strd->VerM->PlotM->β) (okt:RiteM->Bool) (tk:RiteM->Rp1->RiteM) (oka:VerM->Bool) (ad:VerM->VerM) (v:VerM) (p:PlotM):β :=
 let a:=(fJ v.rite).1
 I (!(v.doing != 0)) (N true (E ErS))
   (N (decide p.Ok) (I (decide (p.valid a)) (N (okt v.rite) (kt I N (fun s v'=>L s v' (p.access a).2) oka ad v {v with rite:=tk v.rite (p.access a).1} a)) (N true (E ErA))))
def stL (s:Strd) (v:VerM) (p:PlotM):T (Option (SV×VerM×PlotM)):=.leaf (some (.tup [Kz s,.c .inil],v,p))
def stE (σ:Sg) (v:VerM) (p:PlotM) (i:Nat):T (Option (SV×VerM×PlotM)):=.leaf (some (.tup [zc,jl σ i],v,p))
def adK (F:StF) (k:Nat) (v:VerM):VerM:={F.ad v with job:=IU F k v}
theorem Ra (σ:Sg) (F:StF) (v:VerM) (p:PlotM):vH σ F 0 {v with job:=none} p=u9 tI tN (stE σ {v with job:=none} p) stL F.okt F.tk F.oka (adK F 0) {v with job:=none} p:=by kernel_rfl
theorem Q9 (σ:Sg) (F:StF) (v:VerM) (j:PileM) (p:PlotM):vH σ F 1 {v with job:=some (.pile j)} p=u9 tI tN (stE σ {v with job:=some (.pile j)} p) stL F.okt F.tk F.oka (adK F 1) {v with job:=some (.pile j)} p:=by kernel_rfl
theorem Q8 (σ:Sg) (F:StF) (v:VerM) (j:CortM) (p:PlotM):vH σ F 2 {v with job:=some (.cort j)} p=u9 tI tN (stE σ {v with job:=some (.cort j)} p) stL F.okt F.tk F.oka (adK F 2) {v with job:=some (.cort j)} p:=by kernel_rfl
theorem Q7 (σ:Sg) (F:StF) (v:VerM) (j:LitM) (p:PlotM):vH σ F 3 {v with job:=some (.lit j)} p=u9 tI tN (stE σ {v with job:=some (.lit j)} p) stL F.okt F.tk F.oka (adK F 3) {v with job:=some (.lit j)} p:=by kernel_rfl
theorem Q6 (σ:Sg) (F:StF) (v:VerM) (j:VauM) (p:PlotM):vH σ F 4 {v with job:=some (.vau j)} p=u9 tI tN (stE σ {v with job:=some (.vau j)} p) stL F.okt F.tk F.oka (adK F 4) {v with job:=some (.vau j)} p:=by kernel_rfl
theorem Q5 (σ:Sg) (F:StF) (v:VerM) (j:SteM) (p:PlotM):vH σ F 5 {v with job:=some (.ste j)} p=u9 tI tN (stE σ {v with job:=some (.ste j)} p) stL F.okt F.tk F.oka (adK F 5) {v with job:=some (.ste j)} p:=by kernel_rfl
noncomputable def stF (k:Nat):StF where
 okt:=ya
 tk:=eJ
 oka v:=match rC v with | true=>Nat.beq (bj v) k | false=>false
 ad:=dI
 ap v:=match (dI v).job with | some (.pile j)=>j | _=>tO ⟨0,0,0,0⟩
 ac v:=match (dI v).job with | some (.cort j)=>j | _=>tP ⟨0,0,0,0⟩
 al v:=match (dI v).job with | some (.lit j)=>j | _=>zU ⟨0,0,0,0⟩
 av v:=match (dI v).job with | some (.vau j)=>j | _=>zS ⟨0,0,0,0⟩
 ast v:=match (dI v).job with | some (.ste j)=>j | _=>zT ⟨0,0,0,0⟩
theorem xM {k:Nat} {v:VerM} (h:(stF k).oka v=true):rC v=true /\ bj v=k:=by
 have h:(match rC v with | true=>Nat.beq (bj v) k | false=>false)=true:=h
 split at h
 ·rename_i h1;exact⟨h1,(af _ _).1 h⟩
 ·cases h
theorem adK_eq {k:Nat} {v:VerM} (h:(stF k).oka v=true):adK (stF k) k v=dI v:=by
 obtain⟨h1,h2⟩:=xM h
 have hk:=(qq ra v (wa h1)).trans h2
 unfold adK IU stF
 dsimp only
 generalize dI v=w at hk ⊢
 obtain⟨so,en,ri,dg,cl,op,job,an⟩:=w
 cases job with
 | none=>cases hk;rfl
 | some j=>cases j<;>(cases hk;rfl)
theorem Gg (k:Nat):bm Tryz.prog (NV σ) (Gh σ (stF k) k):=by
 refine aj pX (aj EC (aj Ks (aj Jn (aj (xD (zW rfl fun v x h=>?_)) au))))
 have h:(stF k).oka v=true:=h
 have e:{(stF k).ad v with job:=IU (stF k) k v}=dI v:=adK_eq h
 show Ctr _ _ _ _ _ (.tup []) (hpO noM [dV {(stF k).ad v with job:=IU (stF k) k v}])
 rw [e]
 exact DW σ v (xM h).1
noncomputable def oG (v:VerM) (p:PlotM):VerM:={v with rite:=eJ v.rite (p.access (fJ v.rite).1).1}
noncomputable def cL (v:VerM) (p:PlotM):Strd×VerM×PlotM :=
 kt cond (fun _ t=>t) (fun s v'=>(s,v',(p.access (fJ v.rite).1).2)) (fun _=>true) dI v (oG v p) (fJ v.rite).1
def Dn (v:VerM) (p:PlotM):Prop:=ya v.rite=true /\ rC (oG v p)=true
noncomputable def C4 (σ:Sg) (args:List SV) (l:List AV):T (SV×List AV×List AV):=match args,l with
 | [.v (.c (.ptr 8 0)),.v (.c (.ptr 9 0))],[.ver v,.plot p] =>
   .ite (!(v.doing != 0)) (.leaf (.tup [zc,jl σ ErS],[.ver v,.plot p],[]))
    (.need (decide p.Ok) (.ite (decide (p.valid (fJ v.rite).1)) (.need (cH (Dn v p)) (.leaf (.tup [Kz (cL v p).1,.c .inil],[.ver (cL v p).2.1,.plot (cL v p).2.2],[]))) (.leaf (.tup [zc,jl σ ErA],[.ver v,.plot p],[]))))
 | _,_=>.fail "Step"
theorem ze {β:Type} {f:Strd×VerM×PlotM->β} {L:Strd->VerM->T β} {p2:PlotM} {oka:VerM->Bool} {ad:VerM->VerM} {v v1:VerM} {a:Acc} (ho:oka v1=true) (he:ad v1=dI v1) (hL:∀s v',L s v'=.leaf (f (s,v',p2))) :
 (kt tI tN L oka ad v v1 a).val=some (f (kt cond (fun _ t=>t) (fun s v'=>(s,v',p2)) (fun _=>true) dI v v1 a)):=by
 have fin:∀r,(fZ tI tN L oka ad v1 r).val=some (f (fZ cond (fun _ t=>t) (fun s v'=>(s,v',p2)) (fun _=>true) dI v1 r)):=fun r=>by
  unfold fZ
  rw [he,ho,hL,hL]
  show (tI _ _ _).val=_
  cases (dI v1).doing==0<;>rfl
 unfold kt
 dsimp only
 have spl:∀{b:Bool} {t e:T β} {x y:Strd×VerM×PlotM},t.val=some (f x)->e.val=some (f y)->(tI b t e).val=some (f (cond b x y)):=fun {b t e x y} h1 h2=>by cases b<;>assumption
 repeat' first | exact fin _ | apply spl
theorem GI (σ:Sg) (v:VerM) (p:PlotM) (r:Option (SV×VerM×PlotM)) (h:(u9 tI tN (stE σ v p) stL ya eJ (stF (bj v)).oka (adK (stF (bj v)) (bj v)) v p).val=some r) :
 (oP cZ σ (Gh σ (stF (bj v)) (bj v)) 21 mSt [.v (.c (.ptr 8 0)),.v (.c (.ptr 9 0))] [dV v,.plot p] (cD AV.len kX (VerM.wr v)) |>.map Md).val=some r:=by
 obtain⟨so,en,ri,dg,cl,op,job,an⟩:=v
 cases job with
 | none=>exact(congrArg T.val (Ra σ (stF 0) ⟨so,en,ri,dg,cl,op,none,an⟩ p)).trans h
 | some j =>
   cases j with
   | pile j=>exact(congrArg T.val (Q9 σ (stF 1) ⟨so,en,ri,dg,cl,op,none,an⟩ j p)).trans h
   | cort j=>exact(congrArg T.val (Q8 σ (stF 2) ⟨so,en,ri,dg,cl,op,none,an⟩ j p)).trans h
   | lit j=>exact(congrArg T.val (Q7 σ (stF 3) ⟨so,en,ri,dg,cl,op,none,an⟩ j p)).trans h
   | vau j=>exact(congrArg T.val (Q6 σ (stF 4) ⟨so,en,ri,dg,cl,op,none,an⟩ j p)).trans h
   | ste j=>exact(congrArg T.val (Q5 σ (stF 5) ⟨so,en,ri,dg,cl,op,none,an⟩ j p)).trans h
theorem Fq {r:SV×List AV×List AV} {v:SV} {a:VerM} {p:PlotM} (h:Md r=some (v,a,p)):r=(v,[.ver a,.plot p],[]):=by
 unfold Md at h
 split at h
 ·cases h;rfl
 ·cases h
theorem On {M:List Bool} (hM:8=M.length) {a b:AV} {l:List AV}:∀x∈[SV.v (.c (.ptr 8 0)),.v (.c (.ptr 9 0))],ClV (hpO M (a::b::l)) x:=fun x hx=>by
 simp only [List.mem_cons,List.not_mem_nil,or_false] at hx
 rcases hx with rfl | rfl
 ·exact tc hM
 ·intro c hc n hn
  have hc:c∈[Cell.ptr 9 0]:=hc
  rw [List.mem_singleton.1 hc] at hn
  cases hn
  refine⟨.abs b,?_⟩
  unfold hpO
  rw [ax,cC,if_neg (by omega),<- hM]
  rfl
theorem GJ (σ:Sg) (v:VerM) (p:PlotM) {x:SV} {v':VerM} {p':PlotM} (h:(u9 tI tN (stE σ v p) stL ya eJ (stF (bj v)).oka (adK (stF (bj v)) (bj v)) v p).val=some (some (x,v',p'))) :
 Ctr Tryz.prog (NV σ) 21 [.v (.c (.ptr 8 0)),.v (.c (.ptr 9 0))] (hpO mSt [dV v,.plot p]) x (hpO mSt [dV v',.plot p']):=by
 obtain⟨y,h1,h2⟩:=map_some (GI σ v p _ h)
 rw [Fq h2] at h1
 exact gZ (jR fL (ny (Gg _)) (bQ _) (a:=dV v) (K:=cD AV.len kX (VerM.wr v)) ⟨_,rfl⟩ (fun L S w hq=>(jW (N:=NVl cZ σ) rfl (by exact rfl) rfl L S w).1 hq) (On (bQ _)) h1).1
theorem KA:FnOk Tryz.prog (NV σ) 21 (aL isS mSt (C4 σ)):=by
 refine b9 bk (bQ _) fun args l x l' nw h hl hargs=>?_
 unfold C4 at h
 split at h
 ·rename_i v p
  have fin:∀{x0:SV} {v0:VerM} {p0:PlotM},(u9 tI tN (stE σ v p) stL ya eJ (stF (bj v)).oka (adK (stF (bj v)) (bj v)) v p).val=some (some (x0,v0,p0))->some (x0,[AV.ver v0,.plot p0],([]:List AV))=some (x,l',nw)->Ctr Tryz.prog (NV σ) 21 [.v (.c (.ptr 8 0)),.v (.c (.ptr 9 0))] (hpO mSt [dV v,.plot p]) x (hpO mSt (l'++nw)):=fun {x0 v0 p0} h1 h2=>by
   simp only [Option.some.injEq,Prod.mk.injEq] at h2
   obtain⟨rfl,rfl,rfl⟩:=h2
   exact GJ σ v p h1
  unfold u9 at fin
  dsimp only at fin
  cases hb:(!(v.doing != 0)) with
  | true =>
    rw [hb] at h fin
    exact fin rfl h
  | false =>
    rw [hb] at h fin
    obtain⟨h1,h⟩:=ah (h:(T.need _ _).val=_)
    cases hv:decide (p.valid (fJ v.rite).1) with
    | false =>
      rw [hv] at h fin
      exact fin (nv h1) h
    | true =>
      rw [hv] at h fin
      obtain⟨h2,h⟩:=ah (h:(T.need _ _).val=_)
      obtain⟨h3,h4⟩:=cK h2
      have ho:(stF (bj v)).oka (oG v p)=true:=by
       show (match rC (oG v p) with | true=>Nat.beq (bj (oG v p)) (bj v) | false=>false)=true
       rw [h4]
       exact(af _ _).2 rfl
      refine fin ((nv h1).trans ((nv h3).trans (ze (f:=fun r=>some (SV.tup [Kz r.1,.c .inil],r.2.1,r.2.2)) ho (adK_eq ho) fun _ _=>rfl))) h
 ·simp [T.val] at h
end Go.Proofs.YtcpdipfepeccgaaGreatDoor
