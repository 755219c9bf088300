import Derived.Test.YtadmfaohjnjajaaGreatDoorRr
import Derived.Test.YtadmfaohjnjajaaGreatDoorPb
set_option linter.unusedVariables false
set_option linter.unusedSimpArgs false
set_option maxHeartbeats 0
set_option maxRecDepth 100000
noncomputable section
namespace Go.Proofs.YtadmfaohjnjajaaGreatDoor
section
open Go Go.Sx Go.Proofs
variable {σ:Sg} {lp:Lp}
def dU.next:dU->cr->Cl×dU
 | .dZ j,x=>((oe j x).1,.dZ (oe j x).2)
 | .dH j,x=>((mF j x).1,.dH (mF j x).2)
 | .lit j,x=>((b6 j x).1,.lit (b6 j x).2)
 | .ph j,x=>((bc j x).1,.ph (bc j x).2)
 | .oM j,x=>((aM j x).1,.oM (aM j x).2)
def dU.ok:dU->Bool
 | .ph j=>R1 j
 | .oM j=>K8 j
 | _=>true
def Gr (r:Ex×az):T (Ex×az):=.aE r
def cF (v:az):T (Ex×az):=eT tI Gr v (match v.cC with | none=>.fail "no job" | some j=>tN j.ok (fX tI tN Gr Ge v (j.next v.aQ.bz)))
theorem qa {v:az} {nx:Cl×dU} {r:Ex×az} (h:(fX tI tN Gr Ge v nx).val=some r):(fX tI tN tF Ge v nx).val=some (r.1,xP r.2):=by
 unfold fX at h ⊢
 cases hk:nx.1.aj != 12 with
 | true =>
   rw [hk] at h
   have h:(T.aJ (Ge.Tv v.aQ nx.1) (Gr _)).val=some r:=h
   show (T.aJ (Ge.Tv v.aQ nx.1) (tF _)).val=_
   obtain⟨h1,h2⟩:=aD h
   rw [nv h1]
   simp only [Gr,T.val,aaC] at h2
   subst h2;rfl
 | false =>
   rw [hk] at h
   have h:(T.aJ (Ge.Tv v.aQ fU) (Gr _)).val=some r:=h
   show (T.aJ (Ge.Tv v.aQ fU) (tF _)).val=_
   obtain⟨h1,h2⟩:=aD h
   rw [nv h1]
   simp only [Gr,T.val,aaC] at h2
   subst h2;rfl
theorem lZ {v:az} {c1:T (Ex×az)} {c2:T (Ex×St AV)} {r:Ex×az} (hc:∀r,c1.val=some r->c2.val=some (r.1,xP r.2)) (h:(eT tI Gr v c1).val=some r):(eT tI tF v c2).val=some (r.1,xP r.2):=by
 have lf:∀{x r:Ex×az},(Gr x).val=some r->(tF x).val=some (r.1,xP r.2):=fun {x r} h=>by
  simp only [Gr,T.val,aaC] at h
  subst h;rfl
 unfold eT at h ⊢
 cases h1:((v.bh != 0)==true) with
 | false=>rw [h1] at h;exact lf h
 | true =>
   rw [h1] at h
   cases h2:!iq v.aQ with
   | false=>rw [h2] at h;exact lf h
   | true =>
     rw [h2] at h
     cases h3:v.bh==1 with
     | true=>rw [h3] at h;exact hc r h
     | false =>
       rw [h3] at h
       cases h4:v.bh==2 with
       | true=>rw [h4] at h;exact hc r h
       | false=>rw [h4] at h;exact lf h
theorem ah7 (σ:Sg) (v:az) (r:Ex×az) (h:(cF v).val=some r):∃s1,Rnd Tryz.prog (NV σ) 52 LA (xP v) r.1 s1 /\ ∃π,vm (NV σ) (hpV v).length 52 s1 (xP r.2) π:=by
 have cH:gF Tryz.prog (NV σ) (bs (lv (NV σ) (Bn Ge) 5)):=dj (my rH tA J7 Uo 5)
 have qd:O7 Tryz.prog (NV σ) 52 LA (fun _=>none):=fun _ _ _ g hg=>by cases hg
 have Ao:∀d a,eV d=some a->∀π,ig (NV σ) (d.cN π) (.bI a):=fun d a h=>by cases h
 obtain⟨so,en,ri,dg,cl,op,cC,an⟩:=v
 cases cC with
 | none=>exact rA rH cH qd Ao (by show 7<=9;decide) ((congrArg T.val (acF σ Ge ⟨so,en,ri,dg,cl,op,none,an⟩)).trans (lZ (c2:=adA) (fun r h=>by cases h) h))
 | some j =>
   cases j with
   | dZ j=>exact rA rH cH qd Ao (by show 7<=10;decide) ((congrArg T.val (acE σ Ge ⟨so,en,ri,dg,cl,op,none,an⟩ j)).trans (lZ (fun r h=>qa (aD h).2) h))
   | dH j=>exact rA rH cH qd Ao (by show 7<=10;decide) ((congrArg T.val (acG σ Ge ⟨so,en,ri,dg,cl,op,none,an⟩ j)).trans (lZ (fun r h=>qa (aD h).2) h))
   | lit j=>exact rA rH cH qd Ao (by show 7<=10;decide) ((congrArg T.val (ah8 σ Ge ⟨so,en,ri,dg,cl,op,none,an⟩ j)).trans (lZ (fun r h=>qa (aD h).2) h))
   | ph j=>exact rA rH cH qd Ao (by show 7<=10;decide) ((congrArg T.val (ah5 σ Ge ⟨so,en,ri,dg,cl,op,none,an⟩ j)).trans (lZ (fun r h=>by obtain⟨hb,h⟩:=aD h;exact(nv hb).trans (qa h)) h))
   | oM j=>exact rA rH cH qd Ao (by show 7<=10;decide) ((congrArg T.val (ah6 σ Ge ⟨so,en,ri,dg,cl,op,none,an⟩ j)).trans (lZ (fun r h=>by obtain⟨hb,h⟩:=aD h;exact(nv hb).trans (qa h)) h))
def cZ (v:az):Nat:=match v.cC with | none=>0 | some (.dZ _)=>1 | some (.dH _)=>2 | some (.lit _)=>3 | some (.ph _)=>4 | some (.oM _)=>5
theorem Jv (v:az):(hpV v).length=match cZ v with | 0=>9 | _=>10:=by
 obtain⟨so,en,ri,dg,cl,op,cC,an⟩:=v
 cases cC with
 | none=>rfl
 | some j=>cases j<;>rfl
theorem GZ (j:dU) (x:cr) (v:az):cZ {v with cC:=some (j.next x).2}=cZ {v with cC:=some j}:=by cases j<;>rfl
theorem vz {v:az} {r:Ex×az} (h:(cF v).val=some r):cZ r.2=cZ v:=by
 unfold cF eT at h
 have lf:∀{x r:Ex×az},cZ x.2=cZ v->(Gr x).val=some r->cZ r.2=cZ v:=fun {x r} hx h=>by
  simp only [Gr,T.val,aaC] at h
  subst h;exact hx
 have hc:∀r,(match v.cC with | none=>T.fail "no job" | some j=>tN j.ok (fX tI tN Gr Ge v (j.next v.aQ.bz))).val=some r->cZ r.2=cZ v:=fun r h=>by
  split at h
  ·cases h
  ·rename_i j hj
   obtain⟨_,h⟩:=aD h
   have hv:cZ {v with cC:=some (j.next v.aQ.bz).2}=cZ v:=(GZ j _ v).trans (by rw [<- hj])
   unfold fX at h
   cases hk:(j.next v.aQ.bz).1.aj != 12 with
   | true =>
     rw [hk] at h
     obtain⟨_,h⟩:=aD (h:(T.aJ _ (Gr _)).val=some r)
     exact lf hv h
   | false =>
     rw [hk] at h
     obtain⟨_,h⟩:=aD (h:(T.aJ _ (Gr _)).val=some r)
     exact lf hv h
 cases h1:((v.bh != 0)==true) with
 | false=>rw [h1] at h;exact lf rfl h
 | true =>
   rw [h1] at h
   cases h2:!iq v.aQ with
   | false=>rw [h2] at h;exact lf rfl h
   | true =>
     rw [h2] at h
     cases h3:v.bh==1 with
     | true=>rw [h3] at h;exact hc r h
     | false =>
       rw [h3] at h
       cases h4:v.bh==2 with
       | true=>rw [h4] at h;exact hc r h
       | false=>rw [h4] at h;exact lf rfl h
def UH (k:Nat) (v:az):T (Ex×az):=.aJ (decide (cZ v=k)) (cF v)
theorem Hg {k0:Nat} {e:Ex} {v':az}:∀(k:Nat) (v:az),cZ v=k0->eJ cF k v=some (e,v')->eJ (UH k0) k v=some (e,v')
 | 0,v,_,h=>by cases h
 | k+1,v,hv,h=>by
   have e:(UH k0 v).val=(cF v).val:=nv (aaS hv)
   cases hs:(cF v).val with
   | none=>simp only [eJ,hs] at h;cases h
   | some r =>
     obtain⟨x,m⟩:=r
     cases x with
     | normal =>
       simp only [eJ,hs] at h
       simp only [eJ,e,hs]
       exact Hg k m ((vz hs).trans hv) h
     | exit i =>
       simp only [eJ,hs] at h
       simp only [eJ,e,hs]
       exact h
     | ret =>
       simp only [eJ,hs] at h
       simp only [eJ,e,hs]
       exact h
theorem AE {e:Ex} {v':az}:∀(k:Nat) (v:az),eJ cF k v=some (e,v')->cZ v'=cZ v
 | 0,v,h=>by cases h
 | k+1,v,h=>by
   simp only [eJ] at h
   split at h
   ·rename_i m hs
    exact(AE k m h).trans (vz hs)
   ·rename_i hs;cases h;exact vz hs
   ·rename_i hs;cases h;exact vz hs
   ·cases h
def arT (v:az) (s:St AV):Prop:=Sx.aF s.E 0=.v (.c (.ptr 7 2)) /\ s.H=hpV v
def gA (v v':az) (s:St AV):T (Ex×St AV):=.aJ (iI (arT v s)) (.aE (.exit 0,xP v'))
theorem amM {N':dV AV} (hF:N'.F=(NV σ).F) (hG:N'.G=(NV σ).G) (v v':az) (k:Nat) (hk:eJ cF k v=some (.exit 0,v')):fY Tryz.prog N' 52 LA (gA v v'):=by
 refine D5 (N:=NV σ) hF hG fun s s' ex cG=>?_
 obtain⟨E1,H1⟩:=s
 unfold gA at cG
 replace cG:=aD cG
 obtain⟨hb,cG⟩:=cG
 obtain⟨e0,eH⟩:=gJ hb
 simp only at e0 eH
 subst eH
 cases cG
 refine⟨{M:=az,sH:=xP,step:=UH (cZ v),L:=(hpV v).length,len:=rfl,FL:=(by rw [Jv];show 7<=_;split<;>omega),run:=fun m r hr=>?_,m:=v,k:=k,m':=v',Ka:=?_,it:=Hg k v rfl hk,fin:=rfl}⟩
 ·obtain⟨hb,hr⟩:=aD hr
  have hb:=aaV hb
  obtain⟨s1,h1,h2⟩:=ah7 σ m r hr
  rw [Jv,hb,<- Jv] at h2
  exact⟨s1,h1,h2⟩
 ·refine rS (N:=NV σ) (nt:=52) (E:=E1) (ks:=ksA) (E':=[(0,.v (.c (.ptr 7 2)))]) fun k hk=>?_
  simp only [ksA,abk,abo,or_false] at hk
  subst hk
  exact .inl e0.symm
def lpA (v v':az):Lp:=lV 29 0 (gA v v') jr
theorem aqe (v v':az) (k:Nat) (hk:eJ cF k v=some (.exit 0,v')):fH Tryz.prog (hP (lpA v v') σ) :=
 lM ou (fn:=Tryz.f29) (by kernel_rfl) (c:=eM Tryz.f29) (by kernel_rfl) (nt:=52) (by kernel_rfl) (b:=LA) (cE (by kernel_rfl)) (amM (σ:=σ) (N':=hP jr σ) rfl rfl v v' k hk)
def Bu (lp:Lp) (σ:Sg) (tab:mK) (f:FuncId) (M:List Bool) (off:Nat) (args:List SV) (a:AV) (ty:TypeId) (gs:Gs):T (SV×List AV×List AV) :=
 Bs lp σ tab f M (.v (.c (.ptr 7 off))::args) [a] (fP AV.len ty gs)
theorem aaw {M:List Bool} {a:AV} {l:List AV} {off:Nat} (hM:7=M.length):fh (gM M (a::l)) (.v (.c (.ptr 7 off))):=by
 intro c hc n hn
 have hc:c∈[Cell.ptr 7 off]:=hc
 rw [aez.1 hc] at hn
 cases hn
 refine⟨.bI a,?_⟩
 unfold gM
 rw [bo,gg,if_neg (by omega),hM,Nat.sub_self]
 rfl
theorem Vl {lp:Lp} (qd:fH Tryz.prog (hP lp σ)) {tab:mK} (ht:dB Tryz.prog (NV σ) tab) {f:FuncId} {M:List Bool} (hM:7=M.length) {off:Nat} {args:List SV} (hf:jy args=true) {a:AV} {ty:TypeId} {gs:Gs} (ho:a.FV=true) (hl:o4 σ a=some (fP AV.len ty (iQ gs))) {v:SV} {l' nw:List AV}
 (h:(Bu lp σ tab f M off args a ty gs).val=some (v,l',nw)):qT Tryz.prog (NV σ) f (.v (.c (.ptr 7 off))::args) (gM M [a]) v (gM M (l'++nw)) :=
 sK (ub qd (B3 ht) hM (a:=a) (K:=fP AV.len ty gs) ⟨_,rfl⟩ (fun L S w hq=>yO ((sW (N:=hP lp σ) rfl hl ho L S w).1 hq)) (fun x hx=>by
  rcases abk.1 hx with rfl | hx
  ·exact aaw hM
  ·exact fI hf x hx) h).1
def G5 {γ α:Type} (off:Nat) (A:l9 γ) (O:wL α) (ok:α->γ->Option Bool) (next:α->γ->SV×α×List AV) (args:List SV) (l:List AV):T (SV×List AV×List AV):=match args,l with
 | .v (.c (.ptr 7 o))::r,[a]=>match Nat.beq o off,A.iM r,O.X a with
   | true,some x,some j=>DU (ok j x) (.aE ((next j x).1,[O.V (next j x).2.1],(next j x).2.2))
   | _,_,_=>.fail "method"
 | _,_=>.fail "method"
theorem Ll {f:FuncId} {M:List Bool} (hM:7=M.length) {γ α:Type} {off:Nat} {A:l9 γ} {O:wL α} {ok:α->γ->Option Bool} {next:α->γ->SV×α×List AV}
 (j7:∀j x,Zc (ok j x)=true->qT Tryz.prog (NV σ) f (.v (.c (.ptr 7 off))::A.bx x) (gM M [O.V j]) (next j x).1 (gM M (O.V (next j x).2.1::(next j x).2.2))):cD Tryz.prog (NV σ) f (bP cJ M (G5 off A O ok next)):=by
 refine gH dE hM fun args l v l' nw h hl bM=>?_
 unfold G5 at h
 split at h
 ·rename_i o r a
  split at h
  ·rename_i x j ho hx hj
   have ho:=(aC _ _).1 ho
   subst ho
   replace h:=jQ h
   obtain⟨oI,h⟩:=h
   cases h
   have ea:=O.ok _ _ hj
   subst ea
   exact jg (j7 j x oI) fun ρ=>by
    simp only [abv]
    rw [A.ok _ _ hx ρ]
  ·cases h
 ·cases h
def EJ (v:az):Prop:=SV.v (.c (.ptr 7 2))=.v (.c (.ptr 7 2)) /\ hpV v=hpV v
theorem vY (v:az):iI (EJ v)=true:=iY ⟨rfl,rfl⟩
theorem YY (σ:Sg) (v v':az) (j j':dr):Bu (lpA {v with cC:=some (.dZ j)} {v' with cC:=some (.dZ j')}) σ ca 29 bL 2 [] (iD {v with cC:=some (.dZ j)}) qg (az.wr {v with cC:=some (.dZ j)}) =
 .aJ (iI (EJ {v with cC:=some (.dZ j)})) (.aJ true (.aE (.ji [],[iD {v' with cC:=some (.dZ j')}],[]))):=by kernel_rfl
theorem Y0 (σ:Sg) (v v':az) (j j':cY):Bu (lpA {v with cC:=some (.dH j)} {v' with cC:=some (.dH j')}) σ ca 29 bL 2 [] (iD {v with cC:=some (.dH j)}) qg (az.wr {v with cC:=some (.dH j)}) =
 .aJ (iI (EJ {v with cC:=some (.dH j)})) (.aJ true (.aE (.ji [],[iD {v' with cC:=some (.dH j')}],[]))):=by kernel_rfl
theorem acJ (σ:Sg) (v v':az) (j j':cM):Bu (lpA {v with cC:=some (.lit j)} {v' with cC:=some (.lit j')}) σ ca 29 bL 2 [] (iD {v with cC:=some (.lit j)}) qg (az.wr {v with cC:=some (.lit j)}) =
 .aJ (iI (EJ {v with cC:=some (.lit j)})) (.aJ true (.aE (.ji [],[iD {v' with cC:=some (.lit j')}],[]))):=by kernel_rfl
theorem acH (σ:Sg) (v v':az) (j j':bW):Bu (lpA {v with cC:=some (.ph j)} {v' with cC:=some (.ph j')}) σ ca 29 bL 2 [] (iD {v with cC:=some (.ph j)}) qg (az.wr {v with cC:=some (.ph j)}) =
 .aJ (iI (EJ {v with cC:=some (.ph j)})) (.aJ true (.aE (.ji [],[iD {v' with cC:=some (.ph j')}],[]))):=by kernel_rfl
theorem acI (σ:Sg) (v v':az) (j j':cd):Bu (lpA {v with cC:=some (.oM j)} {v' with cC:=some (.oM j')}) σ ca 29 bL 2 [] (iD {v with cC:=some (.oM j)}) qg (az.wr {v with cC:=some (.oM j)}) =
 .aJ (iI (EJ {v with cC:=some (.oM j)})) (.aJ true (.aE (.ji [],[iD {v' with cC:=some (.oM j')}],[]))):=by kernel_rfl
theorem YZ (σ:Sg) (v v':az):Bu (lpA {v with cC:=none} {v' with cC:=none}) σ ca 29 bL 2 [] (iD {v with cC:=none}) qg (az.wr {v with cC:=none}) =
 .aJ (iI (EJ {v with cC:=none})) (.aJ true (.aE (.ji [],[iD {v' with cC:=none}],[]))):=by kernel_rfl
def BI:Nat:=16
def ah4 (v:az):Option (Ex×az):=eJ cF BI v
def kH (v:az):az:=match ah4 v with | some (_,v')=>v' | none=>v
def tz (v:az):Bool:=match ah4 v with | some (.exit 0,_)=>true | _=>false
theorem pq {v:az} (h:tz v=true):eJ cF BI v=some (.exit 0,kH v):=by
 unfold tz at h
 split at h
 ·rename_i v' hv
  unfold kH
  rw [hv]
  exact hv
 ·cases h
theorem QW (σ:Sg) (v:az) (h:tz v=true):qT Tryz.prog (NV σ) 29 [.v (.c (.ptr 7 2))] (gM bL [iD v]) (.ji []) (gM bL [iD (kH v)]):=by
 have hk:=pq h
 have tc:=AE BI v hk
 generalize kH v=v' at hk tc
 have fin:∀(gs:Gs),o4 σ (iD v)=some (fP AV.len qg (iQ gs))->(Bu (lpA v v') σ ca 29 bL 2 [] (iD v) qg gs).val=some (.ji [],[iD v'],[])->_:=fun gs hl hr=>Vl (M:=bL) (off:=2) (aqe v v' BI hk) bn rfl (args:=[]) rfl (a:=iD v) rfl hl hr
 obtain⟨so,en,ri,dg,cl,op,cC,an⟩:=v
 obtain⟨so',en',ri',dg',cl',op',Su,an'⟩:=v'
 cases cC with
 | none =>
   cases Su with
   | none=>exact fin (az.wr ⟨so,en,ri,dg,cl,op,none,an⟩) rfl ((congrArg T.val (YZ σ ⟨so,en,ri,dg,cl,op,none,an⟩ ⟨so',en',ri',dg',cl',op',none,an'⟩)).trans (nv (vY _)))
   | some j'=>cases j'<;>cases tc
 | some j =>
   cases j with
   | dZ j =>
     cases Su with
     | none=>cases tc
     | some j' =>
       cases j' with
       | dZ j'=>exact fin (az.wr ⟨so,en,ri,dg,cl,op,some (.dZ j),an⟩) rfl ((congrArg T.val (YY σ ⟨so,en,ri,dg,cl,op,none,an⟩ ⟨so',en',ri',dg',cl',op',none,an'⟩ j j')).trans (nv (vY _)))
       | _=>cases tc
   | dH j =>
     cases Su with
     | none=>cases tc
     | some j' =>
       cases j' with
       | dH j'=>exact fin (az.wr ⟨so,en,ri,dg,cl,op,some (.dH j),an⟩) rfl ((congrArg T.val (Y0 σ ⟨so,en,ri,dg,cl,op,none,an⟩ ⟨so',en',ri',dg',cl',op',none,an'⟩ j j')).trans (nv (vY _)))
       | _=>cases tc
   | lit j =>
     cases Su with
     | none=>cases tc
     | some j' =>
       cases j' with
       | lit j'=>exact fin (az.wr ⟨so,en,ri,dg,cl,op,some (.lit j),an⟩) rfl ((congrArg T.val (acJ σ ⟨so,en,ri,dg,cl,op,none,an⟩ ⟨so',en',ri',dg',cl',op',none,an'⟩ j j')).trans (nv (vY _)))
       | _=>cases tc
   | ph j =>
     cases Su with
     | none=>cases tc
     | some j' =>
       cases j' with
       | ph j'=>exact fin (az.wr ⟨so,en,ri,dg,cl,op,some (.ph j),an⟩) rfl ((congrArg T.val (acH σ ⟨so,en,ri,dg,cl,op,none,an⟩ ⟨so',en',ri',dg',cl',op',none,an'⟩ j j')).trans (nv (vY _)))
       | _=>cases tc
   | oM j =>
     cases Su with
     | none=>cases tc
     | some j' =>
       cases j' with
       | oM j'=>exact fin (az.wr ⟨so,en,ri,dg,cl,op,some (.oM j),an⟩) rfl ((congrArg T.val (acI σ ⟨so,en,ri,dg,cl,op,none,an⟩ ⟨so',en',ri',dg',cl',op',none,an'⟩ j j')).trans (nv (vY _)))
       | _=>cases tc
end
section
open Go Go.Sx Go.Proofs
variable {σ:Sg} {lp:Lp}
def Fx:l9 O where
 bx c:=[.v (.agg (FM (O.wr c)))]
 iM:=fun | [.v (.agg cs)]=>(match O.rd ((B6 cs).map .p) with | some (c,[])=>some c | _=>none) | _=>none
 ok:=fun l a h ρ=>by
  split at h
  ·split at h
   ·rename_i hc
    cases h
    have:=O.gK hc
    rw [aeJ] at this
    rw [<- this,qy]
    simp only [abv,aeU,SV.aq,V1.aq,uz]
   ·cases h
  ·cases h
 free:=fun _=>rfl
section
variable {β:Type} (I:Bool->β->β->β) (ok Bg af7:β)
def aja (o:O):Bool:=match (o.aj==o.aj&&(o.key==0&&(o.val==o.val&&o.bO==0)))==true with | true=>(match decide (0<=o.val)==true with | true=>decide (o.val<=1073741824) | false=>false) | false=>false
def YK (o:O):Bool:=o.aj==o.aj&&(o.key==0&&(o.val==0&&o.bO==0))
def sd (o:O):β:=I (o.aj==1) (I (!aja o) Bg ok) (I (o.aj==2) (I (o.aj==2) (I (!YK o) Bg ok) Bg) (I (o.aj==3) (I (!YK o) Bg ok) Bg))
def sL (o:O):β:=I (o.aj==4) (I (!aja o) Bg ok) (I (o.aj==5) (I (!YK o) Bg ok) Bg)
def adT (o:O):Bool:=match (o.val==0)==true with | true=>o.bO==0 | false=>false
def uP (o:O):Bool:=match (match decide (o.key < 0)==false with | true=>decide (o.key > 255) | false=>true) with
 | true=>false
 | false=>match o.aj==6 with
   | true=>(match decide (0<=o.val)==true with
     | true=>(match decide (o.val<=1073741824)==true with | true=>(match decide (0<=o.bO)==true with | true=>decide (o.bO<=3) | false=>false) | false=>false)
     | false=>false)
   | false=>(match o.aj==7 with | true=>(match o.aj==7 with | true=>adT o | false=>false) | false=>(match o.aj==8 with | true=>adT o | false=>false))
def u9 (o:O):Bool:=match (!uP o)==false with | true=>o.bO != 0 | false=>true
def u7 (o:O):Bool:=match (!uP o)==false with | true=>(match (o.aj==6)==true with | true=>decide (o.bO < 1) | false=>false) | false=>true
def sY (o:O):β:=I (u9 o) Bg (I (o.aj==6) (I (o.aj==6) ok af7) (I (o.aj==7) (I (o.aj==7) ok af7) (I (o.aj==8) ok af7)))
def yi (o:O):β:=I (u9 o) Bg ok
def yx (o:O):β:=I (u7 o) Bg ok
end
def kU (s:Int) (o:O):Bool:=if s=1 then sd cond true false o else if s=2 then sL cond true false o else if s=3 then sY cond true false true o else if s=4 then yi cond true false o else if s=5 then yx cond true false o else false
def DZ (o:O):dr:=⟨0,aW,o,ao,ao,0⟩
def D0 (o:O):cY:=⟨0,aW,o,ao,ao,ao,ao,0⟩
def G3 (o:O):cM:=js (aV 0,o.key,o)
def G2 (o:O):bW:=⟨0,aW,o,0,0,0,0,ao,ao,ao,none,none,⟨0,0⟩,ao⟩
def Lj (o:O):cd:=⟨0,aW,o,none,ao,0,0,0⟩
def tJ {α:Type} (j:α):T (Option α):=.aJ true (.aE (some j))
def Kz {α:Type}:T (Option α):=.fail "load"
def ajP {α:Type}:T (Option α):=.aE none
theorem aaB (σ:Sg) (o:O):(kN σ ca 34 bL (Fx.bx o) []).map (tg GS)=sd tI (tJ (DZ o)) Kz o:=by kernel_rfl
theorem ace (σ:Sg) (o:O):(kN σ ca 35 bL (Fx.bx o) []).map (tg GU)=sL tI (tJ (D0 o)) Kz o:=by kernel_rfl
theorem ags (σ:Sg) (o:O):(kN σ ca 36 bL (Fx.bx o) []).map (tg DL)=sY tI (tJ (G3 o)) Kz ajP o:=by kernel_rfl
theorem ae8 (σ:Sg) (o:O):(kN σ ca 37 bL (Fx.bx o) []).map (tg NY)=yi tI (tJ (G2 o)) Kz o:=by kernel_rfl
theorem afu (σ:Sg) (o:O):(kN σ ca 38 bL (Fx.bx o) []).map (tg DK)=yx tI (tJ (Lj o)) Kz o:=by kernel_rfl
end
section
open Go Go.Sx Go.Proofs
variable {σ:Sg}
def rpZ:V1:=rpC ⟨ao,false⟩
def OD (σ:Sg):V1:=.c (.wZ 229 (.op 0 (σ 0)))
def mV (σ:Sg) (m:ai) (a:oU):SV×List AV×List AV:=if m.bG a then(.ji [rpC (m.aU a).1,.c .fL],[.gP (m.aU a).2],[]) else(.ji [rpZ,OD σ],[.gP m],[])
def amV (σ:Sg):Option (Int×Nat)->Bool
 | none=>true
 | some (_,i)=>decide (σ i=σ i)
def lfD (σ:Sg) (lb ls lf:Nat) (r e:V1) (m:ai):T (SV×List AV×List AV) :=
 .aJ (decide (lb=m.dO.length)) (.aJ (decide (ls=m.aS.length)) (.aJ (decide (lf=m.free.length)) (.aJ (amV σ m.fault) (.aE (.ji [r,e],[.gP m],[])))))
def lfM (σ:Sg) (m0:ai) (r:cr) (m:ai):T (SV×List AV×List AV):=lfD σ m0.dO.length m0.aS.length m0.free.length (rpC r) (.c .fL) m
def lfE (σ:Sg) (m:ai):T (SV×List AV×List AV):=lfD σ m.dO.length m.aS.length m.free.length rpZ (OD σ) m
def ai.cq (m:ai):ai:={m with steps:=cX m.steps}
def ai.Bg (m:ai) (e:Nat):ai:=match m.fault with | none=>{m.cq with fault:=some (m.cq.steps,e)} | some _=>m.cq
def lfB (σ:Sg) (m:ai) (k:Int) (e:Nat):T (SV×List AV×List AV):=lfM σ m ⟨if k=1 \/ k=3 then dX (-1) else ao,false⟩ (m.Bg e)
def IG (σ:Sg) (m:ai) (k:Int) (c:Bool) (w o:W) (m2:ai):T (SV×List AV×List AV) :=
 if k=1 then .aJ c (lfM σ m ⟨w,true⟩ m.cq)
 else if k=2 then .aJ c (lfM σ m ⟨ao,true⟩ m2)
 else .aJ c (.aJ c (.ite (!kM w o) (lfM σ m ⟨w,false⟩ m.cq) (.aJ c (lfM σ m ⟨w,true⟩ m2))))
def aB (a b:Bool):Bool:=match a==true with | true=>b | false=>false
def Uq (σ:Sg) (m:ai) (k f:Int) (o n:W):T (SV×List AV×List AV) :=
 .ite (!aB (decide (0<=f)) (decide (f < (m.dO.length:Int)))) (lfE σ m) (.aJ (decide (0<=f /\ f < (m.dO.length:Int)))
  (IG σ m k (decide (0+f.toNat < m.dO.length)) (m.dO.getD (0+f.toNat) dS.bR) o {m.cq with dO:=m.dO.set (0+f.toNat) n}))
def iX (s:Int):Nat:=0+(IntKind.wrap .i64 (s - 1)).toNat
def iB (m:ai) (s:Int):Bool:=decide (0<=IntKind.wrap .i64 (s - 1) /\ IntKind.wrap .i64 (s - 1) < (m.aS.length:Int))
def IH (σ:Sg) (m:ai) (k s g:Int) (e:Nat) (t:T (SV×List AV×List AV)):T (SV×List AV×List AV) :=
 .aJ (iB m s) (.aJ (decide (iX s < m.aS.length)) (.ite (!(m.aS.getD (iX s) gq.bR).used) (lfB σ m k e)
  (.aJ (decide (iX s < m.aS.length)) (.ite ((m.aS.getD (iX s) gq.bR).gen != g) (lfB σ m k 6) t))))
def ady (σ:Sg) (m:ai) (k s g f:Int) (o n:W):T (SV×List AV×List AV) :=
 .ite (aB (decide (1<=s)) (decide (s<=(m.aS.length:Int)))==true) (.ite (decide (0<=f)==true) (.ite (!decide (f < 10)) (lfE σ m)
  (IH σ m k s g 5 (.aJ (match iB m s with | true=>decide (0<=f /\ f < 10) | false=>false)
    (IG σ m k (match decide (iX s < m.aS.length) with | true=>(match decide (f.toNat * 5 % 5=0) with | true=>decide (f.toNat * 5 / 5 < 10) | false=>false) | false=>false)
      ((m.aS.getD (iX s) gq.bR).at (f.toNat * 5 / 5)) o {m.cq with aS:=m.aS.set (iX s) ((m.aS.getD (iX s) gq.bR).Bq (f.toNat * 5 / 5) n)})))) (lfE σ m)) (lfE σ m)
def adz (σ:Sg) (m:ai) (o:W):T (SV×List AV×List AV) :=
 .ite (!aB (decide (1<=o.af)) (decide (o.af<=(m.aS.length:Int)))) (lfE σ m) (IH σ m 5 o.af o.gen 4
  (.aJ (iB m o.af) (.aJ (decide (iX o.af < m.aS.length)) (.aJ (decide (m.free.length=iL.len (F6 σ) (AV.jS m.free) /\ (m.free.length+1) * (SI.bytes KJ+1)<=qU))
    (lfD σ m.dO.length m.aS.length (m.free.length+1) (rpC ⟨ao,true⟩) (.c .fL) {m.cq with aS:=m.aS.set (iX o.af) {m.aS.getD (iX o.af) gq.bR with used:=false},free:=m.free++[⟨o.af⟩]})))))
def ajQ (σ:Sg) (m:ai) (n:W):T (SV×List AV×List AV) :=
 let x:=IntKind.wrap .i64 ((m.free.length:Int) - 1)
 let v:=(m.free.getD (0+x.toNat) kt.bR).val
 let i:=iX v
 let up (l:List Sl) (h:Sl->Sl):List Sl:=l.set i (h (l.getD i gq.bR))
 let s1:=up m.aS fun q=>{q with gen:=cX q.gen}
 let s2:=up s1 fun q=>{q with used:=true}
 let s3:=up s2 fun q=>{q with cells:=[ao,ao,ao,ao,ao,ao,ao,ao,ao,dX n.bS]}
 .ite ((m.free.length:Int)==0) (lfM σ m ⟨ao,false⟩ m.cq)
  (.aJ (match decide (0<=x /\ x < (m.free.length:Int)) with | true=>decide (0+x.toNat < m.free.length) | false=>false)
  (.aJ (decide ((0:Int)<=0 /\ 0<=x /\ x<=(m.free.length:Int) /\ m.free.length=iL.len (F6 σ) (AV.jS m.free)))
  (.aJ (iB m v) (.aJ (decide (i < m.aS.length)) (.aJ (decide (i < m.aS.length)) (.aJ (decide (i < s1.length)) (.aJ (decide (i < s2.length)) (.aJ (decide (i < s3.length))
    (lfD σ m.dO.length m.aS.length (x.toNat - 0) (rpC ⟨⟨v,(s3.getD i gq.bR).gen,0,0,false⟩,true⟩) (.c .fL) {m.cq with aS:=s3,free:=m.free.take x.toNat,made:=cX m.made})))))))))
def O4 (k s g:Cell) (f:Int) (o n:List Cell):List Cell:=[k,s,g,.it .i64 f]++o++n
def mDo:List Bool:=mkM 22
def zD (a:oU):List Cell:=[.it .i64 a.aj,.it .i64 a.s,.it .i64 a.g,.it .i64 a.f]++a.cU.bx++a.new.bx
def adH (σ:Sg) (cs:List Cell) (m:ai):T (SV×List AV×List AV) :=
 NM σ afm 22 mDo [.v (.c (.ptr 7 0)),.v (.agg cs)] [.gP m] (uJ σ m)
def aeS (σ:Sg) (m:ai) (a:oU):Prop:=∃cs,(adH σ cs m).val=some (mV σ m a) /\ (∀ρ,aA ρ cs=aA ρ (zD a)) /\ Ap cs=true
theorem M5 {n:Int} (h:1<=n) (h2:n<=5000):IntKind.wrap .i64 (n - 1)=n - 1:=by
 unfold IntKind.wrap
 simp only [IntKind.bits,IntKind.signed]
 first | omega | (simp;omega)
theorem Sz {n:Nat} (h:n<=5000):(n+1) * (SI.bytes KJ+1)<=qU:=by
 have:SI.bytes KJ<=1000:=by decide
 have:qU=1099511627776:=rfl
 have:(n+1) * (SI.bytes KJ+1)<=5001 * 1001:=Nat.mul_le_mul (by omega) (by omega)
 omega
theorem Nb {α:Type} {c:Bool} {t e:T α}:(T.ite c t e).val=if c=true then t.val else e.val:=by cases c<;>rfl
theorem pz {α:Type} {c:Bool} {t:T α} (h:c=true):(T.aJ c t).val=t.val:=by subst h;rfl
theorem xD {lb ls lf:Nat} {r e:V1} {m:ai} (h1:lb=m.dO.length) (h2:ls=m.aS.length) (h3:lf=m.free.length):(lfD σ lb ls lf r e m).val=some (.ji [r,e],[.gP m],[]):=by
 unfold lfD
 rw [pz (aaS h1),pz (aaS h2),pz (aaS h3)]
 cases h:m.fault with
 | none=>rfl
 | some x=>rw [show amV σ (some x)=true from aaS rfl];rfl
theorem qu {m:ai} {a:oU} (h:¬m.bG a):(lfE σ m).val=some (mV σ m a):=by unfold lfE mV;rw [xD rfl rfl rfl,if_neg h]
theorem acy {m:ai} {e:Nat}:(m.Bg e).dO=m.dO /\ (m.Bg e).aS=m.aS /\ (m.Bg e).free=m.free:=by unfold ai.Bg;split<;>exact⟨rfl,rfl,rfl⟩
theorem Qb {m:ai} {a:oU} {e:Nat} (h:m.bG a) (hw:m.nY a=some e):(lfB σ m a.aj e).val=some (mV σ m a):=by
 obtain⟨h1,h2,h3⟩:=acy (m:=m) (e:=e)
 unfold lfB lfM mV
 rw [xD (by rw [h1]) (by rw [h2]) (by rw [h3]),if_pos h]
 unfold ai.aU ai.Bg
 rw [hw]
 rfl
theorem Gp {m m2:ai} {a:oU} {c:Bool} {w:W} (hk:a.aj=1 \/ a.aj=2 \/ a.aj=3) (h:m.bG a) (hw:m.nY a=none) (hc:c=true) (h1:m.cq.read a.s a.f=w) (h2:m.cq.fE a.s a.f a.new=m2)
 (hb:m2.dO.length=m.dO.length) (hs:m2.aS.length=m.aS.length) (hf:m2.free=m.free):(IG σ m a.aj c w a.cU m2).val=some (mV σ m a):=by
 have e1:∀r,(lfM σ m r m.cq).val=some (.ji [rpC r,.c .fL],[.gP m.cq],[]):=fun r=>xD rfl rfl rfl
 have e2:∀r,(lfM σ m r m2).val=some (.ji [rpC r,.c .fL],[.gP m2],[]):=fun r=>xD hb.symm hs.symm (by rw [hf])
 obtain⟨k,s,g,f,o,n⟩:=a
 unfold IG mV
 rw [if_pos h]
 unfold ai.aU
 rw [hw]
 subst hc
 dsimp only at hk h1 h2 ⊢
 rw [show ({m with steps:=cX m.steps}:ai)=m.cq from rfl,h1,h2]
 rcases hk with rfl | rfl | rfl
 ·simp only [if_true,pz,e1,show ¬(1:Int)=4 by decide,show ¬(1:Int)=5 by decide,if_false]
 ·simp only [if_true,pz,e2,show ¬(2:Int)=4 by decide,show ¬(2:Int)=5 by decide,show ¬(2:Int)=1 by decide,if_false]
 ·simp only [pz,Nb,e1,e2,show ¬(3:Int)=4 by decide,show ¬(3:Int)=5 by decide,show ¬(3:Int)=1 by decide,show ¬(3:Int)=2 by decide,if_false]
  cases kM w o<;>rfl
theorem Nk {m:ai} {k f:Int} {o n:W} (hk:k=1 \/ k=2 \/ k=3):(Uq σ m k f o n).val=some (mV σ m ⟨k,0,0,f,o,n⟩):=by
 have hv:m.bG ⟨k,0,0,f,o,n⟩↔0<=f /\ f < (m.dO.length:Int):=by unfold ai.bG ai.xJ;simp [hk]
 unfold Uq
 rw [Nb]
 by_cases h1:0<=f /\ f < (m.dO.length:Int)
 ·rw [if_neg (by simp [aB,h1.1,h1.2]),pz (aaS h1)]
  refine Gp (a:=⟨k,0,0,f,o,n⟩) hk (hv.2 h1) ?_ (aaS (by omega)) ?_ ?_ (by simp) rfl rfl
  ·unfold ai.nY;dsimp only;rw [if_neg (by omega),if_neg (by omega)];rfl
  ·rw [abJ];rfl
  ·rw [abJ];rfl
 ·rw [if_pos (by simp only [aB];cases h2:decide (0<=f)<;>simp_all)]
  exact qu fun h=>h1 (hv.1 h)
theorem iX_eq {s:Int} (h:1<=s) (h2:s<=5000):iX s=(s - 1).toNat:=by unfold iX;rw [M5 h h2,abJ]
theorem abh {m:ai} {s:Int} (h:m.has s) (hl:m.aS.length<=5000):iB m s=true:=by
 obtain⟨h,h2⟩:=h
 unfold iB;rw [M5 h (by omega)];exact aaS (by omega)
theorem Gu {m:ai} {a:oU} {k s g:Int} {e:Nat} {t:T (SV×List AV×List AV)} (hk:k=a.aj) (h:m.bG a) (hs:m.has s) (hl:m.aS.length<=5000) (hw:m.nY a=m.kK s g e) (ht:m.nY a=none->t.val=some (mV σ m a)) :
 (IH σ m k s g e t).val=some (mV σ m a):=by
 have hb:=abh hs hl
 obtain⟨h1,h2⟩:=hs
 have ei:iX s=(s - 1).toNat:=iX_eq h1 (by omega)
 have hi:decide (iX s < m.aS.length)=true:=aaS (by omega)
 unfold IH
 subst hk
 rw [pz hb,pz hi,Nb,pz hi,Nb]
 have e0:m.aS.getD (iX s) gq.bR=m.af s:=by rw [ei];rfl
 rw [e0]
 have hs0:¬s=0:=by omega
 unfold ai.kK at hw
 rw [if_neg hs0] at hw
 by_cases hu:(m.af s).used=false
 ·rw [if_pos hu] at hw;rw [if_pos (by rw [hu];rfl)];exact Qb h hw
 ·rw [if_neg hu] at hw;rw [if_neg (by simpa using hu)]
  by_cases hg:(m.af s).gen=g
  ·rw [if_pos hg] at hw;rw [if_neg (by simp [hg])];exact ht hw
  ·rw [if_neg hg] at hw;rw [if_pos (by simp [hg])];exact Qb h hw
theorem Rk {m:ai} {k s g f:Int} {o n:W} (hk:k=1 \/ k=2 \/ k=3) (h0:s≠0) (hl:m.aS.length<=5000):(ady σ m k s g f o n).val=some (mV σ m ⟨k,s,g,f,o,n⟩):=by
 have hv:m.bG ⟨k,s,g,f,o,n⟩↔m.has s /\ 0<=f /\ f < 10:=by unfold ai.bG ai.xJ;simp [hk,h0]
 unfold ady
 simp only [Nb]
 by_cases h1:m.has s
 ·rw [if_pos (by simp [aB,h1.1,h1.2])]
  by_cases h3:0<=f
  ·rw [if_pos (by simp [h3])]
   by_cases h4:f < 10
   ·rw [if_neg (by simp [h4])]
    have h:=hv.2 ⟨h1,h3,h4⟩
    have ei:iX s=(s - 1).toNat:=iX_eq h1.1 (by have:=h1.2;omega)
    have ef:f.toNat * 5 / 5=f.toNat:=by omega
    have hi:decide (iX s < m.aS.length)=true:=aaS (by have:=h1.1;have:=h1.2;omega)
    refine Gu (a:=⟨k,s,g,f,o,n⟩) rfl h h1 hl (by unfold ai.nY;dsimp only;rw [if_neg (by omega),if_neg (by omega)]) fun hw=>?_
    rw [abh h1 hl,pz (aaS ⟨h3,h4⟩)]
    refine Gp (a:=⟨k,s,g,f,o,n⟩) hk h hw ?_ ?_ ?_ rfl (by simp) rfl
    ·rw [hi];dsimp only;rw [aaS (show f.toNat * 5 % 5=0 by omega)];exact aaS (by omega)
    ·rw [ei,ef];unfold ai.read;rw [if_neg h0];rfl
    ·rw [ei,ef];unfold ai.fE;rw [if_neg h0];rfl
   ·rw [if_pos (by simp [h4])];exact qu fun h=>h4 (hv.1 h).2.2
  ·rw [if_neg (by simp [h3])];exact qu fun h=>h3 (hv.1 h).2.1
 ·rw [if_neg (by intro h;apply h1;simp only [aB] at h;cases h2:decide (1<=s)<;>simp_all [ai.has])]
  exact qu fun h=>h1 (hv.1 h).1
theorem Rl {m:ai} {s g f:Int} {o n:W} (oI:m.Ok):(adz σ m o).val=some (mV σ m ⟨5,s,g,f,o,n⟩):=by
 have hv:m.bG ⟨5,s,g,f,o,n⟩↔m.has o.af:=by unfold ai.bG;simp
 unfold adz
 rw [Nb]
 by_cases h1:m.has o.af
 ·rw [if_neg (by simp [aB,h1.1,h1.2])]
  have ei:iX o.af=(o.af - 1).toNat:=iX_eq h1.1 (by have:=h1.2;have:=oI.ls;omega)
  have hi:decide (iX o.af < m.aS.length)=true:=aaS (by have:=h1.1;have:=h1.2;omega)
  refine Gu (a:=⟨5,s,g,f,o,n⟩) rfl (hv.2 h1) h1 oI.ls rfl fun hw=>?_
  rw [pz (abh h1 oI.ls),pz hi,pz (aaS ⟨rfl,Sz oI.lf⟩)]
  refine Eq.trans (xD rfl (by simp) (by simp)) ?_
  rw [ei]
  unfold mV ai.aU
  rw [if_pos (hv.2 h1),hw]
  rfl
 ·rw [if_pos (by simp only [aB,ai.has] at *;cases h2:decide (1<=o.af)<;>simp_all)]
  exact qu fun h=>h1 (hv.1 h)
theorem Up {m:ai} {s g f:Int} {o n:W} (oI:m.Ok):(ajQ σ m n).val=some (mV σ m ⟨4,s,g,f,o,n⟩):=by
 unfold mV
 rw [if_pos (show m.bG ⟨4,s,g,f,o,n⟩ by unfold ai.bG;simp)]
 obtain⟨b,sl,fr,st,md,ft⟩:=m
 have hl:sl.length<=5000:=oI.ls
 have hf:fr.length<=5000:=oI.lf
 unfold ajQ
 simp only [ai.aU,ai.nY,ai.alloc,cX,if_true,ai.af,ai.cq,Nb]
 by_cases h0:fr.length=0
 ·rw [if_pos (by simp [h0]),if_pos h0]
  exact xD rfl rfl rfl
 ·have e1:IntKind.wrap .i64 ((fr.length:Int) - 1)=(fr.length:Int) - 1:=M5 (by omega) (by omega)
  have e2:((fr.length:Int) - 1).toNat=fr.length - 1:=by omega
  have e4:fr.length - 1 < fr.length:=by omega
  have hm:fr.getD (fr.length - 1) kt.bR∈fr:=by
   have:fr.getD (fr.length - 1) kt.bR=fr[fr.length - 1]:=by simp [List.getD,e4]
   rw [this];exact List.getElem_mem e4
  have i:=oI.fr _ hm
  rw [if_neg (by simpa using h0),if_neg h0]
  simp only [e1,e2,abJ]
  generalize fr.getD (fr.length - 1) kt.bR=q at i hm ⊢
  have ei:=iX_eq i.1 (Int.le_trans i.2 (by show (sl.length:Int)<=5000;omega))
  have hi:(q.val - 1).toNat < sl.length:=by have h1:=i.1;have h2:q.val<=(sl.length:Int):=i.2;omega
  have hb:=abh i hl
  rw [ei,hb]
  simp only [agO,aaS hi,aaS e4]
  rw [aaS (show 0<=(fr.length:Int) - 1 /\ (fr.length:Int) - 1 < (fr.length:Int) by omega),aaS (show (0:Int)<=0 /\ 0<=(fr.length:Int) - 1 /\ (fr.length:Int) - 1<=(fr.length:Int) /\ fr.length=iL.len (F6 σ) (AV.jS fr) from⟨by omega,by omega,by omega,rfl⟩)]
  simp only [pz]
  refine Eq.trans (xD rfl (by simp) (by simp)) ?_
  simp [show q.val.toNat - 1 < sl.length by omega,List.getD,List.getElem?_set,ao,dX]
theorem DR {n:Int} {l:List Int} (h:n ∉ l):∀c∈l,(n==c)=false:=fun c hc=>beq_eq_false_iff_ne.2 fun e=>h (e▸hc)
theorem ahN (m:ai) (a:oU) (oI:m.Ok):aeS σ m a:=by
 have K {cs:List Cell} {t:T (SV×List AV×List AV)} (hr:adH σ cs m=t) (hv:t.val=some (mV σ m a)) (h1:∀ρ,aA ρ cs=aA ρ (zD a)) (h2:Ap cs=true):aeS σ m a:=⟨cs,by rw [hr];exact hv,h1,h2⟩
 obtain⟨k,s,g,f,⟨os,og,ot,on,om⟩,n⟩:=a
 by_cases hk:k=1 \/ k=2 \/ k=3
 ·by_cases hs:s=0
  ·by_cases hg:g=0
   ·subst hs hg
    refine K (cs:=O4 (.il .i64 k) (.il .i64 0) (.il .i64 0) f (W.mk os og ot on om).bx n.bx) ?_ (Nk hk) (fun _=>rfl) rfl
    obtain⟨b,sl,fr,st,md,_ | ⟨fk,fi⟩⟩:=m<;>rcases hk with rfl | rfl | rfl<;>kernel_rfl
   ·subst hs
    refine K (cs:=O4 (.il .i64 k) (.il .i64 0) (.iv .i64 g [0] (DR (by simpa using hg))) f (W.mk os og ot on om).bx n.bx) ?_ (qu (by unfold ai.bG ai.xJ;simp [hk,hg])) (fun _=>rfl) rfl
    obtain⟨b,sl,fr,st,md,_ | ⟨fk,fi⟩⟩:=m<;>rcases hk with rfl | rfl | rfl<;>kernel_rfl
  ·refine K (cs:=O4 (.il .i64 k) (.iv .i64 s [0] (DR (by simpa using hs))) (.it .i64 g) f (W.mk os og ot on om).bx n.bx) ?_ (Rk hk hs oI.ls) (fun _=>rfl) rfl
   obtain⟨b,sl,fr,st,md,_ | ⟨fk,fi⟩⟩:=m<;>rcases hk with rfl | rfl | rfl<;>kernel_rfl
 by_cases k4:k=4
 ·subst k4
  refine K (cs:=O4 (.il .i64 4) (.it .i64 s) (.it .i64 g) f (W.mk os og ot on om).bx n.bx) ?_ (Up oI) (fun _=>rfl) rfl
  obtain⟨b,sl,fr,st,md,_ | ⟨fk,fi⟩⟩:=m<;>kernel_rfl
 by_cases k5:k=5
 ·subst k5
  by_cases ho:os=0
  ·subst ho
   refine K (cs:=O4 (.il .i64 5) (.it .i64 s) (.it .i64 g) f [.il .i64 0,.it .i64 og,.it .i64 ot,.it .i64 on,.bt om] n.bx) ?_ (qu (by unfold ai.bG ai.has;simp)) (fun _=>rfl) rfl
   obtain⟨b,sl,fr,st,md,_ | ⟨fk,fi⟩⟩:=m<;>kernel_rfl
  ·refine K (cs:=O4 (.il .i64 5) (.it .i64 s) (.it .i64 g) f [.iv .i64 os [0] (DR (by simpa using ho)),.it .i64 og,.it .i64 ot,.it .i64 on,.bt om] n.bx) ?_ (Rl (o:=⟨os,og,ot,on,om⟩) oI) (fun _=>rfl) rfl
   obtain⟨b,sl,fr,st,md,_ | ⟨fk,fi⟩⟩:=m<;>kernel_rfl
 refine K (cs:=O4 (.iv .i64 k [1,2,3,4,5] (DR (by simp;omega))) (.it .i64 s) (.it .i64 g) f (W.mk os og ot on om).bx n.bx) ?_ (qu (by unfold ai.bG;simp [hk,k4,k5])) (fun _=>rfl) rfl
 obtain⟨b,sl,fr,st,md,_ | ⟨fk,fi⟩⟩:=m<;>kernel_rfl
end
section
open Go Go.Sx Go.Proofs
variable {σ:Sg}
def Y1:List Cell->Option oU
 | [c0,c1,c2,c3,c4,c5,c6,c7,c8,c9,c10,c11,c12,c13]=>match j6 c0,j6 c1,j6 c2,j6 c3,W.iM [c4,c5,c6,c7,c8],W.iM [c9,c10,c11,c12,c13] with
   | some k,some s,some g,some f,some o,some n=>some ⟨k,s,g,f,o,n⟩
   | _,_,_,_,_,_=>none
 | _=>none
theorem Tl {cs:List Cell} {a:oU} (h:Y1 cs=some a) (ρ:Nm):aA ρ (zD a)=aA ρ cs:=by
 unfold Y1 at h
 split at h
 ·split at h
  ·rename_i k s g f o n h0 h1 h2 h3 h4 h5
   cases h
   have e4:=(W.gy _ _ h4)
   have e5:=(W.gy _ _ h5)
   have d4:aA ρ o.bx=aA ρ _:=(lK fun c hc=>(by simp [W.bx] at hc;rcases hc with rfl | rfl | rfl | rfl | rfl<;>rfl)).trans (e4.1.trans (lK e4.2).symm)
   have d5:aA ρ n.bx=aA ρ _:=(lK fun c hc=>(by simp [W.bx] at hc;rcases hc with rfl | rfl | rfl | rfl | rfl<;>rfl)).trans (e5.1.trans (lK e5.2).symm)
   unfold zD
   simp only [aA,aen,abv,aeU] at d4 d5 ⊢
   rw [d4,d5,cB h0 ρ,cB h1 ρ,cB h2 ρ,cB h3 ρ]
   rfl
  ·cases h
 ·cases h
instance (m:ai):Decidable m.Ok:=decidable_of_iff (m.dO.length<=5000 /\ m.aS.length<=5000 /\ m.free.length<=5000 /\ ∀x∈m.free,m.has x.val) ⟨fun⟨a,b,c,d⟩=>⟨a,b,c,d⟩,fun⟨a,b,c,d⟩=>⟨a,b,c,d⟩⟩
def doS (σ:Sg) (args:List SV) (l:List AV):T (SV×List AV×List AV):=match args,l with
 | [.v (.c (.ptr 7 0)),.v (.agg cs)],[.gP m]=>match Y1 cs with
   | some a=>.aJ (decide m.Ok) (.ite (decide (m.bG a)) (.aE (.ji [rpC (m.aU a).1,.c .fL],[.gP (m.aU a).2],[])) (.aE (.ji [rpZ,OD σ],[.gP m],[])))
   | none=>.fail "Do"
 | _,_=>.fail "Do"
theorem Yd:cD Tryz.prog (NV σ) 22 (bP cJ mDo (doS σ)):=by
 refine gH dE (jC _) fun args l v l' nw h hl bM=>?_
 unfold doS at h
 split at h
 ·rename_i cs m
  split at h
  ·rename_i a ha
   replace h:=aD h
   obtain⟨oI,h⟩:=h
   have oI:=aaV oI
   obtain⟨cs',hr,hd,hn⟩:=ahN (σ:=σ) m a oI
   have h2:mV σ m a=(v,l',nw):=by
    unfold mV
    by_cases hv:m.bG a
    ·rw [if_pos hv];rw [aaS hv] at h;exact agM h
    ·rw [if_neg hv];rw [aaZ hv] at h;exact agM h
   rw [h2] at hr
   have hc:=IV Po (σ:=σ) (M:=mDo) (jC _) (a:=.gP m) (l:=[]) (K:=uJ σ m) rfl ⟨_,rfl⟩ rfl (fun x hx=>by
    simp only [abk,abo,or_false] at hx
    rcases hx with rfl | rfl
    ·exact bM _ (by simp)
    ·intro c hc n hcn;rw [uA hn c hc] at hcn;cases hcn) hr
   exact jg hc.1 fun ρ=>by
    simp only [abv,aeU,SV.aq,V1.aq]
    rw [hd ρ,Tl ha ρ]
  ·cases h
 ·cases h
end
section
open Go Go.Sx Go.Proofs
variable {σ:Sg} {lp:Lp}
structure xi where
 qH:au->Bool
 tk:au->cr->au
 nr:az->Bool
 ad:az->az
 ap:az->dr
 ac:az->cY
 al:az->cM
 av:az->bW
 ast:az->cd
def W6 (F:xi) (k:Nat) (v:az):Option dU:=match k with | 0=>none | 1=>some (.dZ (F.ap v)) | 2=>some (.dH (F.ac v)) | 3=>some (.lit (F.al v)) | 4=>some (.ph (F.av v)) | _=>some (.oM (F.ast v))
def Uj (σ:Sg) (F:xi) (k:Nat):mK:=bA 55 (bP cJ bL (fZ Kb J2 gW (fun _ _=>none) (fun m _=>(iq m,m)))) (bA 30 (bP cJ bL (fZ Kb afb gW (fun _ _=>none) (fun m _=>(jB m,m))))
 (bA 31 (bP cJ bL (fZ mW B0 gW (fun m _=>some (F.qH m)) (fun m x=>((),F.tk m x)))) (bA 22 (bP cJ mDo (doS σ))
 (bA 29 (Q4 σ (bP cJ bL (G5 2 Kb FX (fun v _=>some (F.nr v)) fun v _=>(.ji [],{F.ad v with cC:=W6 F k v},[])))) ca))))
def mSt:List Bool:=mkM 11
def ab5:SV×List AV×List AV->Option (SV×az×ai)
 | (v,[.tu a,.gP p],[])=>some (v,a,p)
 | _=>none
def Gy (σ:Sg) (F:xi) (k:Nat) (v:az) (p:ai):T (Option (SV×az×ai)):=(Bs jr σ (Uj σ F k) 11 mSt [.v (.c (.ptr 7 0)),.v (.c (.ptr 8 0))] [iD v,.gP p] (fP AV.len qg (az.wr v))).map ab5
end
section
open Go Go.Sx Go.Proofs
variable {σ:Sg} {lp:Lp}
structure Ch where
 over:Bool
 Cd:Int
 val:Int
 real:Int
def ZS (s:Ch):V1:=.agg [.bt s.over,.it .i64 s.Cd,.it .i64 s.val,.it .i64 s.real]
def OC (σ:Sg) (i:Nat):V1:=.c (.wZ 229 (.op i (σ i)))
def TD:Nat:=1
def TE:Nat:=0
def UB:V1:=.agg [.bt false,.it .i64 0,.it .i64 0,.it .i64 0]
section
variable {β:Type} (I:Bool->β->β->β) (N:Bool->β->β)
def qD (L:Ch->az->β) (nr:az->Bool) (ad:az->az) (v1:az) (r:Int):β :=
 N true (N (nr v1) (I ((ad v1).bh==0) (N true (L ⟨true,(ad v1).answer.Cd,(ad v1).answer.val,r⟩ (ad v1))) (N true (L ⟨false,0,0,r⟩ (ad v1)))))
def qn (L:Ch->az->β) (nr:az->Bool) (ad:az->az) (v v1:az) (a:oU):β :=
 let fin:=qD I N L nr ad v1
 I (v.call.aj==6) (I (iq v1.aQ) (fin (-1)) (I (lL (v.ax==3) (v.ax==5)) (fin 1) (fin 0)))
 (I (v.call.aj==8) (I (a.aj != 4) (fin (-1)) (fin 0))
 (I (v.call.aj==3) (I (v.call.aj==3) (fin 0) (fin (-1)))
 (I (v.call.aj==4) (I (v.call.aj==4) (fin 0) (fin (-1)))
 (I (v.call.aj==5) (I (v.call.aj==5) (fin 0) (fin (-1)))
 (I (v.call.aj==9) (fin 0) (fin (-1)))))))
end
def FP {β:Type} (I:Bool->β->β->β) (N:Bool->β->β) (E:Nat->β) (L:Ch->az->ai->β) (qH:au->Bool) (tk:au->cr->au) (nr:az->Bool) (ad:az->az) (v:az) (p:ai):β :=
 let a:=(jB v.aQ).1
 I (!(v.bh != 0)) (N true (E TD))
   (N (decide p.Ok) (I (decide (p.bG a)) (N (qH v.aQ) (qn I N (fun s v'=>L s v' (p.aU a).2) nr ad v {v with aQ:=tk v.aQ (p.aU a).1} a)) (N true (E TE))))
def ZY (s:Ch) (v:az) (p:ai):T (Option (SV×az×ai)):=.aE (some (.ji [ZS s,.c .fL],v,p))
def ZZ (σ:Sg) (v:az) (p:ai) (i:Nat):T (Option (SV×az×ai)):=.aE (some (.ji [UB,OC σ i],v,p))
def tD (F:xi) (k:Nat) (v:az):az:={F.ad v with cC:=W6 F k v}
theorem ajY (σ:Sg) (F:xi) (v:az) (p:ai):Gy σ F 0 {v with cC:=none} p=FP tI tN (ZZ σ {v with cC:=none} p) ZY F.qH F.tk F.nr (tD F 0) {v with cC:=none} p:=by kernel_rfl
theorem ajX (σ:Sg) (F:xi) (v:az) (j:dr) (p:ai):Gy σ F 1 {v with cC:=some (.dZ j)} p=FP tI tN (ZZ σ {v with cC:=some (.dZ j)} p) ZY F.qH F.tk F.nr (tD F 1) {v with cC:=some (.dZ j)} p:=by kernel_rfl
theorem ajW (σ:Sg) (F:xi) (v:az) (j:cY) (p:ai):Gy σ F 2 {v with cC:=some (.dH j)} p=FP tI tN (ZZ σ {v with cC:=some (.dH j)} p) ZY F.qH F.tk F.nr (tD F 2) {v with cC:=some (.dH j)} p:=by kernel_rfl
theorem ajV (σ:Sg) (F:xi) (v:az) (j:cM) (p:ai):Gy σ F 3 {v with cC:=some (.lit j)} p=FP tI tN (ZZ σ {v with cC:=some (.lit j)} p) ZY F.qH F.tk F.nr (tD F 3) {v with cC:=some (.lit j)} p:=by kernel_rfl
theorem ajU (σ:Sg) (F:xi) (v:az) (j:bW) (p:ai):Gy σ F 4 {v with cC:=some (.ph j)} p=FP tI tN (ZZ σ {v with cC:=some (.ph j)} p) ZY F.qH F.tk F.nr (tD F 4) {v with cC:=some (.ph j)} p:=by kernel_rfl
theorem ajT (σ:Sg) (F:xi) (v:az) (j:cd) (p:ai):Gy σ F 5 {v with cC:=some (.oM j)} p=FP tI tN (ZZ σ {v with cC:=some (.oM j)} p) ZY F.qH F.tk F.nr (tD F 5) {v with cC:=some (.oM j)} p:=by kernel_rfl
def oN (k:Nat):xi where
 qH:=Ja
 tk:=bV
 nr v:=match tz v with | true=>Nat.beq (cZ v) k | false=>false
 ad:=kH
 ap v:=match (kH v).cC with | some (.dZ j)=>j | _=>DZ ⟨0,0,0,0⟩
 ac v:=match (kH v).cC with | some (.dH j)=>j | _=>D0 ⟨0,0,0,0⟩
 al v:=match (kH v).cC with | some (.lit j)=>j | _=>G3 ⟨0,0,0,0⟩
 av v:=match (kH v).cC with | some (.ph j)=>j | _=>G2 ⟨0,0,0,0⟩
 ast v:=match (kH v).cC with | some (.oM j)=>j | _=>Lj ⟨0,0,0,0⟩
theorem IM {k:Nat} {v:az} (h:(oN k).nr v=true):tz v=true /\ cZ v=k:=by
 have h:(match tz v with | true=>Nat.beq (cZ v) k | false=>false)=true:=h
 split at h
 ·rename_i h1;exact⟨h1,(aC _ _).1 h⟩
 ·cases h
theorem adK_eq {k:Nat} {v:az} (h:(oN k).nr v=true):tD (oN k) k v=kH v:=by
 obtain⟨h1,h2⟩:=IM h
 have hk:=(AE BI v (pq h1)).trans h2
 unfold tD W6 oN
 dsimp only
 generalize kH v=w at hk ⊢
 obtain⟨so,en,ri,dg,cl,op,cC,an⟩:=w
 cases cC with
 | none=>cases hk;rfl
 | some j=>cases j<;>(cases hk;rfl)
theorem Ui (k:Nat):dB Tryz.prog (NV σ) (Uj σ (oN k) k):=by
 refine aK vG (aK RI (aK ZJ (aK Yd (aK (Iz (Ll rfl fun v x h=>?_)) bn))))
 have h:(oN k).nr v=true:=h
 have e:{(oN k).ad v with cC:=W6 (oN k) k v}=kH v:=adK_eq h
 show qT _ _ _ _ _ (.ji []) (gM bL [iD {(oN k).ad v with cC:=W6 (oN k) k v}])
 rw [e]
 exact QW σ v (IM h).1
def jH (v:az) (p:ai):az:={v with aQ:=bV v.aQ (p.aU (jB v.aQ).1).1}
def gU (v:az) (p:ai):Ch×az×ai :=
 qn cond (fun _ t=>t) (fun s v'=>(s,v',(p.aU (jB v.aQ).1).2)) (fun _=>true) kH v (jH v p) (jB v.aQ).1
def VZ (v:az) (p:ai):Prop:=Ja v.aQ=true /\ tz (jH v p)=true
def Pw (σ:Sg) (args:List SV) (l:List AV):T (SV×List AV×List AV):=match args,l with
 | [.v (.c (.ptr 7 0)),.v (.c (.ptr 8 0))],[.tu v,.gP p] =>
   .ite (!(v.bh != 0)) (.aE (.ji [UB,OC σ TD],[.tu v,.gP p],[]))
    (.aJ (decide p.Ok) (.ite (decide (p.bG (jB v.aQ).1)) (.aJ (iI (VZ v p)) (.aE (.ji [ZS (gU v p).1,.c .fL],[.tu (gU v p).2.1,.gP (gU v p).2.2],[]))) (.aE (.ji [UB,OC σ TE],[.tu v,.gP p],[]))))
 | _,_=>.fail "Step"
theorem KC {β:Type} {f:Ch×az×ai->β} {L:Ch->az->T β} {p2:ai} {nr:az->Bool} {ad:az->az} {v v1:az} {a:oU} (ho:nr v1=true) (he:ad v1=kH v1) (hL:∀s v',L s v'=.aE (f (s,v',p2))) :
 (qn tI tN L nr ad v v1 a).val=some (f (qn cond (fun _ t=>t) (fun s v'=>(s,v',p2)) (fun _=>true) kH v v1 a)):=by
 have fin:∀r,(qD tI tN L nr ad v1 r).val=some (f (qD cond (fun _ t=>t) (fun s v'=>(s,v',p2)) (fun _=>true) kH v1 r)):=fun r=>by
  unfold qD
  rw [he,ho,hL,hL]
  show (tI _ _ _).val=_
  cases (kH v1).bh==0<;>rfl
 unfold qn
 dsimp only
 have spl:∀{b:Bool} {t e:T β} {x y:Ch×az×ai},t.val=some (f x)->e.val=some (f y)->(tI b t e).val=some (f (cond b x y)):=fun {b t e x y} h1 h2=>by cases b<;>assumption
 repeat' first | exact fin _ | apply spl
theorem UF (σ:Sg) (v:az) (p:ai) (r:Option (SV×az×ai)) (h:(FP tI tN (ZZ σ v p) ZY Ja bV (oN (cZ v)).nr (tD (oN (cZ v)) (cZ v)) v p).val=some r) :
 (Bs jr σ (Uj σ (oN (cZ v)) (cZ v)) 11 mSt [.v (.c (.ptr 7 0)),.v (.c (.ptr 8 0))] [iD v,.gP p] (fP AV.len qg (az.wr v)) |>.map ab5).val=some r:=by
 obtain⟨so,en,ri,dg,cl,op,cC,an⟩:=v
 cases cC with
 | none=>exact(congrArg T.val (ajY σ (oN 0) ⟨so,en,ri,dg,cl,op,none,an⟩ p)).trans h
 | some j =>
   cases j with
   | dZ j=>exact(congrArg T.val (ajX σ (oN 1) ⟨so,en,ri,dg,cl,op,none,an⟩ j p)).trans h
   | dH j=>exact(congrArg T.val (ajW σ (oN 2) ⟨so,en,ri,dg,cl,op,none,an⟩ j p)).trans h
   | lit j=>exact(congrArg T.val (ajV σ (oN 3) ⟨so,en,ri,dg,cl,op,none,an⟩ j p)).trans h
   | ph j=>exact(congrArg T.val (ajU σ (oN 4) ⟨so,en,ri,dg,cl,op,none,an⟩ j p)).trans h
   | oM j=>exact(congrArg T.val (ajT σ (oN 5) ⟨so,en,ri,dg,cl,op,none,an⟩ j p)).trans h
theorem SY {r:SV×List AV×List AV} {v:SV} {a:az} {p:ai} (h:ab5 r=some (v,a,p)):r=(v,[.tu a,.gP p],[]):=by
 unfold ab5 at h
 split at h
 ·cases h;rfl
 ·cases h
theorem aff {M:List Bool} (hM:7=M.length) {a b:AV} {l:List AV}:∀x∈[SV.v (.c (.ptr 7 0)),.v (.c (.ptr 8 0))],fh (gM M (a::b::l)) x:=fun x hx=>by
 simp only [abk,abo,or_false] at hx
 rcases hx with rfl | rfl
 ·exact I3 hM
 ·intro c hc n hn
  have hc:c∈[Cell.ptr 8 0]:=hc
  rw [aez.1 hc] at hn
  cases hn
  refine⟨.bI b,?_⟩
  unfold gM
  rw [bo,gg,if_neg (by omega),<- hM]
  rfl
theorem UG (σ:Sg) (v:az) (p:ai) {x:SV} {v':az} {p':ai} (h:(FP tI tN (ZZ σ v p) ZY Ja bV (oN (cZ v)).nr (tD (oN (cZ v)) (cZ v)) v p).val=some (some (x,v',p'))) :
 qT Tryz.prog (NV σ) 11 [.v (.c (.ptr 7 0)),.v (.c (.ptr 8 0))] (gM mSt [iD v,.gP p]) x (gM mSt [iD v',.gP p']):=by
 obtain⟨y,h1,h2⟩:=dp (UF σ v p _ h)
 rw [SY h2] at h1
 exact sK (ub ou (B3 (Ui _)) (jC _) (a:=iD v) (K:=fP AV.len qg (az.wr v)) ⟨_,rfl⟩ (fun L S w hq=>(sW (N:=hP jr σ) rfl (by exact rfl) rfl L S w).1 hq) (aff (jC _)) h1).1
theorem ZU:cD Tryz.prog (NV σ) 11 (bP cJ mSt (Pw σ)):=by
 refine gH dE (jC _) fun args l x l' nw h hl bM=>?_
 unfold Pw at h
 split at h
 ·rename_i v p
  have fin:∀{x0:SV} {v0:az} {p0:ai},(FP tI tN (ZZ σ v p) ZY Ja bV (oN (cZ v)).nr (tD (oN (cZ v)) (cZ v)) v p).val=some (some (x0,v0,p0))->some (x0,[AV.tu v0,.gP p0],([]:List AV))=some (x,l',nw)->qT Tryz.prog (NV σ) 11 [.v (.c (.ptr 7 0)),.v (.c (.ptr 8 0))] (gM mSt [iD v,.gP p]) x (gM mSt (l'++nw)):=fun {x0 v0 p0} h1 h2=>by
   cases h2
   exact UG σ v p h1
  unfold FP at fin
  dsimp only at fin
  cases hb:(!(v.bh != 0)) with
  | true =>
    rw [hb] at h fin
    exact fin rfl h
  | false =>
    rw [hb] at h fin
    obtain⟨h1,h⟩:=aD (h:(T.aJ _ _).val=_)
    cases hv:decide (p.bG (jB v.aQ).1) with
    | false =>
      rw [hv] at h fin
      exact fin (nv h1) h
    | true =>
      rw [hv] at h fin
      obtain⟨h2,h⟩:=aD (h:(T.aJ _ _).val=_)
      obtain⟨h3,h4⟩:=gJ h2
      have ho:(oN (cZ v)).nr (jH v p)=true:=by
       show (match tz (jH v p) with | true=>Nat.beq (cZ (jH v p)) (cZ v) | false=>false)=true
       rw [h4]
       exact(aC _ _).2 rfl
      refine fin ((nv h1).trans ((nv h3).trans (KC (f:=fun r=>some (SV.ji [ZS r.1,.c .fL],r.2.1,r.2.2)) ho (adK_eq ho) fun _ _=>rfl))) h
 ·cases h
