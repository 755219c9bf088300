import Derived.Test.YtadmfaohjnjajaaGreatDoorRr
import Derived.Test.YtadmfaohjnjajaaGreatDoorPb
set_option linter.unusedVariables false
set_option linter.unusedSimpArgs false
set_option maxHeartbeats 0
set_option maxRecDepth 100000
noncomputable section
namespace Go.Proofs.YtadmfaohjnjajaaGreatDoor
section
open Go Go.Sx Go.Proofs
variable {σ:Sg} {lp:Lp}
def dV.next:dV->cJ->Cl×dV
 | .eu j,x=>((oJ j x).1,.eu (oJ j x).2)
 | .dO j,x=>((mY j x).1,.dO (mY j x).2)
 | .lit j,x=>((ct j x).1,.lit (ct j x).2)
 | .pQ j,x=>((bn j x).1,.pQ (bn j x).2)
 | .pn j,x=>((aN j x).1,.pn (aN j x).2)
def dV.ok:dV->Bool
 | .pQ j=>TX j
 | .pn j=>Mr j
 | _=>true
def GN (r:Ex×aA):T (Ex×aA):=.aD r
def cd (v:aA):T (Ex×aA):=eF tI GN v (match v.cF with | none=>.fail "no job" | some j=>tN j.ok (fM tI tN GN GW v (j.next v.aP.bD)))
theorem qC {v:aA} {nx:Cl×dV} {r:Ex×aA} (h:(fM tI tN GN GW v nx).val=some r):(fM tI tN tF GW v nx).val=some (r.1,yE r.2):=by
 unfold fM at h ⊢;cases hk:nx.1.aj != 12 with
 | true =>rw [hk] at h;have h:(T.aE (GW.Vc v.aP nx.1) (GN _)).val=some r:=h;show (T.aE (GW.Vc v.aP nx.1) (tF _)).val=_;obtain⟨h1,h2⟩:=aC h;rw [nv h1];simp only [GN,T.val,aaf] at h2;subst h2;rfl
 | false =>rw [hk] at h;have h:(T.aE (GW.Vc v.aP gp) (GN _)).val=some r:=h;show (T.aE (GW.Vc v.aP gp) (tF _)).val=_;obtain⟨h1,h2⟩:=aC h;rw [nv h1];simp only [GN,T.val,aaf] at h2;subst h2;rfl
theorem mz {v:aA} {c1:T (Ex×aA)} {c2:T (Ex×St AV)} {r:Ex×aA} (hc:∀r,c1.val=some r->c2.val=some (r.1,yE r.2)) (h:(eF tI GN v c1).val=some r):(eF tI tF v c2).val=some (r.1,yE r.2):=by
 have lf:∀{x r:Ex×aA},(GN x).val=some r->(tF x).val=some (r.1,yE r.2):=fun {x r} h=>by simp only [GN,T.val,aaf] at h;subst h;rfl
 unfold eF at h ⊢;cases h1:((v.aO != 0)==true) with
 | false=>rw [h1] at h;exact lf h
 | true =>
   rw [h1] at h;cases h2:!gT v.aP with
   | false=>rw [h2] at h;exact lf h
   | true =>
     rw [h2] at h;cases h3:v.aO==1 with
     | true=>rw [h3] at h;exact hc r h
     | false =>
       rw [h3] at h;cases h4:v.aO==2 with
       | true=>rw [h4] at h;exact hc r h
       | false=>rw [h4] at h;exact lf h
theorem akb (σ:Sg) (v:aA) (r:Ex×aA) (h:(cd v).val=some r):∃s1,Rnd Tryz.prog (NV σ) 52 LA (yE v) r.1 s1 /\ ∃π,wu (NV σ) (hpV v).length 52 s1 (yE r.2) π:=by
 have cR:gZ Tryz.prog (NV σ) (bE (lv (NV σ) (B4 GW) 5)):=dt (mQ sJ uD K7 V4 5);have qG:QE Tryz.prog (NV σ) 52 LA (fun _=>none):=fun _ _ _ g hg=>by cases hg
 have Be:∀d a,fw d=some a->∀π,iM (NV σ) (d.cV π) (.bN a):=fun d a h=>by cases h
 obtain⟨so,en,ri,dg,cl,op,cF,an⟩:=v;cases cF with
 | none=>exact sC sJ cR qG Be (by show 7<=9;decide) ((congrArg T.val (ael σ GW ⟨so,en,ri,dg,cl,op,none,an⟩)).trans (mz (c2:=afj) (fun r h=>by cases h) h))
 | some j =>
   cases j with
   | eu j=>exact sC sJ cR qG Be (by show 7<=10;decide) ((congrArg T.val (aek σ GW ⟨so,en,ri,dg,cl,op,none,an⟩ j)).trans (mz (fun r h=>qC (aC h).2) h))
   | dO j=>exact sC sJ cR qG Be (by show 7<=10;decide) ((congrArg T.val (aem σ GW ⟨so,en,ri,dg,cl,op,none,an⟩ j)).trans (mz (fun r h=>qC (aC h).2) h))
   | lit j=>exact sC sJ cR qG Be (by show 7<=10;decide) ((congrArg T.val (akc σ GW ⟨so,en,ri,dg,cl,op,none,an⟩ j)).trans (mz (fun r h=>qC (aC h).2) h))
   | pQ j=>exact sC sJ cR qG Be (by show 7<=10;decide) ((congrArg T.val (aj9 σ GW ⟨so,en,ri,dg,cl,op,none,an⟩ j)).trans (mz (fun r h=>by obtain⟨hb,h⟩:=aC h;exact(nv hb).trans (qC h)) h))
   | pn j=>exact sC sJ cR qG Be (by show 7<=10;decide) ((congrArg T.val (aka σ GW ⟨so,en,ri,dg,cl,op,none,an⟩ j)).trans (mz (fun r h=>by obtain⟨hb,h⟩:=aC h;exact(nv hb).trans (qC h)) h))
def dq (v:aA):Nat:=match v.cF with | none=>0 | some (.eu _)=>1 | some (.dO _)=>2 | some (.lit _)=>3 | some (.pQ _)=>4 | some (.pn _)=>5
theorem Kq (v:aA):(hpV v).length=match dq v with | 0=>9 | _=>10:=by
 obtain⟨so,en,ri,dg,cl,op,cF,an⟩:=v;cases cF with
 | none=>rfl
 | some j=>cases j<;>rfl
theorem H7 (j:dV) (x:cJ) (v:aA):dq {v with cF:=some (j.next x).2}=dq {v with cF:=some j}:=by cases j<;>rfl
theorem wH {v:aA} {r:Ex×aA} (h:(cd v).val=some r):dq r.2=dq v:=by
 unfold cd eF at h;have lf:∀{x r:Ex×aA},dq x.2=dq v->(GN x).val=some r->dq r.2=dq v:=fun {x r} hx h=>by simp only [GN,T.val,aaf] at h;subst h;exact hx
 have hc:∀r,(match v.cF with | none=>T.fail "no job" | some j=>tN j.ok (fM tI tN GN GW v (j.next v.aP.bD))).val=some r->dq r.2=dq v:=fun r h=>by
  split at h
  ·cases h
  ·rename_i j hj;obtain⟨_,h⟩:=aC h;have hv:dq {v with cF:=some (j.next v.aP.bD).2}=dq v:=(H7 j _ v).trans (by rw [<- hj]);unfold fM at h;cases hk:(j.next v.aP.bD).1.aj != 12 with
   | true =>rw [hk] at h;obtain⟨_,h⟩:=aC (h:(T.aE _ (GN _)).val=some r);exact lf hv h
   | false =>rw [hk] at h;obtain⟨_,h⟩:=aC (h:(T.aE _ (GN _)).val=some r);exact lf hv h
 cases h1:((v.aO != 0)==true) with
 | false=>rw [h1] at h;exact lf rfl h
 | true =>
   rw [h1] at h;cases h2:!gT v.aP with
   | false=>rw [h2] at h;exact lf rfl h
   | true =>
     rw [h2] at h;cases h3:v.aO==1 with
     | true=>rw [h3] at h;exact hc r h
     | false =>
       rw [h3] at h;cases h4:v.aO==2 with
       | true=>rw [h4] at h;exact hc r h
       | false=>rw [h4] at h;exact lf rfl h
def Wv (k:Nat) (v:aA):T (Ex×aA):=.aE (decide (dq v=k)) (cd v)
theorem Iu {k0:Nat} {e:Ex} {v':aA}:∀(k:Nat) (v:aA),dq v=k0->dK cd k v=some (e,v')->dK (Wv k0) k v=some (e,v')
 | 0,v,_,h=>by cases h
 | k+1,v,hv,h=>by
   have e:(Wv k0 v).val=(cd v).val:=nv (aaC hv);cases hs:(cd v).val with
   | none=>simp only [dK,hs] at h;cases h
   | some r =>
     obtain⟨x,m⟩:=r;cases x with
     | normal =>simp only [dK,hs] at h;simp only [dK,e,hs];exact Iu k m ((wH hs).trans hv) h
     | exit i =>simp only [dK,hs] at h;simp only [dK,e,hs];exact h
     | ret =>simp only [dK,hs] at h;simp only [dK,e,hs];exact h
theorem Bq {e:Ex} {v':aA}:∀(k:Nat) (v:aA),dK cd k v=some (e,v')->dq v'=dq v
 | 0,v,h=>by cases h
 | k+1,v,h=>by
   simp only [dK] at h;split at h
   ·rename_i m hs;exact(Bq k m h).trans (wH hs)
   ·rename_i hs;cases h;exact wH hs
   ·rename_i hs;cases h;exact wH hs
   ·cases h
def auI (v:aA) (s:St AV):Prop:=Sx.aJ s.E 0=.v (.c (.ptr 7 2)) /\ s.H=hpV v
def gA (v v':aA) (s:St AV):T (Ex×St AV):=.aE (iI (auI v s)) (.aD (.exit 0,yE v'))
theorem ao2 {N':eI AV} (hF:N'.F=(NV σ).F) (hG:N'.G=(NV σ).G) (v v':aA) (k:Nat) (hk:dK cd k v=some (.exit 0,v')):gr Tryz.prog N' 52 LA (gA v v'):=by
 refine Fa (N:=NV σ) hF hG fun s s' ex cM=>?_;obtain⟨E1,H1⟩:=s;unfold gA at cM
 replace cM:=aC cM
 obtain⟨hb,cM⟩:=cM;obtain⟨e0,eH⟩:=fv hb;simp only at e0 eH;subst eH;cases cM;refine⟨{M:=aA,tX:=yE,step:=Wv (dq v),L:=(hpV v).length,len:=rfl,GV:=(by rw [Kq];show 7<=_;split<;>omega),run:=fun m r hr=>?_,m:=v,k:=k,m':=v',Ld:=?_,it:=Iu k v rfl hk,fin:=rfl}⟩
 ·obtain⟨hb,hr⟩:=aC hr;have hb:=aaF hb;obtain⟨s1,h1,h2⟩:=akb σ m r hr;rw [Kq,hb,<- Kq] at h2;exact⟨s1,h1,h2⟩
 ·refine qp (N:=NV σ) (nt:=52) (E:=E1) (ks:=ksA) (E':=[(0,.v (.c (.ptr 7 2)))]) fun k hk=>?_;simp only [ksA,aaO,aaR,or_false] at hk;subst hk;exact .inl e0.symm
def lpA (v v':aA):Lp:=lK 29 0 (gA v v') jE
theorem asN (v v':aA) (k:Nat) (hk:dK cd k v=some (.exit 0,v')):fO Tryz.prog (iu (lpA v v') σ) :=
 lu nO (fn:=Tryz.f29) (by kernel_rfl) (c:=eG Tryz.f29) (by kernel_rfl) (nt:=52) (by kernel_rfl) (b:=LA) (cN (by kernel_rfl)) (ao2 (σ:=σ) (N':=iu jE σ) rfl rfl v v' k hk)
def Cb (lp:Lp) (σ:Sg) (tab:m7) (f:FuncId) (M:List Bool) (off:Nat) (args:List SV) (a:AV) (ty:TypeId) (gs:Gs):T (SV×List AV×List AV) :=
 Ca lp σ tab f M (.v (.c (.ptr 7 off))::args) [a] (gk AV.len ty gs)
theorem abY {M:List Bool} {a:AV} {l:List AV} {off:Nat} (hM:7=M.length):gf (iQ M (a::l)) (.v (.c (.ptr 7 off))):=by intro c hc n hn;have hc:c∈[Cell.ptr 7 off]:=hc;rw [aet.1 hc] at hn;cases hn;refine⟨.bN a,?_⟩;unfold iQ;rw [bA,ij,if_neg (by omega),hM,Nat.sub_self];rfl
theorem W7 {lp:Lp} (qG:fO Tryz.prog (iu lp σ)) {tab:m7} (ht:dH Tryz.prog (NV σ) tab) {f:FuncId} {M:List Bool} (hM:7=M.length) {off:Nat} {args:List SV} (hf:jq args=true) {a:AV} {ty:TypeId} {gs:Gs} (ho:a.K3=true) (hl:o9 σ a=some (gk AV.len ty (jl gs))) {v:SV} {l' nw:List AV}
 (h:(Cb lp σ tab f M off args a ty gs).val=some (v,l',nw)):rT Tryz.prog (NV σ) f (.v (.c (.ptr 7 off))::args) (iQ M [a]) v (iQ M (l'++nw)) :=
 tZ (uS qG (CJ ht) hM (a:=a) (K:=gk AV.len ty gs) ⟨_,rfl⟩ (fun L S w hq=>zt ((uZ (N:=iu lp σ) rfl hl ho L S w).1 hq)) (fun x hx=>by
  rcases aaO.1 hx with rfl | hx
  ·exact abY hM
  ·exact fU hf x hx) h).1
def Ih {γ α:Type} (off:Nat) (A:mh γ) (O:xp α) (ok:α->γ->Option Bool) (next:α->γ->SV×α×List AV) (args:List SV) (l:List AV):T (SV×List AV×List AV):=match args,l with
 | .v (.c (.ptr 7 o))::r,[a]=>match Nat.beq o off,A.jm r,O.X a with
   | true,some x,some j=>ET (ok j x) (.aD ((next j x).1,[O.V (next j x).2.1],(next j x).2.2))
   | _,_,_=>.fail "method"
 | _,_=>.fail "method"
theorem MG {f:FuncId} {M:List Bool} (hM:7=M.length) {γ α:Type} {off:Nat} {A:mh γ} {O:xp α} {ok:α->γ->Option Bool} {next:α->γ->SV×α×List AV}
 (hrun:∀j x,okO (ok j x)=true->rT Tryz.prog (NV σ) f (.v (.c (.ptr 7 off))::A.enc x) (iQ M [O.V j]) (next j x).1 (iQ M (O.V (next j x).2.1::(next j x).2.2))):cE Tryz.prog (NV σ) f (bJ cL M (Ih off A O ok next)):=by
 refine hZ dL hM fun args l v l' nw h hl bZ=>?_;unfold Ih at h;split at h
 ·rename_i o r a;split at h
  ·rename_i x j ho hx hj;have ho:=(aG _ _).1 ho;subst ho
   replace h:=kt h
   obtain⟨pf,h⟩:=h;cases h;have ea:=O.ok _ _ hj;subst ea;exact jh (hrun j x pf) fun ρ=>by simp only [aaU];rw [A.ok _ _ hx ρ]
  ·cases h
 ·cases h
def FP (v:aA):Prop:=SV.v (.c (.ptr 7 2))=.v (.c (.ptr 7 2)) /\ hpV v=hpV v
theorem wX (v:aA):iI (FP v)=true:=fh ⟨rfl,rfl⟩
theorem aat (σ:Sg) (v v':aA) (j j':dz):Cb (lpA {v with cF:=some (.eu j)} {v' with cF:=some (.eu j')}) σ b9 29 bS 2 [] (iG {v with cF:=some (.eu j)}) qJ (aA.wr {v with cF:=some (.eu j)}) =
 .aE (iI (FP {v with cF:=some (.eu j)})) (.aE true (.aD (.iW [],[iG {v' with cF:=some (.eu j')}],[]))):=by kernel_rfl
theorem aav (σ:Sg) (v v':aA) (j j':dj):Cb (lpA {v with cF:=some (.dO j)} {v' with cF:=some (.dO j')}) σ b9 29 bS 2 [] (iG {v with cF:=some (.dO j)}) qJ (aA.wr {v with cF:=some (.dO j)}) =
 .aE (iI (FP {v with cF:=some (.dO j)})) (.aE true (.aD (.iW [],[iG {v' with cF:=some (.dO j')}],[]))):=by kernel_rfl
theorem aep (σ:Sg) (v v':aA) (j j':cU):Cb (lpA {v with cF:=some (.lit j)} {v' with cF:=some (.lit j')}) σ b9 29 bS 2 [] (iG {v with cF:=some (.lit j)}) qJ (aA.wr {v with cF:=some (.lit j)}) =
 .aE (iI (FP {v with cF:=some (.lit j)})) (.aE true (.aD (.iW [],[iG {v' with cF:=some (.lit j')}],[]))):=by kernel_rfl
theorem aen (σ:Sg) (v v':aA) (j j':ca):Cb (lpA {v with cF:=some (.pQ j)} {v' with cF:=some (.pQ j')}) σ b9 29 bS 2 [] (iG {v with cF:=some (.pQ j)}) qJ (aA.wr {v with cF:=some (.pQ j)}) =
 .aE (iI (FP {v with cF:=some (.pQ j)})) (.aE true (.aD (.iW [],[iG {v' with cF:=some (.pQ j')}],[]))):=by kernel_rfl
theorem aeo (σ:Sg) (v v':aA) (j j':cD):Cb (lpA {v with cF:=some (.pn j)} {v' with cF:=some (.pn j')}) σ b9 29 bS 2 [] (iG {v with cF:=some (.pn j)}) qJ (aA.wr {v with cF:=some (.pn j)}) =
 .aE (iI (FP {v with cF:=some (.pn j)})) (.aE true (.aD (.iW [],[iG {v' with cF:=some (.pn j')}],[]))):=by kernel_rfl
theorem aau (σ:Sg) (v v':aA):Cb (lpA {v with cF:=none} {v' with cF:=none}) σ b9 29 bS 2 [] (iG {v with cF:=none}) qJ (aA.wr {v with cF:=none}) =
 .aE (iI (FP {v with cF:=none})) (.aE true (.aD (.iW [],[iG {v' with cF:=none}],[]))):=by kernel_rfl
def Cq:Nat:=16
def aj8 (v:aA):Option (Ex×aA):=dK cd Cq v
def jI (v:aA):aA:=match aj8 v with | some (_,v')=>v' | none=>v
def tz (v:aA):Bool:=match aj8 v with | some (.exit 0,_)=>true | _=>false
theorem kJ {v:aA} (h:tz v=true):dK cd Cq v=some (.exit 0,jI v):=by
 unfold tz at h;split at h
 ·rename_i v' hv;unfold jI;rw [hv];exact hv
 ·cases h
theorem SO (σ:Sg) (v:aA) (h:tz v=true):rT Tryz.prog (NV σ) 29 [.v (.c (.ptr 7 2))] (iQ bS [iG v]) (.iW []) (iQ bS [iG (jI v)]):=by
 have hk:=kJ h;have uw:=Bq Cq v hk;generalize jI v=v' at hk uw;have fin:∀(gs:Gs),o9 σ (iG v)=some (gk AV.len qJ (jl gs))->(Cb (lpA v v') σ b9 29 bS 2 [] (iG v) qJ gs).val=some (.iW [],[iG v'],[])->_:=fun gs hl hr=>W7 (M:=bS) (off:=2) (asN v v' Cq hk) bp rfl (args:=[]) rfl (a:=iG v) rfl hl hr;obtain⟨so,en,ri,dg,cl,op,cF,an⟩:=v;obtain⟨so',en',ri',dg',cl',op',Ug,an'⟩:=v';cases cF with
 | none =>
   cases Ug with
   | none=>exact fin (aA.wr ⟨so,en,ri,dg,cl,op,none,an⟩) rfl ((congrArg T.val (aau σ ⟨so,en,ri,dg,cl,op,none,an⟩ ⟨so',en',ri',dg',cl',op',none,an'⟩)).trans (nv (wX _)))
   | some j'=>cases j'<;>cases uw
 | some j =>
   cases j with
   | eu j =>
     cases Ug with
     | none=>cases uw
     | some j' =>
       cases j' with
       | eu j'=>exact fin (aA.wr ⟨so,en,ri,dg,cl,op,some (.eu j),an⟩) rfl ((congrArg T.val (aat σ ⟨so,en,ri,dg,cl,op,none,an⟩ ⟨so',en',ri',dg',cl',op',none,an'⟩ j j')).trans (nv (wX _)))
       | _=>cases uw
   | dO j =>
     cases Ug with
     | none=>cases uw
     | some j' =>
       cases j' with
       | dO j'=>exact fin (aA.wr ⟨so,en,ri,dg,cl,op,some (.dO j),an⟩) rfl ((congrArg T.val (aav σ ⟨so,en,ri,dg,cl,op,none,an⟩ ⟨so',en',ri',dg',cl',op',none,an'⟩ j j')).trans (nv (wX _)))
       | _=>cases uw
   | lit j =>
     cases Ug with
     | none=>cases uw
     | some j' =>
       cases j' with
       | lit j'=>exact fin (aA.wr ⟨so,en,ri,dg,cl,op,some (.lit j),an⟩) rfl ((congrArg T.val (aep σ ⟨so,en,ri,dg,cl,op,none,an⟩ ⟨so',en',ri',dg',cl',op',none,an'⟩ j j')).trans (nv (wX _)))
       | _=>cases uw
   | pQ j =>
     cases Ug with
     | none=>cases uw
     | some j' =>
       cases j' with
       | pQ j'=>exact fin (aA.wr ⟨so,en,ri,dg,cl,op,some (.pQ j),an⟩) rfl ((congrArg T.val (aen σ ⟨so,en,ri,dg,cl,op,none,an⟩ ⟨so',en',ri',dg',cl',op',none,an'⟩ j j')).trans (nv (wX _)))
       | _=>cases uw
   | pn j =>
     cases Ug with
     | none=>cases uw
     | some j' =>
       cases j' with
       | pn j'=>exact fin (aA.wr ⟨so,en,ri,dg,cl,op,some (.pn j),an⟩) rfl ((congrArg T.val (aeo σ ⟨so,en,ri,dg,cl,op,none,an⟩ ⟨so',en',ri',dg',cl',op',none,an'⟩ j j')).trans (nv (wX _)))
       | _=>cases uw
end
section
open Go Go.Sx Go.Proofs
variable {σ:Sg} {lp:Lp}
def BZ:mh O where
 enc c:=[.v (.agg (Dw (O.wr c)))]
 jm:=fun | [.v (.agg cs)]=>(match O.rd ((CP cs).map .p) with | some (c,[])=>some c | _=>none) | _=>none
 ok:=fun l a h ρ=>by
  split at h
  ·split at h
   ·rename_i hc;cases h;have:=O.ia hc;rw [aeF] at this;rw [<- this,rn];simp only [aaU,afm,SV.ay,V1.ay,vn]
   ·cases h
  ·cases h
 free:=fun _=>rfl
section
variable {β:Type} (I:Bool->β->β->β) (ok Ax ahX:β)
def alj (o:O):Bool:=match (o.aj==o.aj&&(o.key==0&&(o.val==o.val&&o.bI==0)))==true with | true=>(match decide (0<=o.val)==true with | true=>decide (o.val<=1073741824) | false=>false) | false=>false
def aag (o:O):Bool:=o.aj==o.aj&&(o.key==0&&(o.val==0&&o.bI==0))
def tv (o:O):β:=I (o.aj==1) (I (!alj o) Ax ok) (I (o.aj==2) (I (o.aj==2) (I (!aag o) Ax ok) Ax) (I (o.aj==3) (I (!aag o) Ax ok) Ax))
def ua (o:O):β:=I (o.aj==4) (I (!alj o) Ax ok) (I (o.aj==5) (I (!aag o) Ax ok) Ax)
def afC (o:O):Bool:=match (o.val==0)==true with | true=>o.bI==0 | false=>false
def vG (o:O):Bool:=match (match decide (o.key < 0)==false with | true=>decide (o.key > 255) | false=>true) with
 | true=>false
 | false=>match o.aj==6 with
   | true=>(match decide (0<=o.val)==true with
     | true=>(match decide (o.val<=1073741824)==true with | true=>(match decide (0<=o.bI)==true with | true=>decide (o.bI<=3) | false=>false) | false=>false)
     | false=>false)
   | false=>(match o.aj==7 with | true=>(match o.aj==7 with | true=>afC o | false=>false) | false=>(match o.aj==8 with | true=>afC o | false=>false))
def vZ (o:O):Bool:=match (!vG o)==false with | true=>o.bI != 0 | false=>true
def vY (o:O):Bool:=match (!vG o)==false with | true=>(match (o.aj==6)==true with | true=>decide (o.bI < 1) | false=>false) | false=>true
def uq (o:O):β:=I (vZ o) Ax (I (o.aj==6) (I (o.aj==6) ok ahX) (I (o.aj==7) (I (o.aj==7) ok ahX) (I (o.aj==8) ok ahX)))
def yX (o:O):β:=I (vZ o) Ax ok
def zc (o:O):β:=I (vY o) Ax ok
end
def dU (s:Int) (o:O):Bool:=if s=1 then tv cond true false o else if s=2 then ua cond true false o else if s=3 then uq cond true false true o else if s=4 then yX cond true false o else if s=5 then zc cond true false o else false
def EY (o:O):dz:=⟨0,bf,o,aq,aq,0⟩
def EZ (o:O):dj:=⟨0,bf,o,aq,aq,aq,aq,0⟩
def Ie (o:O):cU:=jO (bc 0,o.key,o)
def Ic (o:O):ca:=⟨0,bf,o,0,0,0,0,aq,aq,aq,none,none,⟨0,0⟩,aq⟩
def MF (o:O):cD:=⟨0,bf,o,none,aq,0,0,0⟩
def tJ {α:Type} (j:α):T (Option α):=.aE true (.aD (some j))
def LH {α:Type}:T (Option α):=.fail "load"
def al3 {α:Type}:T (Option α):=.aD none
theorem ab3 (σ:Sg) (o:O):(kG σ b9 34 bS (BZ.enc o) []).map (sW HW)=tv tI (tJ (EY o)) LH o:=by kernel_rfl
theorem adY (σ:Sg) (o:O):(kG σ b9 35 bS (BZ.enc o) []).map (sW HX)=ua tI (tJ (EZ o)) LH o:=by kernel_rfl
theorem aij (σ:Sg) (o:O):(kG σ b9 36 bS (BZ.enc o) []).map (sW EH)=uq tI (tJ (Ie o)) LH al3 o:=by kernel_rfl
theorem agP (σ:Sg) (o:O):(kG σ b9 37 bS (BZ.enc o) []).map (sW Pu)=yX tI (tJ (Ic o)) LH o:=by kernel_rfl
theorem ahc (σ:Sg) (o:O):(kG σ b9 38 bS (BZ.enc o) []).map (sW EG)=zc tI (tJ (MF o)) LH o:=by kernel_rfl
end
section
open Go Go.Sx Go.Proofs
variable {σ:Sg}
def rpZ:V1:=rpC ⟨aq,false⟩
def P9 (σ:Sg):V1:=.c (.xP 229 (.op 0 (σ 0)))
def nC (σ:Sg) (m:ah) (a:pB):SV×List AV×List AV:=if m.bM a then(.iW [rpC (m.aV a).1,.c .fL],[.gi (m.aV a).2],[]) else(.iW [rpZ,P9 σ],[.gi m],[])
def apc (σ:Sg):Option (Int×Nat)->Bool
 | none=>true
 | some (_,i)=>decide (σ i=σ i)
def lfD (σ:Sg) (lb ls lf:Nat) (r e:V1) (m:ah):T (SV×List AV×List AV) :=
 .aE (decide (lb=m.dX.length)) (.aE (decide (ls=m.aW.length)) (.aE (decide (lf=m.free.length)) (.aE (apc σ m.fault) (.aD (.iW [r,e],[.gi m],[])))))
def lfM (σ:Sg) (m0:ah) (r:cJ) (m:ah):T (SV×List AV×List AV):=lfD σ m0.dX.length m0.aW.length m0.free.length (rpC r) (.c .fL) m
def lfE (σ:Sg) (m:ah):T (SV×List AV×List AV):=lfD σ m.dX.length m.aW.length m.free.length rpZ (P9 σ) m
def ah.cI (m:ah):ah:={m with steps:=di m.steps}
def ah.Ax (m:ah) (e:Nat):ah:=match m.fault with | none=>{m.cI with fault:=some (m.cI.steps,e)} | some _=>m.cI
def lfB (σ:Sg) (m:ah) (k:Int) (e:Nat):T (SV×List AV×List AV):=lfM σ m ⟨if k=1 \/ k=3 then dZ (-1) else aq,false⟩ (m.Ax e)
def JI (σ:Sg) (m:ah) (k:Int) (c:Bool) (w o:W) (m2:ah):T (SV×List AV×List AV) :=
 if k=1 then .aE c (lfM σ m ⟨w,true⟩ m.cI)
 else if k=2 then .aE c (lfM σ m ⟨aq,true⟩ m2)
 else .aE c (.aE c (.ite (!lG w o) (lfM σ m ⟨w,false⟩ m.cI) (.aE c (lfM σ m ⟨w,true⟩ m2))))
def aB (a b:Bool):Bool:=match a==true with | true=>b | false=>false
def V8 (σ:Sg) (m:ah) (k f:Int) (o n:W):T (SV×List AV×List AV) :=
 .ite (!aB (decide (0<=f)) (decide (f < (m.dX.length:Int)))) (lfE σ m) (.aE (decide (0<=f /\ f < (m.dX.length:Int)))
  (JI σ m k (decide (0+f.toNat < m.dX.length)) (m.dX.getD (0+f.toNat) fg.bK) o {m.cI with dX:=m.dX.set (0+f.toNat) n}))
def iX (s:Int):Nat:=0+(IntKind.wrap .i64 (s - 1)).toNat
def iB (m:ah) (s:Int):Bool:=decide (0<=IntKind.wrap .i64 (s - 1) /\ IntKind.wrap .i64 (s - 1) < (m.aW.length:Int))
def JJ (σ:Sg) (m:ah) (k s g:Int) (e:Nat) (t:T (SV×List AV×List AV)):T (SV×List AV×List AV) :=
 .aE (iB m s) (.aE (decide (iX s < m.aW.length)) (.ite (!(m.aW.getD (iX s) ic.bK).used) (lfB σ m k e)
  (.aE (decide (iX s < m.aW.length)) (.ite ((m.aW.getD (iX s) ic.bK).gen != g) (lfB σ m k 6) t))))
def afh (σ:Sg) (m:ah) (k s g f:Int) (o n:W):T (SV×List AV×List AV) :=
 .ite (aB (decide (1<=s)) (decide (s<=(m.aW.length:Int)))==true) (.ite (decide (0<=f)==true) (.ite (!decide (f < 10)) (lfE σ m)
  (JJ σ m k s g 5 (.aE (match iB m s with | true=>decide (0<=f /\ f < 10) | false=>false)
    (JI σ m k (match decide (iX s < m.aW.length) with | true=>(match decide (f.toNat * 5 % 5=0) with | true=>decide (f.toNat * 5 / 5 < 10) | false=>false) | false=>false)
      ((m.aW.getD (iX s) ic.bK).at (f.toNat * 5 / 5)) o {m.cI with aW:=m.aW.set (iX s) ((m.aW.getD (iX s) ic.bK).B8 (f.toNat * 5 / 5) n)})))) (lfE σ m)) (lfE σ m)
def afi (σ:Sg) (m:ah) (o:W):T (SV×List AV×List AV) :=
 .ite (!aB (decide (1<=o.ae)) (decide (o.ae<=(m.aW.length:Int)))) (lfE σ m) (JJ σ m 5 o.ae o.gen 4
  (.aE (iB m o.ae) (.aE (decide (iX o.ae < m.aW.length)) (.aE (decide (m.free.length=gX.len (F6 σ) (AV.ie m.free) /\ (m.free.length+1) * (SI.bytes JQ+1)<=zF))
    (lfD σ m.dX.length m.aW.length (m.free.length+1) (rpC ⟨aq,true⟩) (.c .fL) {m.cI with aW:=m.aW.set (iX o.ae) {m.aW.getD (iX o.ae) ic.bK with used:=false},free:=m.free++[⟨o.ae⟩]})))))
def al4 (σ:Sg) (m:ah) (n:W):T (SV×List AV×List AV) :=
 let x:=IntKind.wrap .i64 ((m.free.length:Int) - 1);let v:=(m.free.getD (0+x.toNat) gx.bK).val;let i:=iX v;let up (l:List Sl) (h:Sl->Sl):List Sl:=l.set i (h (l.getD i ic.bK));let s1:=up m.aW fun q=>{q with gen:=di q.gen};let s2:=up s1 fun q=>{q with used:=true};let s3:=up s2 fun q=>{q with cells:=[aq,aq,aq,aq,aq,aq,aq,aq,aq,dZ n.bU]}
 .ite ((m.free.length:Int)==0) (lfM σ m ⟨aq,false⟩ m.cI)
  (.aE (match decide (0<=x /\ x < (m.free.length:Int)) with | true=>decide (0+x.toNat < m.free.length) | false=>false)
  (.aE (decide ((0:Int)<=0 /\ 0<=x /\ x<=(m.free.length:Int) /\ m.free.length=gX.len (F6 σ) (AV.ie m.free)))
  (.aE (iB m v) (.aE (decide (i < m.aW.length)) (.aE (decide (i < m.aW.length)) (.aE (decide (i < s1.length)) (.aE (decide (i < s2.length)) (.aE (decide (i < s3.length))
    (lfD σ m.dX.length m.aW.length (x.toNat - 0) (rpC ⟨⟨v,(s3.getD i ic.bK).gen,0,0,false⟩,true⟩) (.c .fL) {m.cI with aW:=s3,free:=m.free.take x.toNat,made:=di m.made})))))))))
def QB (k s g:Cell) (f:Int) (o n:List Cell):List Cell:=[k,s,g,.it .i64 f]++o++n
def mDo:List Bool:=mkM 22
def Ao (a:pB):List Cell:=[.it .i64 a.aj,.it .i64 a.s,.it .i64 a.g,.it .i64 a.f]++a.dy.enc++a.new.enc
def afq (σ:Sg) (cs:List Cell) (m:ah):T (SV×List AV×List AV) :=
 Pg σ al0 22 mDo [.v (.c (.ptr 7 0)),.v (.agg cs)] [.gi m] (tH σ m)
def agy (σ:Sg) (m:ah) (a:pB):Prop:=∃cs,(afq σ cs m).val=some (nC σ m a) /\ (∀ρ,aF ρ cs=aF ρ (Ao a)) /\ Bf cs=true
theorem OE {n:Int} (h:1<=n) (h2:n<=5000):IntKind.wrap .i64 (n - 1)=n - 1:=by
 unfold IntKind.wrap;simp only [IntKind.bits,IntKind.signed];first | omega | (simp;omega)
theorem Uk {n:Nat} (h:n<=5000):(n+1) * (SI.bytes JQ+1)<=zF:=by
 have:SI.bytes JQ<=1000:=by decide
 have:zF=1099511627776:=rfl;have:(n+1) * (SI.bytes JQ+1)<=5001 * 1001:=Nat.mul_le_mul (by omega) (by omega);omega
theorem OK {α:Type} {c:Bool} {t e:T α}:(T.ite c t e).val=if c=true then t.val else e.val:=by cases c<;>rfl
theorem pX {α:Type} {c:Bool} {t:T α} (h:c=true):(T.aE c t).val=t.val:=by subst h;rfl
theorem yr {lb ls lf:Nat} {r e:V1} {m:ah} (h1:lb=m.dX.length) (h2:ls=m.aW.length) (h3:lf=m.free.length):(lfD σ lb ls lf r e m).val=some (.iW [r,e],[.gi m],[]):=by
 unfold lfD;rw [pX (aaC h1),pX (aaC h2),pX (aaC h3)];cases h:m.fault with
 | none=>rfl
 | some x=>rw [show apc σ (some x)=true from aaC rfl];rfl
theorem q9 {m:ah} {a:pB} (h:¬m.bM a):(lfE σ m).val=some (nC σ m a):=by unfold lfE nC;rw [yr rfl rfl rfl,if_neg h]
theorem aee {m:ah} {e:Nat}:(m.Ax e).dX=m.dX /\ (m.Ax e).aW=m.aW /\ (m.Ax e).free=m.free:=by unfold ah.Ax;split<;>exact⟨rfl,rfl,rfl⟩
theorem RS {m:ah} {a:pB} {e:Nat} (h:m.bM a) (hw:m.oz a=some e):(lfB σ m a.aj e).val=some (nC σ m a):=by obtain⟨h1,h2,h3⟩:=aee (m:=m) (e:=e);unfold lfB lfM nC;rw [yr (by rw [h1]) (by rw [h2]) (by rw [h3]),if_pos h];unfold ah.aV ah.Ax;rw [hw];rfl
theorem Hr {m m2:ah} {a:pB} {c:Bool} {w:W} (hk:a.aj=1 \/ a.aj=2 \/ a.aj=3) (h:m.bM a) (hw:m.oz a=none) (hc:c=true) (h1:m.cI.read a.s a.f=w) (h2:m.cI.fP a.s a.f a.new=m2)
 (hb:m2.dX.length=m.dX.length) (hs:m2.aW.length=m.aW.length) (hf:m2.free=m.free):(JI σ m a.aj c w a.dy m2).val=some (nC σ m a):=by
 have e1:∀r,(lfM σ m r m.cI).val=some (.iW [rpC r,.c .fL],[.gi m.cI],[]):=fun r=>yr rfl rfl rfl;have e2:∀r,(lfM σ m r m2).val=some (.iW [rpC r,.c .fL],[.gi m2],[]):=fun r=>yr hb.symm hs.symm (by rw [hf]);obtain⟨k,s,g,f,o,n⟩:=a;unfold JI nC;rw [if_pos h];unfold ah.aV;rw [hw];subst hc;dsimp only at hk h1 h2 ⊢;rw [show ({m with steps:=di m.steps}:ah)=m.cI from rfl,h1,h2];rcases hk with rfl | rfl | rfl
 ·simp only [if_true,pX,e1,show ¬(1:Int)=4 by decide,show ¬(1:Int)=5 by decide,if_false]
 ·simp only [if_true,pX,e2,show ¬(2:Int)=4 by decide,show ¬(2:Int)=5 by decide,show ¬(2:Int)=1 by decide,if_false]
 ·simp only [pX,OK,e1,e2,show ¬(3:Int)=4 by decide,show ¬(3:Int)=5 by decide,show ¬(3:Int)=1 by decide,show ¬(3:Int)=2 by decide,if_false];cases lG w o<;>rfl
theorem OS {m:ah} {k f:Int} {o n:W} (hk:k=1 \/ k=2 \/ k=3):(V8 σ m k f o n).val=some (nC σ m ⟨k,0,0,f,o,n⟩):=by
 have hv:m.bM ⟨k,0,0,f,o,n⟩↔0<=f /\ f < (m.dX.length:Int):=by unfold ah.bM ah.yz;simp [hk]
 unfold V8;rw [OK];by_cases h1:0<=f /\ f < (m.dX.length:Int)
 ·rw [if_neg (by simp [aB,h1.1,h1.2]),pX (aaC h1)];refine Hr (a:=⟨k,0,0,f,o,n⟩) hk (hv.2 h1) ?_ (aaC (by omega)) ?_ ?_ (by simp) rfl rfl
  ·unfold ah.oz;dsimp only;rw [if_neg (by omega),if_neg (by omega)];rfl
  ·rw [aby];rfl
  ·rw [aby];rfl
 ·rw [if_pos (by simp only [aB];cases h2:decide (0<=f)<;>simp_all)];exact q9 fun h=>h1 (hv.1 h)
theorem iX_eq {s:Int} (h:1<=s) (h2:s<=5000):iX s=(s - 1).toNat:=by unfold iX;rw [OE h h2,aby]
theorem acV {m:ah} {s:Int} (h:m.has s) (hl:m.aW.length<=5000):iB m s=true:=by obtain⟨h,h2⟩:=h;unfold iB;rw [OE h (by omega)];exact aaC (by omega)
theorem Hy {m:ah} {a:pB} {k s g:Int} {e:Nat} {t:T (SV×List AV×List AV)} (hk:k=a.aj) (h:m.bM a) (hs:m.has s) (hl:m.aW.length<=5000) (hw:m.oz a=m.lE s g e) (ht:m.oz a=none->t.val=some (nC σ m a)) :
 (JJ σ m k s g e t).val=some (nC σ m a):=by
 have hb:=acV hs hl;obtain⟨h1,h2⟩:=hs;have ei:iX s=(s - 1).toNat:=iX_eq h1 (by omega);have hi:decide (iX s < m.aW.length)=true:=aaC (by omega);unfold JJ;subst hk;rw [pX hb,pX hi,OK,pX hi,OK];have e0:m.aW.getD (iX s) ic.bK=m.ae s:=by rw [ei];rfl
 rw [e0];have hs0:¬s=0:=by omega
 unfold ah.lE at hw;rw [if_neg hs0] at hw;by_cases hu:(m.ae s).used=false
 ·rw [if_pos hu] at hw;rw [if_pos (by rw [hu];rfl)];exact RS h hw
 ·rw [if_neg hu] at hw;rw [if_neg (by simpa using hu)];by_cases hg:(m.ae s).gen=g
  ·rw [if_pos hg] at hw;rw [if_neg (by simp [hg])];exact ht hw
  ·rw [if_neg hg] at hw;rw [if_pos (by simp [hg])];exact RS h hw
theorem Te {m:ah} {k s g f:Int} {o n:W} (hk:k=1 \/ k=2 \/ k=3) (h0:s≠0) (hl:m.aW.length<=5000):(afh σ m k s g f o n).val=some (nC σ m ⟨k,s,g,f,o,n⟩):=by
 have hv:m.bM ⟨k,s,g,f,o,n⟩↔m.has s /\ 0<=f /\ f < 10:=by unfold ah.bM ah.yz;simp [hk,h0]
 unfold afh;simp only [OK];by_cases h1:m.has s
 ·rw [if_pos (by simp [aB,h1.1,h1.2])];by_cases h3:0<=f
  ·rw [if_pos (by simp [h3])];by_cases h4:f < 10
   ·rw [if_neg (by simp [h4])];have h:=hv.2 ⟨h1,h3,h4⟩;have ei:iX s=(s - 1).toNat:=iX_eq h1.1 (by have:=h1.2;omega);have ef:f.toNat * 5 / 5=f.toNat:=by omega
    have hi:decide (iX s < m.aW.length)=true:=aaC (by have:=h1.1;have:=h1.2;omega);refine Hy (a:=⟨k,s,g,f,o,n⟩) rfl h h1 hl (by unfold ah.oz;dsimp only;rw [if_neg (by omega),if_neg (by omega)]) fun hw=>?_;rw [acV h1 hl,pX (aaC ⟨h3,h4⟩)];refine Hr (a:=⟨k,s,g,f,o,n⟩) hk h hw ?_ ?_ ?_ rfl (by simp) rfl
    ·rw [hi];dsimp only;rw [aaC (show f.toNat * 5 % 5=0 by omega)];exact aaC (by omega)
    ·rw [ei,ef];unfold ah.read;rw [if_neg h0];rfl
    ·rw [ei,ef];unfold ah.fP;rw [if_neg h0];rfl
   ·rw [if_pos (by simp [h4])];exact q9 fun h=>h4 (hv.1 h).2.2
  ·rw [if_neg (by simp [h3])];exact q9 fun h=>h3 (hv.1 h).2.1
 ·rw [if_neg (by intro h;apply h1;simp only [aB] at h;cases h2:decide (1<=s)<;>simp_all [ah.has])];exact q9 fun h=>h1 (hv.1 h).1
theorem Tf {m:ah} {s g f:Int} {o n:W} (pf:m.Ok):(afi σ m o).val=some (nC σ m ⟨5,s,g,f,o,n⟩):=by
 have hv:m.bM ⟨5,s,g,f,o,n⟩↔m.has o.ae:=by unfold ah.bM;simp
 unfold afi;rw [OK];by_cases h1:m.has o.ae
 ·rw [if_neg (by simp [aB,h1.1,h1.2])];have ei:iX o.ae=(o.ae - 1).toNat:=iX_eq h1.1 (by have:=h1.2;have:=pf.ls;omega);have hi:decide (iX o.ae < m.aW.length)=true:=aaC (by have:=h1.1;have:=h1.2;omega);refine Hy (a:=⟨5,s,g,f,o,n⟩) rfl (hv.2 h1) h1 pf.ls rfl fun hw=>?_;rw [pX (acV h1 pf.ls),pX hi,pX (aaC ⟨rfl,Uk pf.lf⟩)];refine Eq.trans (yr rfl (by simp) (by simp)) ?_;rw [ei];unfold nC ah.aV;rw [if_pos (hv.2 h1),hw];rfl
 ·rw [if_pos (by simp only [aB,ah.has] at *;cases h2:decide (1<=o.ae)<;>simp_all)];exact q9 fun h=>h1 (hv.1 h)
theorem V7 {m:ah} {s g f:Int} {o n:W} (pf:m.Ok):(al4 σ m n).val=some (nC σ m ⟨4,s,g,f,o,n⟩):=by
 unfold nC;rw [if_pos (show m.bM ⟨4,s,g,f,o,n⟩ by unfold ah.bM;simp)];obtain⟨b,sl,fr,st,md,ft⟩:=m;have hl:sl.length<=5000:=pf.ls;have hf:fr.length<=5000:=pf.lf;unfold al4;simp only [ah.aV,ah.oz,ah.alloc,di,if_true,ah.ae,ah.cI,OK];by_cases h0:fr.length=0
 ·rw [if_pos (by simp [h0]),if_pos h0];exact yr rfl rfl rfl
 ·have e1:IntKind.wrap .i64 ((fr.length:Int) - 1)=(fr.length:Int) - 1:=OE (by omega) (by omega);have e2:((fr.length:Int) - 1).toNat=fr.length - 1:=by omega
  have e4:fr.length - 1 < fr.length:=by omega
  have hm:fr.getD (fr.length - 1) gx.bK∈fr:=by
   have:fr.getD (fr.length - 1) gx.bK=fr[fr.length - 1]:=by simp [List.getD,e4]
   rw [this];exact List.getElem_mem e4
  have i:=pf.fr _ hm;rw [if_neg (by simpa using h0),if_neg h0];simp only [e1,e2,aby];generalize fr.getD (fr.length - 1) gx.bK=q at i hm ⊢;have ei:=iX_eq i.1 (Int.le_trans i.2 (by show (sl.length:Int)<=5000;omega));have hi:(q.val - 1).toNat < sl.length:=by have h1:=i.1;have h2:q.val<=(sl.length:Int):=i.2;omega
  have hb:=acV i hl;rw [ei,hb];simp only [afX,aaC hi,aaC e4];rw [aaC (show 0<=(fr.length:Int) - 1 /\ (fr.length:Int) - 1 < (fr.length:Int) by omega),aaC (show (0:Int)<=0 /\ 0<=(fr.length:Int) - 1 /\ (fr.length:Int) - 1<=(fr.length:Int) /\ fr.length=gX.len (F6 σ) (AV.ie fr) from⟨by omega,by omega,by omega,rfl⟩)];simp only [pX];refine Eq.trans (yr rfl (by simp) (by simp)) ?_;simp [show q.val.toNat - 1 < sl.length by omega,List.getD,List.getElem?_set,aq,dZ]
theorem EO {n:Int} {l:List Int} (h:n ∉ l):∀c∈l,(n==c)=false:=fun c hc=>beq_eq_false_iff_ne.2 fun e=>h (e▸hc)
theorem ajL (m:ah) (a:pB) (pf:m.Ok):agy σ m a:=by
 have K {cs:List Cell} {t:T (SV×List AV×List AV)} (hr:afq σ cs m=t) (hv:t.val=some (nC σ m a)) (h1:∀ρ,aF ρ cs=aF ρ (Ao a)) (h2:Bf cs=true):agy σ m a:=⟨cs,by rw [hr];exact hv,h1,h2⟩;obtain⟨k,s,g,f,⟨os,og,ot,on,om⟩,n⟩:=a;by_cases hk:k=1 \/ k=2 \/ k=3
 ·by_cases hs:s=0
  ·by_cases hg:g=0
   ·subst hs hg;refine K (cs:=QB (.il .i64 k) (.il .i64 0) (.il .i64 0) f (W.mk os og ot on om).enc n.enc) ?_ (OS hk) (fun _=>rfl) rfl;obtain⟨b,sl,fr,st,md,_ | ⟨fk,fi⟩⟩:=m<;>rcases hk with rfl | rfl | rfl<;>kernel_rfl
   ·subst hs;refine K (cs:=QB (.il .i64 k) (.il .i64 0) (.iv .i64 g [0] (EO (by simpa using hg))) f (W.mk os og ot on om).enc n.enc) ?_ (q9 (by unfold ah.bM ah.yz;simp [hk,hg])) (fun _=>rfl) rfl;obtain⟨b,sl,fr,st,md,_ | ⟨fk,fi⟩⟩:=m<;>rcases hk with rfl | rfl | rfl<;>kernel_rfl
  ·refine K (cs:=QB (.il .i64 k) (.iv .i64 s [0] (EO (by simpa using hs))) (.it .i64 g) f (W.mk os og ot on om).enc n.enc) ?_ (Te hk hs pf.ls) (fun _=>rfl) rfl;obtain⟨b,sl,fr,st,md,_ | ⟨fk,fi⟩⟩:=m<;>rcases hk with rfl | rfl | rfl<;>kernel_rfl
 by_cases k4:k=4
 ·subst k4;refine K (cs:=QB (.il .i64 4) (.it .i64 s) (.it .i64 g) f (W.mk os og ot on om).enc n.enc) ?_ (V7 pf) (fun _=>rfl) rfl;obtain⟨b,sl,fr,st,md,_ | ⟨fk,fi⟩⟩:=m<;>kernel_rfl
 by_cases k5:k=5
 ·subst k5;by_cases ho:os=0
  ·subst ho;refine K (cs:=QB (.il .i64 5) (.it .i64 s) (.it .i64 g) f [.il .i64 0,.it .i64 og,.it .i64 ot,.it .i64 on,.bt om] n.enc) ?_ (q9 (by unfold ah.bM ah.has;simp)) (fun _=>rfl) rfl;obtain⟨b,sl,fr,st,md,_ | ⟨fk,fi⟩⟩:=m<;>kernel_rfl
  ·refine K (cs:=QB (.il .i64 5) (.it .i64 s) (.it .i64 g) f [.iv .i64 os [0] (EO (by simpa using ho)),.it .i64 og,.it .i64 ot,.it .i64 on,.bt om] n.enc) ?_ (Tf (o:=⟨os,og,ot,on,om⟩) pf) (fun _=>rfl) rfl;obtain⟨b,sl,fr,st,md,_ | ⟨fk,fi⟩⟩:=m<;>kernel_rfl
 refine K (cs:=QB (.iv .i64 k [1,2,3,4,5] (EO (by simp;omega))) (.it .i64 s) (.it .i64 g) f (W.mk os og ot on om).enc n.enc) ?_ (q9 (by unfold ah.bM;simp [hk,k4,k5])) (fun _=>rfl) rfl;obtain⟨b,sl,fr,st,md,_ | ⟨fk,fi⟩⟩:=m<;>kernel_rfl
end
section
open Go Go.Sx Go.Proofs
variable {σ:Sg}
def aaw:List Cell->Option pB
 | [c0,c1,c2,c3,c4,c5,c6,c7,c8,c9,c10,c11,c12,c13]=>match kL c0,kL c1,kL c2,kL c3,W.jm [c4,c5,c6,c7,c8],W.jm [c9,c10,c11,c12,c13] with
   | some k,some s,some g,some f,some o,some n=>some ⟨k,s,g,f,o,n⟩
   | _,_,_,_,_,_=>none
 | _=>none
theorem U3 {cs:List Cell} {a:pB} (h:aaw cs=some a) (ρ:Nm):aF ρ (Ao a)=aF ρ cs:=by
 unfold aaw at h;split at h
 ·split at h
  ·rename_i k s g f o n h0 h1 h2 h3 h4 h5;cases h;have e4:=(W.ig _ _ h4);have e5:=(W.ig _ _ h5);have d4:aF ρ o.enc=aF ρ _:=(ke fun c hc=>(by simp [W.enc] at hc;rcases hc with rfl | rfl | rfl | rfl | rfl<;>rfl)).trans (e4.1.trans (ke e4.2).symm);have d5:aF ρ n.enc=aF ρ _:=(ke fun c hc=>(by simp [W.enc] at hc;rcases hc with rfl | rfl | rfl | rfl | rfl<;>rfl)).trans (e5.1.trans (ke e5.2).symm);unfold Ao;simp only [aF,adA,aaU,afm] at d4 d5 ⊢;rw [d4,d5,b6 h0 ρ,b6 h1 ρ,b6 h2 ρ,b6 h3 ρ];rfl
  ·cases h
 ·cases h
instance (m:ah):Decidable m.Ok:=decidable_of_iff (m.dX.length<=5000 /\ m.aW.length<=5000 /\ m.free.length<=5000 /\ ∀x∈m.free,m.has x.val) ⟨fun⟨a,b,c,d⟩=>⟨a,b,c,d⟩,fun⟨a,b,c,d⟩=>⟨a,b,c,d⟩⟩
def doS (σ:Sg) (args:List SV) (l:List AV):T (SV×List AV×List AV):=match args,l with
 | [.v (.c (.ptr 7 0)),.v (.agg cs)],[.gi m]=>match aaw cs with
   | some a=>.aE (decide m.Ok) (.ite (decide (m.bM a)) (.aD (.iW [rpC (m.aV a).1,.c .fL],[.gi (m.aV a).2],[])) (.aD (.iW [rpZ,P9 σ],[.gi m],[])))
   | none=>.fail "Do"
 | _,_=>.fail "Do"
theorem ZJ:cE Tryz.prog (NV σ) 22 (bJ cL mDo (doS σ)):=by
 refine hZ dL (ju _) fun args l v l' nw h hl bZ=>?_;unfold doS at h;split at h
 ·rename_i cs m;split at h
  ·rename_i a ha
   replace h:=aC h
   obtain⟨pf,h⟩:=h;have pf:=aaF pf;obtain⟨cs',hr,hd,hn⟩:=ajL (σ:=σ) m a pf;have h2:nC σ m a=(v,l',nw):=by
    unfold nC;by_cases hv:m.bM a
    ·rw [if_pos hv];rw [aaC hv] at h;exact afT h
    ·rw [if_neg hv];rw [aaK hv] at h;exact afT h
   rw [h2] at hr;have hc:=JS abo (σ:=σ) (M:=mDo) (ju _) (a:=.gi m) (l:=[]) (K:=tH σ m) rfl ⟨_,rfl⟩ rfl (fun x hx=>by
    simp only [aaO,aaR,or_false] at hx;rcases hx with rfl | rfl
    ·exact bZ _ (by simp)
    ·intro c hc n hcn;rw [vo hn c hc] at hcn;cases hcn) hr
   exact jh hc.1 fun ρ=>by simp only [aaU,afm,SV.ay,V1.ay];rw [hd ρ,U3 ha ρ]
  ·cases h
 ·cases h
end
section
open Go Go.Sx Go.Proofs
variable {σ:Sg} {lp:Lp}
structure xX where
 rJ:ax->Bool
 tk:ax->cJ->ax
 oh:aA->Bool
 ad:aA->aA
 ap:aA->dz
 ac:aA->dj
 al:aA->cU
 av:aA->ca
 ast:aA->cD
def YF (F:xX) (k:Nat) (v:aA):Option dV:=match k with | 0=>none | 1=>some (.eu (F.ap v)) | 2=>some (.dO (F.ac v)) | 3=>some (.lit (F.al v)) | 4=>some (.pQ (F.av v)) | _=>some (.pn (F.ast v))
def VV (σ:Sg) (F:xX) (k:Nat):m7:=br 55 (bJ cL bS (fS Lf C5 iA (fun _ _=>none) (fun m _=>(gT m,m)))) (br 30 (bJ cL bS (fS Lf agT iA (fun _ _=>none) (fun m _=>(gw m,m))))
 (br 31 (bJ cL bS (fS nD CI iA (fun m _=>some (F.rJ m)) (fun m x=>((),F.tk m x)))) (br 22 (bJ cL mDo (doS σ))
 (br 29 (SZ σ (bJ cL bS (Ih 2 Lf EF (fun v _=>some (F.oh v)) fun v _=>(.iW [],{F.ad v with cF:=YF F k v},[])))) b9))))
def Yd:List Bool:=mkM 11
def adN:SV×List AV×List AV->Option (SV×aA×ah)
 | (v,[.rE a,.gi p],[])=>some (v,a,p)
 | _=>none
def HC (σ:Sg) (F:xX) (k:Nat) (v:aA) (p:ah):T (Option (SV×aA×ah)):=(Ca jE σ (VV σ F k) 11 Yd [.v (.c (.ptr 7 0)),.v (.c (.ptr 8 0))] [iG v,.gi p] (gk AV.len qJ (aA.wr v))).map adN
end
section
open Go Go.Sx Go.Proofs
variable {σ:Sg} {lp:Lp}
structure uf where
 over:Bool
 mZ:Int
 val:Int
 real:Int
def Wm (s:uf):V1:=.agg [.bt s.over,.it .i64 s.mZ,.it .i64 s.val,.it .i64 s.real]
def zZ (σ:Sg) (i:Nat):V1:=.c (.xP 229 (.op i (σ i)))
def KY:Nat:=1
def QF:Nat:=0
def Q1:V1:=.agg [.bt false,.it .i64 0,.it .i64 0,.it .i64 0]
section
variable {β:Type} (I:Bool->β->β->β) (N:Bool->β->β)
def mJ (L:uf->aA->β) (oh:aA->Bool) (ad:aA->aA) (v1:aA) (r:Int):β :=
 N true (N (oh v1) (I ((ad v1).aO==0) (N true (L ⟨true,(ad v1).answer.mZ,(ad v1).answer.val,r⟩ (ad v1))) (N true (L ⟨false,0,0,r⟩ (ad v1)))))
def lW (L:uf->aA->β) (oh:aA->Bool) (ad:aA->aA) (v v1:aA) (a:pB):β :=
 let fin:=mJ I N L oh ad v1
 I (v.call.aj==6) (I (gT v1.aP) (fin (-1)) (I (ll (v.au==3) (v.au==5)) (fin 1) (fin 0)))
 (I (v.call.aj==8) (I (a.aj != 4) (fin (-1)) (fin 0))
 (I (v.call.aj==3) (I (v.call.aj==3) (fin 0) (fin (-1)))
 (I (v.call.aj==4) (I (v.call.aj==4) (fin 0) (fin (-1)))
 (I (v.call.aj==5) (I (v.call.aj==5) (fin 0) (fin (-1)))
 (I (v.call.aj==9) (fin 0) (fin (-1)))))))
end
def G0 {β:Type} (I:Bool->β->β->β) (N:Bool->β->β) (E:Nat->β) (L:uf->aA->ah->β) (rJ:ax->Bool) (tk:ax->cJ->ax) (oh:aA->Bool) (ad:aA->aA) (v:aA) (p:ah):β :=
 let a:=(gw v.aP).1
 I (!(v.aO != 0)) (N true (E KY))
   (N (decide p.Ok) (I (decide (p.bM a)) (N (rJ v.aP) (lW I N (fun s v'=>L s v' (p.aV a).2) oh ad v {v with aP:=tk v.aP (p.aV a).1} a)) (N true (E QF))))
def stL (s:uf) (v:aA) (p:ah):T (Option (SV×aA×ah)):=.aD (some (.iW [Wm s,.c .fL],v,p))
def stE (σ:Sg) (v:aA) (p:ah) (i:Nat):T (Option (SV×aA×ah)):=.aD (some (.iW [Q1,zZ σ i],v,p))
def uG (F:xX) (k:Nat) (v:aA):aA:={F.ad v with cF:=YF F k v}
theorem ame (σ:Sg) (F:xX) (v:aA) (p:ah):HC σ F 0 {v with cF:=none} p=G0 tI tN (stE σ {v with cF:=none} p) stL F.rJ F.tk F.oh (uG F 0) {v with cF:=none} p:=by kernel_rfl
theorem amd (σ:Sg) (F:xX) (v:aA) (j:dz) (p:ah):HC σ F 1 {v with cF:=some (.eu j)} p=G0 tI tN (stE σ {v with cF:=some (.eu j)} p) stL F.rJ F.tk F.oh (uG F 1) {v with cF:=some (.eu j)} p:=by kernel_rfl
theorem amc (σ:Sg) (F:xX) (v:aA) (j:dj) (p:ah):HC σ F 2 {v with cF:=some (.dO j)} p=G0 tI tN (stE σ {v with cF:=some (.dO j)} p) stL F.rJ F.tk F.oh (uG F 2) {v with cF:=some (.dO j)} p:=by kernel_rfl
theorem amb (σ:Sg) (F:xX) (v:aA) (j:cU) (p:ah):HC σ F 3 {v with cF:=some (.lit j)} p=G0 tI tN (stE σ {v with cF:=some (.lit j)} p) stL F.rJ F.tk F.oh (uG F 3) {v with cF:=some (.lit j)} p:=by kernel_rfl
theorem ama (σ:Sg) (F:xX) (v:aA) (j:ca) (p:ah):HC σ F 4 {v with cF:=some (.pQ j)} p=G0 tI tN (stE σ {v with cF:=some (.pQ j)} p) stL F.rJ F.tk F.oh (uG F 4) {v with cF:=some (.pQ j)} p:=by kernel_rfl
theorem al9 (σ:Sg) (F:xX) (v:aA) (j:cD) (p:ah):HC σ F 5 {v with cF:=some (.pn j)} p=G0 tI tN (stE σ {v with cF:=some (.pn j)} p) stL F.rJ F.tk F.oh (uG F 5) {v with cF:=some (.pn j)} p:=by kernel_rfl
def pF (k:Nat):xX where
 rJ:=J5
 tk:=bX
 oh v:=match tz v with | true=>Nat.beq (dq v) k | false=>false
 ad:=jI
 ap v:=match (jI v).cF with | some (.eu j)=>j | _=>EY ⟨0,0,0,0⟩
 ac v:=match (jI v).cF with | some (.dO j)=>j | _=>EZ ⟨0,0,0,0⟩
 al v:=match (jI v).cF with | some (.lit j)=>j | _=>Ie ⟨0,0,0,0⟩
 av v:=match (jI v).cF with | some (.pQ j)=>j | _=>Ic ⟨0,0,0,0⟩
 ast v:=match (jI v).cF with | some (.pn j)=>j | _=>MF ⟨0,0,0,0⟩
theorem JO {k:Nat} {v:aA} (h:(pF k).oh v=true):tz v=true /\ dq v=k:=by
 have h:(match tz v with | true=>Nat.beq (dq v) k | false=>false)=true:=h;split at h
 ·rename_i h1;exact⟨h1,(aG _ _).1 h⟩
 ·cases h
theorem adK_eq {k:Nat} {v:aA} (h:(pF k).oh v=true):uG (pF k) k v=jI v:=by
 obtain⟨h1,h2⟩:=JO h;have hk:=(Bq Cq v (kJ h1)).trans h2;unfold uG YF pF;dsimp only;generalize jI v=w at hk ⊢;obtain⟨so,en,ri,dg,cl,op,cF,an⟩:=w;cases cF with
 | none=>cases hk;rfl
 | some j=>cases j<;>(cases hk;rfl)
theorem VU (k:Nat):dH Tryz.prog (NV σ) (VV σ (pF k) k):=by refine aH wM (aH TC (aH abj (aH ZJ (aH (JB (MG rfl fun v x h=>?_)) bp))));have h:(pF k).oh v=true:=h;have e:{(pF k).ad v with cF:=YF (pF k) k v}=jI v:=adK_eq h;show rT _ _ _ _ _ (.iW []) (iQ bS [iG {(pF k).ad v with cF:=YF (pF k) k v}]);rw [e];exact SO σ v (JO h).1
def eO (v:aA) (p:ah):aA:={v with aP:=bX v.aP (p.aV (gw v.aP).1).1}
def bo (v:aA) (p:ah):uf×aA×ah :=
 lW cond (fun _ t=>t) (fun s v'=>(s,v',(p.aV (gw v.aP).1).2)) (fun _=>true) jI v (eO v p) (gw v.aP).1
def XM (v:aA) (p:ah):Prop:=J5 v.aP=true /\ tz (eO v p)=true
def LO (σ:Sg) (args:List SV) (l:List AV):T (SV×List AV×List AV):=match args,l with
 | [.v (.c (.ptr 7 0)),.v (.c (.ptr 8 0))],[.rE v,.gi p] =>
   .ite (!(v.aO != 0)) (.aD (.iW [Q1,zZ σ KY],[.rE v,.gi p],[]))
    (.aE (decide p.Ok) (.ite (decide (p.bM (gw v.aP).1)) (.aE (iI (XM v p)) (.aD (.iW [Wm (bo v p).1,.c .fL],[.rE (bo v p).2.1,.gi (bo v p).2.2],[]))) (.aD (.iW [Q1,zZ σ QF],[.rE v,.gi p],[]))))
 | _,_=>.fail "Step"
theorem LM {β:Type} {f:uf×aA×ah->β} {L:uf->aA->T β} {p2:ah} {oh:aA->Bool} {ad:aA->aA} {v v1:aA} {a:pB} (ho:oh v1=true) (he:ad v1=jI v1) (hL:∀s v',L s v'=.aD (f (s,v',p2))) :
 (lW tI tN L oh ad v v1 a).val=some (f (lW cond (fun _ t=>t) (fun s v'=>(s,v',p2)) (fun _=>true) jI v v1 a)):=by
 have fin:∀r,(mJ tI tN L oh ad v1 r).val=some (f (mJ cond (fun _ t=>t) (fun s v'=>(s,v',p2)) (fun _=>true) jI v1 r)):=fun r=>by unfold mJ;rw [he,ho,hL,hL];show (tI _ _ _).val=_;cases (jI v1).aO==0<;>rfl
 unfold lW;dsimp only;have spl:∀{b:Bool} {t e:T β} {x y:uf×aA×ah},t.val=some (f x)->e.val=some (f y)->(tI b t e).val=some (f (cond b x y)):=fun {b t e x y} h1 h2=>by cases b<;>assumption
 repeat' first | exact fin _ | apply spl
theorem Ws (σ:Sg) (v:aA) (p:ah) (r:Option (SV×aA×ah)) (h:(G0 tI tN (stE σ v p) stL J5 bX (pF (dq v)).oh (uG (pF (dq v)) (dq v)) v p).val=some r) :
 (Ca jE σ (VV σ (pF (dq v)) (dq v)) 11 Yd [.v (.c (.ptr 7 0)),.v (.c (.ptr 8 0))] [iG v,.gi p] (gk AV.len qJ (aA.wr v)) |>.map adN).val=some r:=by
 obtain⟨so,en,ri,dg,cl,op,cF,an⟩:=v;cases cF with
 | none=>exact(congrArg T.val (ame σ (pF 0) ⟨so,en,ri,dg,cl,op,none,an⟩ p)).trans h
 | some j =>
   cases j with
   | eu j=>exact(congrArg T.val (amd σ (pF 1) ⟨so,en,ri,dg,cl,op,none,an⟩ j p)).trans h
   | dO j=>exact(congrArg T.val (amc σ (pF 2) ⟨so,en,ri,dg,cl,op,none,an⟩ j p)).trans h
   | lit j=>exact(congrArg T.val (amb σ (pF 3) ⟨so,en,ri,dg,cl,op,none,an⟩ j p)).trans h
   | pQ j=>exact(congrArg T.val (ama σ (pF 4) ⟨so,en,ri,dg,cl,op,none,an⟩ j p)).trans h
   | pn j=>exact(congrArg T.val (al9 σ (pF 5) ⟨so,en,ri,dg,cl,op,none,an⟩ j p)).trans h
theorem UK {r:SV×List AV×List AV} {v:SV} {a:aA} {p:ah} (h:adN r=some (v,a,p)):r=(v,[.rE a,.gi p],[]):=by
 unfold adN at h;split at h
 ·cases h;rfl
 ·cases h
theorem agX {M:List Bool} (hM:7=M.length) {a b:AV} {l:List AV}:∀x∈[SV.v (.c (.ptr 7 0)),.v (.c (.ptr 8 0))],gf (iQ M (a::b::l)) x:=fun x hx=>by
 simp only [aaO,aaR,or_false] at hx;rcases hx with rfl | rfl
 ·exact J0 hM
 ·intro c hc n hn;have hc:c∈[Cell.ptr 8 0]:=hc;rw [aet.1 hc] at hn;cases hn;refine⟨.bN b,?_⟩;unfold iQ;rw [bA,ij,if_neg (by omega),<- hM];rfl
theorem Wu (σ:Sg) (v:aA) (p:ah) {x:SV} {v':aA} {p':ah} (h:(G0 tI tN (stE σ v p) stL J5 bX (pF (dq v)).oh (uG (pF (dq v)) (dq v)) v p).val=some (some (x,v',p'))) :
 rT Tryz.prog (NV σ) 11 [.v (.c (.ptr 7 0)),.v (.c (.ptr 8 0))] (iQ Yd [iG v,.gi p]) x (iQ Yd [iG v',.gi p']):=by
 obtain⟨y,h1,h2⟩:=dw (Ws σ v p _ h);rw [UK h2] at h1;exact tZ (uS nO (CJ (VU _)) (ju _) (a:=iG v) (K:=gk AV.len qJ (aA.wr v)) ⟨_,rfl⟩ (fun L S w hq=>(uZ (N:=iu jE σ) rfl (by exact rfl) rfl L S w).1 hq) (agX (ju _)) h1).1
theorem Q2:cE Tryz.prog (NV σ) 11 (bJ cL Yd (LO σ)):=by
 refine hZ dL (ju _) fun args l x l' nw h hl bZ=>?_;unfold LO at h;split at h
 ·rename_i v p;have fin:∀{x0:SV} {v0:aA} {p0:ah},(G0 tI tN (stE σ v p) stL J5 bX (pF (dq v)).oh (uG (pF (dq v)) (dq v)) v p).val=some (some (x0,v0,p0))->some (x0,[AV.rE v0,.gi p0],([]:List AV))=some (x,l',nw)->rT Tryz.prog (NV σ) 11 [.v (.c (.ptr 7 0)),.v (.c (.ptr 8 0))] (iQ Yd [iG v,.gi p]) x (iQ Yd (l'++nw)):=fun {x0 v0 p0} h1 h2=>by cases h2;exact Wu σ v p h1
  unfold G0 at fin;dsimp only at fin;cases hb:(!(v.aO != 0)) with
  | true =>rw [hb] at h fin;exact fin rfl h
  | false =>
    rw [hb] at h fin;obtain⟨h1,h⟩:=aC (h:(T.aE _ _).val=_);cases hv:decide (p.bM (gw v.aP).1) with
    | false =>rw [hv] at h fin;exact fin (nv h1) h
    | true =>
      rw [hv] at h fin;obtain⟨h2,h⟩:=aC (h:(T.aE _ _).val=_);obtain⟨h3,h4⟩:=fv h2;have ho:(pF (dq v)).oh (eO v p)=true:=by show (match tz (eO v p) with | true=>Nat.beq (dq (eO v p)) (dq v) | false=>false)=true;rw [h4];exact(aG _ _).2 rfl
      refine fin ((nv h1).trans ((nv h3).trans (LM (f:=fun r=>some (SV.iW [Wm r.1,.c .fL],r.2.1,r.2.2)) ho (adK_eq ho) fun _ _=>rfl))) h
 ·cases h
