import Derived.Test.YtadmfaohjnjajaaGreatDoorBf
set_option linter.unusedVariables false
set_option linter.unusedSimpArgs false
set_option maxHeartbeats 0
set_option maxRecDepth 100000
namespace Go.Proofs.YtadmfaohjnjajaaGreatDoor
section
open Go Go.Sx Go.Proofs AH
theorem IK {w:W} {y:Kn} (e1:w.ae=y.s) (e2:w.gen=y.g):az w 2=y.dh:=by unfold az Kn.dh;rw [e1,e2]
theorem HO {h:AH} {L0 L:List Kn} {j:ca} {b:Int} (hi:lB h L) (hs:l5 L0 L) (hb:CZ L j.base b) (hk:dW b < jc j.op.key) (ho:j.op.aj=6 \/ j.op.aj=7 \/ j.op.aj=8) {M:Nat} (hM:∀{h:AH} {L:List Kn},lB h L->l5 L0 L->L.length<=M):cB bn (GH L0 j.op) (10 * M+130) h (XA j):=by obtain⟨y,hy,q1,q2,q3⟩:=hb;obtain⟨A,B,rfl⟩:=List.append_of_mem hy;have hlen:=hM hi hs;rw [aaP,aaQ] at hlen;obtain⟨pc,la,o,sz,wt,bu,ch,ba,nd,se,wk,kW,an,cn⟩:=j;dsimp only at q1 q2 hk ho;have hl:=MR (Lm hi) (key:=jc o.key) ho ⟨aq,false⟩;show cB bn (GH L0 o) (10 * M+130) h (FH (ct (jO (az ba 2,jc o.key,o)) ⟨aq,false⟩).1 ⟨11,la,o,sz,wt,bu,ch,ba,nd,se,wk,some (ct (jO (az ba 2,jc o.key,o)) ⟨aq,false⟩).2,an,cn⟩);rw [IK q1 q2];generalize ct (jO (y.dh,jc o.key,o)) ⟨aq,false⟩=r at hl ⊢;have hin:=YQ (Q:=GH L0 o) (K:=6) (la:=la) (o:=o) (sz:=sz) (wt:=wt) (bu:=bu) (ch:=ch) (ba:=ba) (nd:=nd) (se:=se) (wk:=wk) (an:=an) (cn:=cn) (fun b a h' l hq=>?_) hl;exact bW (fun _ _ h=>h) (by omega) hin;obtain⟨B',ls,hB,hf⟩:=hq;obtain⟨L',ls',hi'⟩:=SY hi (by rw [q3];exact hk) HS.2 HS.1 (fun e=>by rw [Dl] at e;cases e) (fun _ c _ _ e=>by have h1:=Jl (c:=c);rw [e,Dl] at h1;cases h1) ls hB hf;exact Tc (j:=⟨11,la,o,sz,wt,bu,ch,ba,nd,se,wk,some l,an,cn⟩) hs hi.sr ls' hi'
theorem afs {h:AH} {L0 L:List Kn} {K:Nat} {la:Cl} {o:O} {sz wt bu ch:Int} {ba nd se:W} {wk:Option bs} {kW:Option cU} {an:An} {cn:W} (hi:lB h L) (hs:l5 L0 L) (hb:CZ L se ch) (c0:0 < ch) (c1:ch < 8)
 (hd:∀h pc,lB h L->cB bn (GH L0 o) K h (FW ⟨pc,la,o,sz,wt,ch,ch,se,nd,se,wk,kW,an,cn⟩)):cB bn (GH L0 o) (K+2) h (bC (bc (eZ 8 ch)),⟨9,la,o,sz,wt,bu,ch,ba,nd,se,wk,kW,an,cn⟩):=by
 have e8:eZ 8 ch=8+ch:=by unfold eZ;rw [mD (by omega)]
 rw [e8];refine bF (dv (b4 (by omega) (by omega)) ?_);show cB bn _ (K+1) h (bn ⟨9,la,o,sz,wt,bu,ch,ba,nd,se,wk,kW,an,cn⟩ _);rw [alb,e8];cases (h.rd (bc (8+ch))).ae==0 with
 | false=>exact bW (fun _ _ h=>h) (by omega) (hd _ _ hi)
 | true =>refine bF (hP (b4 (by omega) (by omega)) rfl ?_);show cB bn _ K _ (bn ⟨10,la,o,sz,wt,bu,ch,ba,nd,se,wk,kW,an,cn⟩ _);rw [agO];refine hd _ _ (Vy hi c0 c1 ?_);obtain⟨y,hy,q1,q2,q3⟩:=hb;exact⟨y,hy,q1,q2,q3⟩
theorem WY {L0 L:List Kn} {n:Kn} (hs:l5 L0 L) (hn:n.k % 2=0):l5 L0 (mT n L):=fun x hx=>by rw [fK,hs x hx];exact⟨fun h=>by rcases h with rfl | h<;>first | omega | exact h,.inr⟩
theorem UG:∀w b:Fin 8,jW (w.val:Int) (b.val:Int)=true->pK (b.val:Int)<=pK (w.val:Int):=by decide
theorem ZL {w b:Int} (h:jW w b=true):pK b<=pK w:=by
 obtain⟨h1,h2,h3,h4⟩:=mF h;have:=UG ⟨w.toNat,by omega⟩ ⟨b.toNat,by omega⟩;have e1:((w.toNat:Nat):Int)=w:=by omega
 have e2:((b.toNat:Nat):Int)=b:=by omega
 dsimp only at this;rw [e1,e2] at this;exact this h
theorem BH {L0:List Kn} {o:O} {M:Nat} (hM:∀{h:AH} {L:List Kn},lB h L->l5 L0 L->L.length<=M) (ho:o.aj=6 \/ o.aj=7 \/ o.aj=8) {wt:Int} (hk:∀b,jW wt b=true->dW b < jc o.key):∀(d:Nat) {h:AH} {L:List Kn} {pc:Int} {la:Cl} {sz bu ch:Int} {ba nd se:W} {wk:Option bs} {kW:Option cU} {an:An} {cn:W},lB h L->l5 L0 L->CZ L ba bu->jW wt bu=true->pK wt=pK bu+d ->
 cB bn (GH L0 o) (10 * M+130+(10 * M+40) * d) h (FW ⟨pc,la,o,sz,wt,bu,ch,ba,nd,se,wk,kW,an,cn⟩)
 | d,h,L,pc,la,sz,bu,ch,ba,nd,se,wk,kW,an,cn,hi,hs,hb,hw,hd=>by
   unfold FW;dsimp only;by_cases e:bu=wt
   ·rw [if_pos e];exact bW (fun _ _ h=>h) (Nat.le_add_right _ _) (HO (j:=⟨pc,la,o,sz,wt,bu,ch,ba,nd,se,wk,kW,an,cn⟩) hi hs hb (hk _ hw) ho hM)
   ·rw [if_neg e];rcases TO hw with e' | ⟨p1,p2,p3⟩
    ·exact absurd e' e
    generalize hc:kE 4 wt bu=c at *;have c0:0 < c:=by
     have:=(mF p1).2.2.1;by_cases ez:c=0
     ·subst ez;rw [show pK 0=0 from rfl] at p3;omega
     ·omega
    have c8:c < 8:=(mF p1).2.2.2;cases d with
    | zero =>have:=ZL p1;omega
    | succ d =>
    have OB:=hb;obtain⟨y,hy,q1,q2,q3⟩:=hb;have y1:=ga hi.li y hy;rw [show 10 * M+130+(10 * M+40) * (d+1)=(10 * M+130+(10 * M+40) * d+(10 * M+37))+1+2 by rw [Nat.mul_succ];omega];refine z7 (rV ?_ fun n h1 hf=>?_)
    ·show cB bn _ _ h (bn ⟨3,la,o,sz,wt,bu,c,ba,nd,se,wk,kW,an,cn⟩ ⟨aq,false⟩);rw [aeN];exact bW (fun _ _ h=>h) (by omega:10 * M+130<=_) (HO (j:=⟨3,la,o,sz,wt,bu,c,ba,nd,se,wk,kW,an,cn⟩) hi hs OB (hk _ hw) ho hM)
    have Av:(h.new n.ae n.gen).lv n.ae n.gen:=by show if n.ae=n.ae then n.gen=n.gen else _;rw [if_pos rfl]
    have Ha:∀x∈L,x.s≠n.ae:=fun x hx e=>hf x.g (e▸(ga hi.li x hx).2);show cB bn _ _ _ (bn ⟨3,la,o,sz,wt,bu,c,ba,nd,se,wk,kW,an,cn⟩ ⟨n,true⟩);rw [aeN];show cB bn _ _ _ (cW (az n 0) (dZ (dW c)),⟨4,la,o,sz,wt,bu,c,ba,n,se,wk,kW,an,cn⟩);refine bF (iw (bm h1 Av (by decide) (by decide)) ?_);generalize e1:(h.new n.ae n.gen).wr (az n 0) (dZ (dW c))=h2;have b2:h2.bd=h.bd:=by subst e1;rw [uz h1];rfl
    have c2:∀y k,y≠n.ae->h2.cl y k=h.cl y k:=fun y k hy=>by subst e1;rw [gz h1,if_neg fun e=>hy e.1,AH.m6,if_neg hy]
    have l2:∀y g,y≠n.ae->(h2.lv y g↔h.lv y g):=fun y g hy=>by subst e1;rw [dm,Bk,if_neg hy]
    have Vd:h2.lv n.ae n.gen:=by subst e1;rw [dm];exact Av
    have n0:(h2.cl n.ae 0).bU=dW c:=by subst e1;rw [gz h1,if_pos ⟨rfl,rfl⟩];rfl
    have nv:(h2.cl n.ae 1).bU=0:=by subst e1;rw [gz h1,if_neg (by rintro ⟨_,e⟩;cases e),AH.m6,if_pos rfl];rfl
    clear e1;have hi2:lB h2 L:=JA hi (fun x hx hl=>⟨(l2 _ _ (Ha x hx)).2 hl,c2 _ _ (Ha x hx),c2 _ _ (Ha x hx),c2 _ _ (Ha x hx)⟩) fun c _ _=>by rw [b2]
    obtain⟨A,B,rfl⟩:=List.append_of_mem hy;have zQ:=Lm hi2;have hlen:=hM hi hs;rw [aaP,aaQ] at hlen;have hsB:∀x∈B,x.s≠n.ae:=fun x hx=>Ha x (by simp [hx]);have Km:y.s≠n.ae:=Ha y hy;show cB bn _ _ h2 (bn ⟨4,la,o,sz,wt,bu,c,ba,n,se,wk,kW,an,cn⟩ ⟨aq,true⟩);rw [alg,IK q1 q2];refine bW (fun _ _ h=>h) (by omega:(10 * B.length+6)+(10 * M+130+(10 * M+40) * d+10)<=_) (C3 (J:=fun w=>⟨5,la,o,sz,wt,bu,c,ba,n,se,some w,kW,an,cn⟩) (co:=OG ⟨5,la,o,sz,wt,bu,c,ba,n,se,none,kW,an,cn⟩) alf (fun w hwp=>?_) (yU zQ.va zQ.li));have qH:=oA zQ.li hwp;unfold OG;cases bG:At (dW c) B with
    | some x0 =>rw [bG] at qH;obtain⟨fd,f1,f2,_⟩:=qH;rw [fd];have hx0:=yN bG;have hbs:CZ (A++y::B) (dB w.cur) c:=⟨x0,by simp [hx0.1],f1,f2,hx0.2⟩;refine bF (Jw h1 Vd ?_);have hi3:lB (h2.KK n.ae) (A++y::B):=JA hi2 (fun x hx hl=>⟨⟨Ha x hx,hl⟩,rfl,rfl,rfl⟩) fun _ _ _=>rfl;show cB bn _ _ _ (bn ⟨6,la,o,sz,wt,bu,c,ba,n,dB w.cur,some w,kW,an,cn⟩ ⟨aq,true⟩);rw [ale];exact bW (fun _ _ h=>h) (by omega:10 * M+130+(10 * M+40) * d+2<=_) (afs hi3 hs hbs c0 c8 fun h pc hi=>BH hM ho hk d hi hs hbs p1 (by omega))
    | none =>
      rw [bG] at qH;have qH:w.found=false:=qH;rw [qH];refine bF (iw (bm h1 Vd (by decide) (by decide)) ?_);obtain⟨⟨v1,v2⟩,k1,k2,k3,k4⟩:=acz zQ h1 Vd n0 nv Km hsB hwp;show cB bn _ _ _ (bn ⟨7,la,o,sz,wt,bu,c,ba,n,se,some w,kW,an,cn⟩ ⟨aq,true⟩);rw [ald];refine bF (hP v1 v2 ?_);show cB bn _ _ _ (bn ⟨8,la,o,sz,wt,bu,c,ba,n,se,some w,kW,an,cn⟩ ⟨w.cur,true⟩);rw [alc];generalize (h2.wr (az n 2) (dB w.cur)).wr w.prev (iV w.cur n)=h3 at k1 k2 k3 k4 ⊢;obtain⟨e1,e2,e3⟩:=Gp (key:=dW c) (y:=y) (by rw [q3];exact p2) hi.sr;have ey:=e3 ⟨n.ae,n.gen,dW c,0⟩ rfl;have hi3:lB h3 (A++y::mT ⟨n.ae,n.gen,dW c,0⟩ B):=by
       refine nF hi k1 ⟨fun s g hl _=>?_,fun s g f s1 hl K8 dE=>?_,fun f dE=>by rw [k4 f dE,b2]⟩ (fun z hz=>?_) ?_ (fun x hx=>?_) fun x hx _=>fK.2 (.inr hx)
       ·rw [k2];exact(l2 _ _ fun e=>hf g (e▸hl)).2 hl
       ·have Ha:s≠n.ae:=fun e=>hf g (e▸hl);rw [k3 s f s1 Ha K8 dE,c2 _ _ Ha]
       ·rcases fK.1 hz with rfl | hz
        ·exact .inr hf
        ·exact .inl hz
       ·rw [<- ey];exact C9 hi.sr (by show At (dW c) _=none;rw [e1];exact bG)
       ·rcases fK.1 hx with rfl | hx
        ·exact⟨Gd.1,Gd.2,fun _=>aeb⟩
        ·exact hi.rg x (by simp [hx])
      rw [<- ey] at hi3;have hbs:CZ (mT ⟨n.ae,n.gen,dW c,0⟩ (A++y::B)) n c:=⟨_,fK.2 (.inl rfl),rfl,rfl,rfl⟩;have hs3:=WY (n:=⟨n.ae,n.gen,dW c,0⟩) hs Jl;exact bW (fun _ _ h=>h) (by omega:10 * M+130+(10 * M+40) * d+2<=_) (afs hi3 hs3 hbs c0 c8 fun h pc hi=>BH hM ho hk d hi hs3 hbs p1 (by omega))
theorem agh (w:Int):pK w<=3:=by
 unfold pK
 repeat' split
 all_goals decide
theorem ab5:∀w b:Fin 8,jW (w.val:Int) (b.val:Int)=true->(b.val:Int)≠0->jW (w.val:Int) (rI (b.val:Int))=true /\ pK (rI (b.val:Int))+1=pK (b.val:Int):=by decide
theorem TP {w b:Int} (h:jW w b=true) (hb:b≠0):jW w (rI b)=true /\ pK (rI b)+1=pK b:=by
 obtain⟨h1,h2,h3,h4⟩:=mF h;have:=ab5 ⟨w.toNat,by omega⟩ ⟨b.toNat,by omega⟩;have e1:((w.toNat:Nat):Int)=w:=by omega
 have e2:((b.toNat:Nat):Int)=b:=by omega
 dsimp only at this;rw [e1,e2] at this;exact this h hb
theorem WX:∀w:Fin 8,jW (w.val:Int) (w.val:Int)=true:=by decide
theorem abE {w:Int} (h0:0<=w) (h8:w < 8):jW w w=true:=by
 have:=WX ⟨w.toNat,by omega⟩;have e1:((w.toNat:Nat):Int)=w:=by omega
 dsimp only at this;rwa [e1] at this
theorem HB {h:AH} {L:List Kn} {o:O} {M:Nat} (hM:∀{h:AH} {L':List Kn},lB h L'->l5 L L'->L'.length<=M) (hi:lB h L) (ho:o.aj=6 \/ o.aj=7 \/ o.aj=8) {wt:Int} (hk:∀b,jW wt b=true->dW b < jc o.key):∀(d:Nat) {bu:Int} {la:Cl} {sz ch:Int} {ba nd se:W} {wk:Option bs} {kW:Option cU} {an:An} {cn:W},jW wt bu=true->pK bu<=d ->
 cB bn (GH L o) (40 * M+250+d+1) h (bC (bc (eZ 8 bu)),⟨2,la,o,sz,wt,bu,ch,ba,nd,se,wk,kW,an,cn⟩)
 | d,bu,la,sz,ch,ba,nd,se,wk,kW,an,cn,hw,hd=>by
   obtain⟨w0,w8,b0,b8⟩:=mF hw;have e8:eZ 8 bu=8+bu:=by unfold eZ;rw [mD (by omega)]
   rw [e8];refine bF (dv (b4 (by omega) (by omega)) ?_);show cB bn _ (40 * M+250+d) h (bn ⟨2,la,o,sz,wt,bu,ch,ba,nd,se,wk,kW,an,cn⟩ ⟨h.bd (8+bu),true⟩);rw [alh];have kM:∀{w:W},CZ L w bu->1<=w.ae:=fun⟨y,hy,q1,_⟩=>by rw [q1];exact(ga hi.li y hy).1
   by_cases hz:(h.bd (8+bu)).ae=0
   ·rw [kr hz];have dE:bu≠0:=fun e=>by subst e;have:=kM hi.b0;rw [show (8:Int)+0=8 from rfl] at hz;omega
    show cB bn _ (40 * M+250+d) h (if bu=0 then _ else _);rw [if_neg dE];obtain⟨p1,p2⟩:=TP hw dE;cases d with
    | zero=>omega
    | succ d=>exact HB hM hi ho hk d p1 (by omega)
   ·rw [gL (by rcases hi.bk bu b0 b8 with q | q<;>first | exact absurd q hz | exact kM q)];have hb:CZ L (h.bd (8+bu)) bu:=(hi.bk bu b0 b8).resolve_left hz;have hdw:=ZL hw;have h3:=agh wt;show cB bn _ (40 * M+250+d) h (FW ⟨2,la,o,sz,wt,bu,ch,h.bd (8+bu),nd,se,wk,kW,an,cn⟩);exact bW (fun _ _ h=>h) (by have:=ac3 (10 * M+40) (show pK wt - pK bu<=3 by omega);omega:10 * M+130+(10 * M+40) * (pK wt - pK bu)<=_) (BH hM ho hk (pK wt - pK bu) hi (fun x _=>Iff.rfl) hb hw (by omega))
theorem VE {h:AH} {L:List Kn} (hi:lB h L) {o:O} (ho:o.aj=6 \/ o.aj=7 \/ o.aj=8) (hk:ED o.key=true) {M:Nat} (hM:∀{h:AH} {L':List Kn},lB h L'->l5 L L'->L'.length<=M) (x:cJ):cB bn (GH L o) (40 * M+260) h (bn (Ic o) x):=by
 show cB bn _ (40 * M+259+1) h (bC (bc 16),⟨1,bf,o,0,0,0,0,aq,aq,aq,none,none,⟨0,0⟩,aq⟩);refine bF (dv (b4 (by decide) (by decide)) ?_);show cB bn _ (40 * M+259) h (bn ⟨1,bf,o,0,0,0,0,aq,aq,aq,none,none,⟨0,0⟩,aq⟩ ⟨h.bd 16,true⟩);rw [ali];have hw:jW (Int.tmod o.key (uF (h.bd 16).bU)) (Int.tmod o.key (uF (h.bd 16).bU))=true:=by have hk:0<=o.key /\ o.key < 256:=aaF hk;have h1:0<=Int.tmod o.key (uF (h.bd 16).bU):=Int.tmod_nonneg _ hk.1;have h2:Int.tmod o.key (uF (h.bd 16).bU) < uF (h.bd 16).bU:=Int.tmod_lt_of_pos o.key (by rcases rZ (h.bd 16).bU with h | h | h | h<;>omega);exact abE h1 (by rcases rZ (h.bd 16).bU with h | h | h | h<;>omega)
 have h3:=agh (Int.tmod o.key (uF (h.bd 16).bU));exact bW (fun _ _ h=>h) (by omega:40 * M+250+3+1<=40 * M+259) (HB hM hi ho (fun b hb=>T9 hk hb) 3 hw h3)
end
section
open Go Go.Sx Go.Proofs AH
structure Sn where
 s:Int
 g:Int
 k:Int
 v:Int
 t:Int
def Sn.dh (x:Sn) (f:Int):Ad:=⟨x.s,x.g,f⟩
def qS (h:AH) (f:Int):W->List Sn->Prop
 | w,[]=>w.ae=0 /\ w.mark=false
 | w,x::l=>w.ae=x.s /\ w.gen=x.g /\ w.mark=false /\ 1<=x.s /\ h.lv x.s x.g /\ (h.cl x.s 0).bU=x.k /\ qS h f (h.cl x.s f) l
def fB (h:AH) (f CA:Int):Ad->List Sn->Ad->W->Int->Prop
 | a,[],p,c,k=>p=a /\ c=h.rd a
 | a,x::l,p,c,k=>if CA<=x.k then p=a /\ c=h.rd a /\ k=x.k else fB h f CA (x.dh f) l p c k
def GL (Q:aQ->AH->Prop):Nat->Nat->AH->(Cl×Bool)×aQ->Prop
 | 0,_,_,_=>False
 | f+1,k,h,r=>(r.1.2=false /\ Q r.2 h) \/ (r.1.2=true /\ uk r.1.1.aj<=k /\ r.1.1.aj≠10 /\ h.Wp r.1.1 fun x h'=>GL Q f (k - uk r.1.1.aj) h' (aL r.2 x))
def dY (Q:aQ->AH->Prop) (k:Nat) (h:AH) (r:(Cl×Bool)×aQ):Prop:=GL Q (k+1) k h r
theorem vX {Q Q':aQ->AH->Prop} (hq:∀w h,Q w h->Q' w h):∀{f f' k k':Nat} {h:AH} {r:(Cl×Bool)×aQ},f<=f'->k<=k'->GL Q f k h r->GL Q' f' k' h r
 | 0,_,_,_,_,_,_,_,hh=>hh.elim
 | f+1,0,_,_,_,_,hle,_,_=>by omega
 | f+1,f'+1,k,k',h,r,hle,hk,hh=>by
   rcases hh with⟨e,q⟩ | ⟨e,hn,ht,hw⟩
   ·exact .inl ⟨e,hq _ _ q⟩
   ·exact .inr ⟨e,abz hn hk,ht,AH.wp_mono (fun x h' hx=>vX hq (by omega) (by omega) hx) hw⟩
theorem du {Q Q':aQ->AH->Prop} (hq:∀w h,Q w h->Q' w h) {k k':Nat} {h:AH} {r:(Cl×Bool)×aQ} (hk:k<=k') (hh:dY Q k h r):dY Q' k' h r:=vX hq (by omega) hk hh
theorem SE {Q:aQ->AH->Prop} {h:AH} {k w:Nat} {r:(Cl×Bool)×aQ} (ht:r.1.1.aj≠10) (e:r.1.2=true) (ew:uk r.1.1.aj<=w) (hw:h.Wp r.1.1 fun x h'=>dY Q k h' (aL r.2 x)):dY Q (k+w) h r:=by have:=C2 r.1.1.aj;exact .inr ⟨e,by omega,ht,AH.wp_mono (fun x h' hx=>vX (fun _ _ h=>h) (by omega) (by omega) hx) hw⟩
theorem iF {Q:aQ->AH->Prop} {h:AH} {k:Nat} {r:(Cl×Bool)×aQ} (e:r.1.2=true) (hw:h.Wp r.1.1 fun x h'=>dY Q k h' (aL r.2 x)) (ew:uk r.1.1.aj=1:=by rfl):dY Q (k+1) h r:=SE (ya (by omega)) e (by omega) hw
theorem Af {Q:aQ->AH->Prop} {h:AH} {k:Nat} {r:(Cl×Bool)×aQ} (e:r.1.2=true) (hw:h.Wp r.1.1 fun x h'=>dY Q k h' (aL r.2 x)) (ew:uk r.1.1.aj=5:=by rfl):dY Q (k+5) h r:=SE (ya (by omega)) e (by omega) hw
theorem yM {Q:aQ->AH->Prop} {h:AH} {k:Nat} {r:(Cl×Bool)×aQ} (e:r.1.2=false) (q:Q r.2 h):dY Q k h r:=.inl ⟨e,q⟩
theorem vU {α:Type} {na:α->cJ->Cl×α} {Q:An->AH->Prop} {Qw:aQ->AH->Prop} {J:aQ->α} {co:aQ->Cl×α} {K:Nat} (hJ:∀w x,na (J w) x=cond (aL w x).1.2 ((aL w x).1.1,J (aL w x).2) (co (aL w x).2)) (hc:∀w h,Qw w h->cB na Q K h (co w))
 {k:Nat} {h:AH} {w:aQ} {x:cJ} (hw:dY Qw k h (aL w x)):cB na Q (k+K) h (na (J w) x):=by
 have go:∀{f k:Nat} {h:AH} {w:aQ} {x:cJ},GL Qw f k h (aL w x)->pA na Q true (f+K+1) (k+K) h (na (J w) x):=fun {f}=>by
  induction f with
  | zero=>exact fun hw=>hw.elim
  | succ f ih =>
    intro k h w x hw;rw [hJ];rcases hw with⟨e,q⟩ | ⟨e,hn,ht,hw⟩
    ·rw [e];exact eU (fun _ _ h=>h) (by omega) (by omega) id (hc _ _ q)
    ·rw [e,show f+1+K+1=(f+K+1)+1 by omega];refine yH ht (abz hn (by omega)) (AH.wp_mono (fun x h' hx=>?_) hw);exact eU (fun _ _ h=>h) (ab4 _) (by show _<=k+K - uk (aL w _).1.1.aj;omega) id (ih hx)
 exact qt (go hw)
def mS (c:aQ):(Cl×Bool)×aQ :=
 if c.level=0 then cond (gU (!(c.cur.ae==0)) (c.k==c.CA)) ((bf,false),{c with eJ:=S3.put c.eJ c.level c.prev c.cur,pc:=-1,found:=dB c.cur}) ((bf,false),{c with eJ:=S3.put c.eJ c.level c.prev c.cur,pc:=-1})
 else cond (c.prev.s==0) ((bL (bc (c.level - 1)) (3 * (c.level - 1)+1),true),{c with eJ:=S3.put c.eJ c.level c.prev c.cur,level:=c.level - 1,prev:=bc (c.level - 1),pc:=2})
  ((pj (3 * (c.level - 1)+2) (3 * (c.level - 1)+5),true),{c with eJ:=S3.put c.eJ c.level c.prev c.cur,level:=c.level - 1,prev:={c.prev with f:=2+(c.level - 1)},pc:=9})
def onC (c:aQ):(Cl×Bool)×aQ:=cond (c.cur.ae==0) (mS c) ((pj (3 * c.level+1) (3 * c.level),true),{c with pc:=8})
section
variable {la:Cl} {pv:Ad} {cu nx:W} {bd lv k:Int} {sp:S3} {fd:W}
theorem apV {w:W} (hm:w.mark=false):aL ⟨2,la,pv,cu,bd,lv,nx,k,sp,fd⟩ ⟨w,true⟩=cond (w.ae==0) (mS ⟨2,la,pv,w,bd,lv,nx,k,sp,fd⟩) ((bL (az w (2+lv)) (3 * lv),true),⟨3,la,pv,w,bd,lv,nx,k,sp,fd⟩):=by unfold aL m5;dsimp only;rw [hm];rfl
theorem apU (x:cJ):aL ⟨3,la,pv,cu,bd,lv,nx,k,sp,fd⟩ x=((bC (az cu 0),true),⟨4,la,pv,cu,bd,lv,x.w,k,sp,fd⟩):=rfl
theorem apT (x:cJ):aL ⟨4,la,pv,cu,bd,lv,nx,k,sp,fd⟩ x=((bC pv,true),⟨5,la,pv,cu,bd,lv,nx,x.w.bU,sp,fd⟩):=rfl
theorem apS (hm:nx.mark=false):aL ⟨5,la,pv,cu,bd,lv,nx,k,sp,fd⟩ ⟨cu,true⟩=cond (decide (k>=bd)) (mS ⟨5,la,pv,cu,bd,lv,nx,k,sp,fd⟩) ((pj (3 * lv+2) (3 * lv+1),true),⟨7,la,az cu (2+lv),cu,bd,lv,nx,k,sp,fd⟩):=by unfold aL m5;dsimp only;rw [nI,hm];rfl
theorem apR (hm:nx.mark=true):aL ⟨5,la,pv,cu,bd,lv,nx,k,sp,fd⟩ ⟨cu,true⟩=((cr pv cu (iV cu nx),true),⟨6,la,pv,cu,bd,lv,nx,k,sp,fd⟩):=by unfold aL m5;dsimp only;rw [nI,hm];rfl
theorem au2 (w:W):aL ⟨6,la,pv,cu,bd,lv,nx,k,sp,fd⟩ ⟨w,true⟩=onC ⟨6,la,pv,iV cu nx,bd,lv,nx,k,sp,fd⟩:=rfl
theorem apQ (x:cJ):aL ⟨7,la,pv,cu,bd,lv,nx,k,sp,fd⟩ x=onC ⟨7,la,pv,nx,bd,lv,nx,k,sp,fd⟩:=rfl
theorem ajX (x:cJ):aL ⟨8,la,pv,cu,bd,lv,nx,k,sp,fd⟩ x=((bL (az cu (2+lv)) (3 * lv),true),⟨3,la,pv,cu,bd,lv,nx,k,sp,fd⟩):=rfl
end
theorem wJ {h:AH} {f:Int} {l:List Sn} {w w':W} (hl:qS h f w l) (e1:w'.ae=w.ae) (e2:w'.gen=w.gen) (e3:w'.mark=false):qS h f w' l:=by
 cases l with
 | nil=>exact⟨e1.trans hl.1,e3⟩
 | cons x l=>exact⟨e1.trans hl.1,e2.trans hl.2.1,e3,hl.2.2.2⟩
theorem AR {h:AH} {f:Int} {l:List Sn} {w:W} (hl:qS h f w l):w.mark=false:=by
 cases l with
 | nil=>exact hl.2
 | cons x l=>exact hl.2.2.1
section
variable {Q:aQ->AH->Prop} {K:Nat} {h:AH} {la:Cl} {bd lv:Int} {sp:S3} {fd:W}
theorem PI (l0:0<=lv) (l2:lv<=2):∀{l:List Sn} {x:Sn} {pv:Ad} {cu nx:W} {k:Int},qS h (2+lv) cu (x::l)->h.bM pv->h.rd pv=cu ->
 (∀pc p c nx k,fB h (2+lv) bd pv (x::l) p c k->dY Q K h (mS ⟨pc,la,p,c,bd,lv,nx,k,sp,fd⟩)) ->
 dY Q (10 * (l.length+1)+K) h ((bL (az cu (2+lv)) (3 * lv),true),⟨3,la,pv,cu,bd,lv,nx,k,sp,fd⟩)
 | l,x,pv,cu,nx,k,⟨a,b,m,c,d,e0,f⟩,hv,hr,hK=>by
   have Sz:1<=cu.ae:=by omega
   have cul:h.lv cu.ae cu.gen:=by rw [a,b];exact d
   rw [show 10 * (l.length+1)+K=(10 * l.length+2+K)+1+1+1+5 by omega];have n2:h.rd (az cu (2+lv))=h.cl x.s (2+lv):=by rw [dQ Sz,a]
   have n0:(h.rd (az cu 0)).bU=x.k:=by rw [dQ Sz,a];exact e0
   refine Af rfl (gG (bm Sz cul (by omega) (by omega)) ?_);rw [n2];generalize en:h.cl x.s (2+lv)=w2 at *;have m2:=AR f;show dY Q _ h (aL ⟨3,la,pv,cu,bd,lv,nx,k,sp,fd⟩ ⟨w2,true⟩);rw [apU];refine iF rfl (dv (bm Sz cul (by decide) (by decide)) ?_);show dY Q _ h (aL ⟨4,la,pv,cu,bd,lv,w2,k,sp,fd⟩ ⟨h.rd (az cu 0),true⟩);rw [apT];refine iF rfl (dv hv ?_);show dY Q _ h (aL ⟨5,la,pv,cu,bd,lv,w2,(h.rd (az cu 0)).bU,sp,fd⟩ ⟨h.rd pv,true⟩);rw [hr,n0,apS m2];by_cases hk:x.k>=bd
   ·rw [aaC hk];refine du (fun _ _ h=>h) (by omega:K<=_) (hK _ _ _ _ _ ?_);unfold fB;rw [if_pos hk];exact⟨rfl,hr.symm,rfl⟩
   ·rw [aaK hk];have ea:az cu (2+lv)=x.dh (2+lv):=by unfold az Sn.dh;rw [a,b]
    have Cm:∀p c k,fB h (2+lv) bd (x.dh (2+lv)) l p c k->fB h (2+lv) bd pv (x::l) p c k:=fun p c k hw=>by unfold fB;rw [if_neg hk];exact hw
    refine iF rfl (mE ?_);show dY Q (10 * l.length+2+K) h (aL ⟨7,la,az cu (2+lv),cu,bd,lv,w2,x.k,sp,fd⟩ ⟨aq,true⟩);rw [apQ,ea];unfold onC;dsimp only;cases l with
    | nil =>rw [kr f.1];exact du (fun _ _ h=>h) (by omega:K<=_) (hK _ _ _ _ _ (Cm _ _ _ ⟨rfl,by rw [<- ea];exact n2.symm⟩))
    | cons y l =>rw [gL (by have:=f.1;have:=f.2.2.2.1;omega)];refine du (fun _ _ h=>h) (by rw [aaQ];omega:(10 * (l.length+1)+K)+1<=_) (iF rfl (mE ?_));show dY Q _ h (aL ⟨8,la,x.dh (2+lv),w2,bd,lv,w2,x.k,sp,fd⟩ ⟨aq,true⟩);rw [ajX];exact PI l0 l2 f (.inr ⟨c,d,by show 0<=2+lv;omega,by show 2+lv < 8;omega⟩) (by rw [<- ea];exact n2) fun pc p c nx k hp=>hK _ _ _ _ _ (Cm _ _ _ hp)
theorem Dt (l0:0<=lv) (l2:lv<=2) {l:List Sn} {pv:Ad} {cu nx:W} {k i:Int} (hv:h.bM pv) (hl:qS h (2+lv) (h.rd pv) l)
 (hK:∀pc p c nx k,fB h (2+lv) bd pv l p c k->dY Q K h (mS ⟨pc,la,p,c,bd,lv,nx,k,sp,fd⟩)):dY Q (10 * l.length+5+K) h ((bL pv i,true),⟨2,la,pv,cu,bd,lv,nx,k,sp,fd⟩):=by
 rw [show 10 * l.length+5+K=(10 * l.length+K)+5 by omega];refine Af rfl (gG hv ?_);show dY Q _ h (aL ⟨2,la,pv,cu,bd,lv,nx,k,sp,fd⟩ ⟨h.rd pv,true⟩);rw [apV (AR hl)];cases l with
 | nil =>rw [kr hl.1];exact du (fun _ _ h=>h) (by omega:K<=_) (hK _ _ _ _ _ ⟨rfl,rfl⟩)
 | cons y l =>rw [gL (by have:=hl.1;have:=hl.2.2.2.1;omega)];exact PI l0 l2 hl hv rfl hK
end
end
section
open Go Go.Sx Go.Proofs AH
def qZ (m:Int) (L:List Sn):List Sn:=L.filter fun x=>decide (m < x.t)
def xY (l:List Sn):Prop:=l.Pairwise fun a b=>a.k < b.k
theorem Kf {m:Int} {L:List Sn} (h:xY L):xY (qZ m L):=List.Pairwise.sublist afr h
theorem eT {m:Int} {L:List Sn} {x:Sn}:x∈qZ m L↔x∈L /\ m < x.t:=by unfold qZ;rw [af2,decide_eq_true_eq]
theorem Dr {m:Int} {L:List Sn}:(qZ m L).length<=L.length:=List.length_filter_le _ _
structure jX (h:AH) (L:List Sn):Prop where
 SL:∀m,0<=m->m<=2->qS h (2+m) (h.bd m) (qZ m L)
 nd:(L.map Sn.s).Nodup
 sr:xY L
 da:∀x∈L,(h.cl x.s 1).bU=x.v /\ (h.cl x.s 6).bU=x.t /\ (h.cl x.s 7).bU≠0 /\ 1<=x.t /\ x.t<=3
 rg:∀x∈L,0<=x.k /\ x.k < 256
theorem Yf {h:AH} {L:List Sn} (hi:jX h L):qZ 0 L=L:=List.filter_eq_self.2 fun x hx=>aaC (by have:=hi.da x hx;omega)
theorem uQ {h:AH} {f:Int} {y:Sn} {B:List Sn}:∀{A:List Sn} {w:W},qS h f w (A++y::B)->qS h f (h.cl y.s f) B /\ 1<=y.s /\ h.lv y.s y.g
 | [],w,⟨a,b,m,c,d,e0,fo⟩=>⟨fo,c,d⟩
 | x::A,w,⟨a,b,m,c,d,e0,fo⟩=>uQ fo
theorem ze {h:AH} {f:Int} {l:List Sn} {w:W} (hl:qS h f w l) {x:Sn} (hx:x∈l):1<=x.s /\ h.lv x.s x.g:=by obtain⟨A,B,rfl⟩:=List.append_of_mem hx;exact(uQ hl).2
theorem BN {h:AH} {f bd:Int} {y:Sn} {B:List Sn} {p:Ad} {c:W} {k:Int} (hy:y.k < bd) (hw:fB h f bd (y.dh f) B p c k):∀{A:List Sn} {a:Ad},xY (A++y::B)->fB h f bd a (A++y::B) p c k
 | [],a,_=>by show fB h f bd a (y::B) p c k;unfold fB;rw [if_neg (by omega)];exact hw
 | x::A,a,hs=>by rw [acY] at hs ⊢;unfold xY at hs;rw [adF] at hs;have:=hs.1 y (by simp);unfold fB;rw [if_neg (by omega)];exact BN hy hw hs.2
theorem gS {h:AH} {f bd:Int} {p:Ad} {c:W} {k:Int}:∀{l:List Sn} {a:Ad},fB h f bd a l p c k->(p=a \/ ∃x∈l,x.k < bd /\ p=x.dh f) /\ c=h.rd p
 | [],a,hw=>⟨.inl hw.1,by rw [hw.1];exact hw.2⟩
 | x::l,a,hw=>by
   unfold fB at hw;by_cases hk:bd<=x.k
   ·rw [if_pos hk] at hw;exact⟨.inl hw.1,by rw [hw.1];exact hw.2.1⟩
   ·rw [if_neg hk] at hw;obtain⟨h1,h2⟩:=gS hw;refine⟨?_,h2⟩;rcases h1 with h1 | ⟨y,hy,h1⟩
    ·exact .inr ⟨x,aaV,by omega,h1⟩
    ·exact .inr ⟨y,aaW _ hy,h1⟩
def Aq (key:Int):List Sn->Option Sn
 | []=>none
 | x::l=>if key<=x.k then(if x.k=key then some x else none) else Aq key l
theorem Cv {h:AH} {f bd:Int} {p:Ad} {c:W} {k:Int}:∀{l:List Sn} {a:Ad},qS h f (h.rd a) l->f=2->fB h f bd a l p c k->match Aq bd l with
  | none=>gU (!(c.ae==0)) (k==bd)=false
  | some x=>gU (!(c.ae==0)) (k==bd)=true /\ c.ae=x.s /\ c.gen=x.g
 | [],a,hl,hf,hw=>by show gU (!(c.ae==0)) (k==bd)=false;rw [hw.2,kr hl.1];rfl
 | x::l,a,⟨q1,q2,m,cc,d,e0,fo⟩,hf,hw=>by
   unfold fB at hw;unfold Aq;by_cases hk:bd<=x.k
   ·rw [if_pos hk] at hw ⊢;obtain⟨w1,w2,w3⟩:=hw;have hc:c.ae=x.s:=by rw [w2];exact q1
    rw [gL (by omega:1<=c.ae),w3];by_cases he:x.k=bd
    ·rw [if_pos he];exact⟨by rw [he];show (bd==bd)=true;simp,hc,by rw [w2];exact q2⟩
    ·rw [if_neg he];show (x.k==bd)=false;simpa using he
   ·rw [if_neg hk] at hw ⊢;exact Cv (a:=x.dh f) (by unfold rd;rw [if_neg (by show ¬x.s=0;omega)];exact fo) hf hw
def qF (h:AH) (bd:Int) (L:List Sn) (m:Int) (p:Ad) (c:W):Prop:=∃k,fB h (2+m) bd (bc m) (qZ m L) p c k
structure wq (h:AH) (bd:Int) (L:List Sn) (c:aQ):Prop where
 s0:qF h bd L 0 c.eJ.p0 c.eJ.c0
 s1:qF h bd L 1 c.eJ.p1 c.eJ.c1
 s2:qF h bd L 2 c.eJ.p2 c.eJ.c2
 fo:match Aq bd L with
  | none=>c.found=aq
  | some x=>c.found=⟨x.s,x.g,0,0,false⟩
def Start (bd:Int) (L:List Sn) (m:Int) (pv:Ad) (l:List Sn):Prop:=(pv=bc m /\ l=qZ m L) \/ ∃x A,qZ m L=A++x::l /\ pv=x.dh (2+m) /\ x.k < bd
section
variable {h:AH} {L:List Sn} {bd m:Int} {pv:Ad} {l:List Sn}
theorem D9 (hi:jX h L) (m0:0<=m) (m2:m<=2) (hs:Start bd L m pv l):h.bM pv /\ qS h (2+m) (h.rd pv) l /\ l.length<=L.length /\ ∀p c k,fB h (2+m) bd pv l p c k->fB h (2+m) bd (bc m) (qZ m L) p c k:=by
 rcases hs with⟨rfl,rfl⟩ | ⟨x,A,e,rfl,hk⟩
 ·exact⟨b4 m0 (by omega),hi.SL m m0 m2,Dr,fun _ _ _ h=>h⟩
 ·have h1:=hi.SL m m0 m2;rw [e] at h1;obtain⟨s1,s2,s3⟩:=uQ h1;refine⟨.inr ⟨s2,s3,by show 0<=2+m;omega,by show 2+m < 8;omega⟩,?_,?_,fun p c k hp=>?_⟩
  ·unfold rd;rw [if_neg (by show ¬x.s=0;omega)];exact s1
  ·have:=Dr (m:=m) (L:=L);rw [e,aaP,aaQ] at this;omega
  ·rw [e];exact BN hk hp (e▸Kf hi.sr)
theorem Ea (hi:jX h L) (m0:0<=m) (m2:m < 2) {p:Ad} {c:W} {k:Int} (hp:fB h (2+(m+1)) bd (bc (m+1)) (qZ (m+1) L) p c k):(p.s=0 /\ Start bd L m (bc m) (qZ m L)) \/ (1<=p.s /\ ∃l,Start bd L m {p with f:=2+m} l):=by
 rcases (gS hp).1 with rfl | ⟨x,hx,hk,rfl⟩
 ·exact .inl ⟨rfl,.inl ⟨rfl,rfl⟩⟩
 ·have hxs:=ze (hi.SL (m+1) (by omega) (by omega)) hx;obtain⟨x1,x2⟩:=eT.1 hx;obtain⟨A,B,e⟩:=List.append_of_mem (eT.2 ⟨x1,(by omega:m < x.t)⟩);exact .inr ⟨hxs.1,B,.inr ⟨x,A,e,rfl,hk⟩⟩
variable {la:Cl} {cu nx:W} {k i:Int} {sp:S3}
theorem SC (hi:jX h L) (hs:Start bd L 0 pv l) (h1:qF h bd L 1 sp.p1 sp.c1) (h2:qF h bd L 2 sp.p2 sp.c2):dY (fun c h'=>h'=h /\ wq h bd L c) (10 * L.length+5) h ((bL pv i,true),⟨2,la,pv,cu,bd,0,nx,k,sp,aq⟩):=by
 obtain⟨v,sk,len,up⟩:=D9 hi (by decide) (by decide) hs;refine du (fun _ _ h=>h) (by omega:10 * l.length+5+0<=_) (Dt (lv:=0) (by decide) (by decide) v sk fun pc p c nx k hp=>?_);have hp:=up _ _ _ hp;have qH:=Cv (a:=bc 0) (hi.SL 0 (by decide) (by decide)) rfl hp;rw [Yf hi] at qH;unfold mS;dsimp only;rw [if_pos rfl];cases bG:Aq bd L with
 | none =>rw [bG] at qH;have qH:gU (!(c.ae==0)) (k==bd)=false:=qH;rw [qH];exact yM rfl ⟨rfl,⟨k,hp⟩,h1,h2,by rw [bG];rfl⟩
 | some x =>rw [bG] at qH;obtain⟨f1,f2,f3⟩:=qH;rw [f1];exact yM rfl ⟨rfl,⟨k,hp⟩,h1,h2,by rw [bG];show dB c=_;unfold dB;rw [f2,f3]⟩
theorem SB (hi:jX h L) (hs:Start bd L 1 pv l) (h2:qF h bd L 2 sp.p2 sp.c2):dY (fun c h'=>h'=h /\ wq h bd L c) (20 * L.length+12) h ((bL pv i,true),⟨2,la,pv,cu,bd,1,nx,k,sp,aq⟩):=by
 obtain⟨v,sk,len,up⟩:=D9 hi (by decide) (by decide) hs;refine du (fun _ _ h=>h) (by omega:10 * l.length+5+(10 * L.length+5+1)<=_) (Dt (lv:=1) (by decide) (by decide) v sk fun pc p c nx k hp=>?_);have hp:=up _ _ _ hp;have hn:=Ea (m:=0) hi (by decide) (by decide) hp;unfold mS;dsimp only;rw [if_neg (by decide)];rcases hn with⟨e,hn⟩ | ⟨e,l',hn⟩
 ·rw [e];exact du (fun _ _ h=>h) (by omega:10 * L.length+5<=_) (SC (sp:=S3.put sp 1 p c) hi hn ⟨k,hp⟩ h2)
 ·rw [show (p.s==0)=false by cases hb:p.s==0 with | false=>rfl | true=>have:=Sm hb;omega];refine iF rfl (mE ?_);exact SC (sp:=S3.put sp 1 p c) hi hn ⟨k,hp⟩ h2
theorem ad0 (hi:jX h L) (hs:Start bd L 2 pv l):dY (fun c h'=>h'=h /\ wq h bd L c) (30 * L.length+20) h ((bL pv i,true),⟨2,la,pv,cu,bd,2,nx,k,sp,aq⟩):=by
 obtain⟨v,sk,len,up⟩:=D9 hi (by decide) (by decide) hs;refine du (fun _ _ h=>h) (by omega:10 * l.length+5+(20 * L.length+12+1)<=_) (Dt (lv:=2) (by decide) (by decide) v sk fun pc p c nx k hp=>?_);have hp:=up _ _ _ hp;have hn:=Ea (m:=1) hi (by decide) (by decide) hp;unfold mS;dsimp only;rw [if_neg (by decide)];rcases hn with⟨e,hn⟩ | ⟨e,l',hn⟩
 ·rw [e];exact du (fun _ _ h=>h) (by omega:20 * L.length+12<=_) (SB (sp:=S3.put sp 2 p c) hi hn ⟨k,hp⟩)
 ·rw [show (p.s==0)=false by cases hb:p.s==0 with | false=>rfl | true=>have:=Sm hb;omega];refine iF rfl (mE ?_);exact SB (sp:=S3.put sp 2 p c) hi hn ⟨k,hp⟩
theorem xf (hi:jX h L) (x:cJ):dY (fun c h'=>h'=h /\ wq h bd L c) (30 * L.length+20) h (aL (fx bd) x):=ad0 hi (.inl ⟨rfl,rfl⟩)
end
end
section
open Go Go.Sx Go.Proofs AH
def pe (n:Sn):List Sn->List Sn
 | []=>[n]
 | x::l=>if n.k<=x.k then n::x::l else x::pe n l
def qL (key:Int):List Sn->List Sn
 | []=>[]
 | x::l=>if key<=x.k then l else x::qL key l
theorem fV {h h':AH} {f:Int}:∀{l:List Sn} {w:W},qS h f w l->(∀x∈l,1<=x.s->h.lv x.s x.g->h'.lv x.s x.g /\ h'.cl x.s 0=h.cl x.s 0 /\ h'.cl x.s f=h.cl x.s f)->qS h' f w l
 | [],_,hp,_=>hp
 | x::l,w,⟨a,b,m,c,d,e0,fo⟩,hf=>by obtain⟨f1,f0,f3⟩:=hf x aaV c d;exact⟨a,b,m,c,f1,by rw [f0];exact e0,by rw [f3];exact fV fo fun y hy=>hf y (aaW _ hy)⟩
theorem an0 {h h':AH} {n:Sn} {f:Int} {p:Ad} {c:W} {k:Int} (n1:1<=n.s) (nl:h'.lv n.s n.g) (n0:(h'.cl n.s 0).bU=n.k) (nf:h'.cl n.s f=dB c)
 (to:(h'.rd p).ae=n.s /\ (h'.rd p).gen=n.g /\ (h'.rd p).mark=false) (Cn:∀s g,s≠n.s->h.lv s g->h'.lv s g) (h0:∀s,1<=s->s≠n.s->h'.cl s 0=h.cl s 0) (hf:∀s,1<=s->s≠n.s->¬(s=p.s /\ f=p.f)->h'.cl s f=h.cl s f) :
 ∀{l:List Sn} {a:Ad},(¬(a.s=p.s /\ a.f=p.f)->h'.rd a=h.rd a)->(a.f=f \/ a.s=0)->qS h f (h.rd a) l->fB h f n.k a l p c k->a.s ∉ l.map Sn.s->n.s ∉ l.map Sn.s->(l.map Sn.s).Nodup->qS h' f (h'.rd a) (pe n l)
 | [],a,ha,hfa,hl,hw,has,hn,hd=>by obtain⟨w1,w2⟩:=hw;rw [w1] at to;refine⟨to.1,to.2.1,to.2.2,n1,nl,n0,?_⟩;rw [nf,w2];exact⟨hl.1,rfl⟩
 | x::l,a,ha,hfa,hl,hw,has,hn,hd=>by
   unfold fB at hw;unfold pe;rw [aaU,aaO,not_or] at has hn;rw [aaU,ads] at hd;by_cases hk:n.k<=x.k
   ·rw [if_pos hk] at hw ⊢;obtain⟨w1,w2,w3⟩:=hw;rw [w1] at to;refine⟨to.1,to.2.1,to.2.2,n1,nl,n0,?_⟩;rw [nf,w2];refine fV (wJ hl rfl rfl rfl) fun y hy y1 G9=>?_;have Km:y.s≠n.s:=fun e=>(not_or.2 hn) (aaO.1 (e▸adf (f:=Sn.s) hy));have hya:y.s≠a.s:=fun e=>(not_or.2 has) (aaO.1 (e▸adf (f:=Sn.s) hy));exact⟨Cn _ _ Km G9,h0 _ y1 Km,hf _ y1 Km fun e=>hya (e.1.trans (congrArg Ad.s w1))⟩
   ·rw [if_neg hk] at hw ⊢;have hp:p.s≠a.s:=by
     rcases (gS hw).1 with e | ⟨y,hy,_,e⟩
     ·rw [e];exact fun e=>has.1 e.symm
     ·rw [e];exact fun e=>has.2 (ac0.2 ⟨y,hy,e⟩)
    obtain⟨q1,q2,m,cc,d,e0,fo⟩:=hl;rw [ha fun e=>hp e.1.symm];have zP:x.s≠n.s:=fun e=>hn.1 e.symm;have rx:∀H:AH,H.rd (x.dh f)=H.cl x.s f:=fun H=>by unfold rd;rw [if_neg (by show ¬x.s=0;omega)];rfl
    refine⟨q1,q2,m,cc,Cn _ _ zP d,by rw [h0 _ cc zP];exact e0,?_⟩;rw [<- rx] at fo ⊢;exact an0 n1 nl n0 nf to Cn h0 hf (fun e=>by rw [rx,rx];exact hf _ cc zP e) (.inl rfl) fo hw hd.1 hn.2 hd.2
theorem oR {n y:Sn}:∀{l:List Sn},y∈pe n l↔y=n \/ y∈l
 | []=>by simp [pe]
 | x::l=>by
   unfold pe;split
   ·simp
   ·rw [aaO,oR,aaO];exact⟨fun h=>by rcases h with h | h | h<;>simp [h],fun h=>by rcases h with h | h | h<;>simp [h]⟩
theorem oI {key:Int}:∀{l:List Sn},(qL key l).Sublist l
 | []=>.slnil
 | x::l=>by
   unfold qL;split
   ·exact List.sublist_cons_self _ _
   ·exact oI.cons_cons _
theorem Fz {n:Sn}:∀{l:List Sn},(l.map Sn.s).Nodup->n.s ∉ l.map Sn.s->((pe n l).map Sn.s).Nodup
 | [],_,_=>by simp [pe]
 | x::l,hd,hn=>by
   unfold pe;split
   ·rw [aaU,ads];exact⟨hn,hd⟩
   ·rw [aaU,ads] at hd ⊢;rw [aaU,aaO,not_or] at hn;refine⟨fun hm=>?_,Fz hd.2 hn.2⟩;obtain⟨y,hy,e⟩:=ac0.1 hm;rcases oR.1 hy with rfl | hy
    ·exact hn.1 e
    ·exact hd.1 (ac0.2 ⟨y,hy,e⟩)
theorem Na {n:Sn}:∀{l:List Sn},xY l->Aq n.k l=none->xY (pe n l)
 | [],_,_=>by simp [pe,xY]
 | x::l,hs,ha=>by
   unfold pe;unfold Aq at ha;have hs0:=hs;unfold xY at hs;rw [adF] at hs;by_cases hk:n.k<=x.k
   ·rw [if_pos hk] at ha ⊢;have dE:x.k≠n.k:=fun e=>by rw [if_pos e] at ha;cases ha
    unfold xY;rw [adF];refine⟨fun y hy=>?_,hs0⟩;rcases aaO.1 hy with rfl | hy
    ·omega
    ·have:=hs.1 y hy;omega
   ·rw [if_neg hk] at ha ⊢;unfold xY;rw [adF];refine⟨fun y hy=>?_,Na hs.2 ha⟩;rcases oR.1 hy with rfl | hy
    ·omega
    ·exact hs.1 y hy
theorem RL {m:Int} {n:Sn}:∀{l:List Sn},xY l->qZ m (pe n l)=if m < n.t then pe n (qZ m l) else qZ m l
 | [],_=>by
   show qZ m [n]=_;unfold qZ;by_cases h:m < n.t
   ·rw [if_pos h,aeu,if_pos (aaC h)];rfl
   ·rw [if_neg h,aeu,if_neg (by simpa using h)]
 | x::l,hs=>by
   have hs0:=hs;unfold xY at hs;rw [adF] at hs;have ih:=RL (m:=m) (n:=n) (l:=l) hs.2;rw [show pe n (x::l)=if n.k<=x.k then n::x::l else x::pe n l from rfl];by_cases hk:n.k<=x.k
   ·rw [if_pos hk];have atD:∀{r:List Sn},(∀y∈r,n.k<=y.k)->pe n r=n::r:=fun {r} hr=>by
     cases r with
     | nil=>rfl
     | cons y r=>unfold pe;rw [if_pos (hr y aaV)]
    show List.filter _ (n::x::l)=_;rw [aeu];by_cases h:m < n.t
    ·rw [if_pos h,if_pos (aaC h)];refine(atD fun y hy=>?_).symm;rcases aaO.1 (eT.1 hy).1 with rfl | hy
     ·exact hk
     ·have:=hs.1 y hy;omega
    ·rw [if_neg h,if_neg (by simpa using h)];rfl
   ·rw [if_neg hk];unfold qZ at ih ⊢;rw [aeu,aeu (xs:=l),ih];by_cases hx:m < x.t
    ·rw [if_pos (aaC hx),if_pos (aaC hx)];split
     ·show _=pe n (x::_);rw [pe,if_neg hk]
     ·rfl
    ·simp only [if_neg (show ¬decide (m < x.t)=true by simpa using hx)]
end
section
open Go Go.Sx Go.Proofs AH
theorem sA {h:AH} {bd:Int} {L:List Sn} (hi:jX h L) {m:Int} (m0:0<=m) (m2:m<=2) {p:Ad} {c:W} (hs:qF h bd L m p c):(p=bc m \/ ∃x∈L,1<=x.s /\ h.lv x.s x.g /\ p=x.dh (2+m)) /\ c=h.rd p /\ h.bM p:=by
 obtain⟨k,hp⟩:=hs;obtain⟨h1,h2⟩:=gS hp;rcases h1 with rfl | ⟨x,hx,_,rfl⟩
 ·exact⟨.inl rfl,h2,b4 m0 (by omega)⟩
 ·have:=ze (hi.SL m m0 m2) hx;exact⟨.inr ⟨x,(eT.1 hx).1,this.1,this.2,rfl⟩,h2,.inr ⟨this.1,this.2,by show 0<=2+m;omega,by show 2+m < 8;omega⟩⟩
theorem abA {h:AH} {bd:Int} {L:List Sn} (hi:jX h L) {m j:Int} (m0:0<=m) (m2:m<=2) (j0:0<=j) (j2:j<=2) (dE:j≠m) {p q:Ad} {c d:W} (hp:qF h bd L m p c) (hq:qF h bd L j q d):¬(p.s=q.s /\ p.f=q.f):=by
 rintro ⟨e1,e2⟩;rcases (sA hi m0 m2 hp).1 with rfl | ⟨x,hx,x1,_,rfl⟩<;>rcases (sA hi j0 j2 hq).1 with rfl | ⟨y,hy,y1,_,rfl⟩
 ·have e2:m=j:=e2;omega
 ·have e1:(0:Int)=y.s:=e1;omega
 ·have e1:x.s=(0:Int):=e1;omega
 ·have e2:2+m=2+j:=e2;omega
theorem WO {h H:AH} {L:List Sn} (hi:jX h L) {n:Sn} {pm:Int->Ad} {cm:Int->W} (n1:1<=n.s) (fr:∀x∈L,x.s≠n.s) (t1:1<=n.t) (t3:n.t<=3) (k0:0<=n.k) (k1:n.k < 256) (bG:Aq n.k L=none)
 (sp:∀m,0<=m->m<=2->qF h n.k L m (pm m) (cm m)) (Av:H.lv n.s n.g) (lvo:∀s g,s≠n.s->h.lv s g->H.lv s g)
 (c0:(H.cl n.s 0).bU=n.k) (cv:(H.cl n.s 1).bU=n.v) (c6:(H.cl n.s 6).bU=n.t) (c7:(H.cl n.s 7).bU≠0) (cf:∀m,0<=m->m < n.t->H.cl n.s (2+m)=dB (cm m))
 (to:∀m,0<=m->m < n.t->(H.rd (pm m)).ae=n.s /\ (H.rd (pm m)).gen=n.g /\ (H.rd (pm m)).mark=false)
 (un:∀b:Ad,b.s≠n.s->(∀m,0<=m->m < n.t->¬(b.s=(pm m).s /\ b.f=(pm m).f))->H.rd b=h.rd b):jX H (pe n L):=by
 have form:=fun m m0 m2=>(sA hi m0 m2 (sp m m0 m2)).1;have ci:∀(K:AH) (s f:Int),1<=s->K.rd ⟨s,0,f⟩=K.cl s f:=fun K s f hs=>by unfold rd;rw [if_neg (by show ¬s=0;omega)]
 have cell:∀s f,1<=s->s≠n.s->(∀m,0<=m->m < n.t->f=2+m->s≠(pm m).s)->H.cl s f=h.cl s f:=fun s f hs Ha hf=>by
  rw [<- ci H s f hs,<- ci h s f hs];refine un _ Ha fun m m0 mt=>?_;rintro ⟨e1,e2⟩;have e1:s=(pm m).s:=e1;have e2:f=(pm m).f:=e2;rcases form m m0 (by omega) with e | ⟨x,hx,x1,_,e⟩
  ·rw [e] at e1;have e1:s=0:=e1;omega
  ·rw [e] at e2;exact hf m m0 mt e2 e1
 have root:∀m,0<=m->m<=2->(m < n.t->¬(0=(pm m).s /\ m=(pm m).f))->H.rd (bc m)=h.rd (bc m):=fun m m0 m2 hm=>by
  refine un _ (by show (0:Int)≠n.s;omega) fun j j0 jt=>?_;rintro ⟨e1,e2⟩;have e1:0=(pm j).s:=e1;have e2:m=(pm j).f:=e2;rcases form j j0 (by omega) with e | ⟨x,hx,x1,_,e⟩
  ·rw [e] at e2;have e2:m=j:=e2;subst e2;exact hm jt ⟨e1,by rw [e];rfl⟩
  ·rw [e] at e1;have e1:(0:Int)=x.s:=e1;omega
 have nin:∀m,n.s ∉ (qZ m L).map Sn.s:=fun m hm=>by obtain⟨y,hy,e⟩:=ac0.1 hm;exact fr y (eT.1 hy).1 e
 refine⟨fun m m0 m2=>?_,Fz hi.nd fun hm=>?_,Na hi.sr bG,fun x hx=>?_,fun x hx=>?_⟩
 ·rw [RL hi.sr];by_cases hm:m < n.t
  ·rw [if_pos hm];obtain⟨k,hp⟩:=sp m m0 m2;refine an0 (h:=h) (a:=bc m) n1 Av c0 (cf m m0 hm) (to m m0 hm) lvo (fun s hs Ha=>cell s 0 hs Ha fun j j0 _ e=>by omega) (fun s hs Ha dE=>cell s (2+m) hs Ha fun j j0 jt e es=>?_) (fun dE=>root m m0 m2 fun _=>dE) (.inr rfl) (hi.SL m m0 m2) hp (fun hx=>?_) (nin m) ((afr.map Sn.s).nodup hi.nd)
   ·have e:j=m:=by omega
    subst e;refine dE ⟨es,?_⟩;rcases form j m0 m2 with e | ⟨x,hx,x1,_,e⟩
    ·rw [e] at es;have es:s=0:=es;omega
    ·rw [e];rfl
   ·obtain⟨y,hy,e⟩:=ac0.1 hx;have:=(ze (hi.SL m m0 m2) hy).1;have e:y.s=0:=e;omega
  ·rw [if_neg hm];have hr:=root m m0 m2 fun h=>absurd h hm;have hr:H.bd m=h.bd m:=hr;rw [hr];refine fV (hi.SL m m0 m2) fun x hx x1 hl=>?_;have zP:=fr x (eT.1 hx).1;exact⟨lvo _ _ zP hl,cell _ _ x1 zP fun j j0 _ e=>by omega,cell _ _ x1 zP fun j j0 jt e=>by omega⟩
 ·obtain⟨y,hy,e⟩:=ac0.1 hm;exact fr y hy e
 ·rcases oR.1 hx with rfl | hx
  ·exact⟨cv,c6,c7,t1,t3⟩
  ·have zP:=fr x hx;have x1:1<=x.s:=(ze (hi.SL 0 (by decide) (by decide)) (by rw [Yf hi];exact hx)).1;obtain⟨d1,d2,d3,d4⟩:=hi.da x hx;exact⟨by rw [cell _ _ x1 zP fun j j0 _ e=>by omega];exact d1,by rw [cell _ _ x1 zP fun j j0 jt e=>by omega];exact d2,by rw [cell _ _ x1 zP fun j j0 jt e=>by omega];exact d3,d4⟩
 ·rcases oR.1 hx with rfl | hx
  ·exact⟨k0,k1⟩
  ·exact hi.rg x hx
end
section
open Go Go.Sx Go.Proofs AH
def tm (c v:Int) (j:cD):Cl×cD:=(jS c v,{j with pc:=-1,last:=jS c v})
def jr (j:cD) (l:Int):Ad×W:=match j.kY with | none=>(iC,aq) | some c=>aZ c l
def pE (j:cD):W:=match j.kY with | none=>aq | some c=>c.found
def O9 (n:Int) (j:cD):Cl×cD:=(bC (az j.node 7),{j with inc:=n,pc:=101})
def Eb (j:cD):Cl×cD:=cond (decide (j.level>=j.op.bI)) (O9 1 j) (bC (az j.node (eZ 2 j.level)),{j with pc:=9})
def AO (j:cD):Cl×cD:=cond (decide (di j.level < j.op.bI)) (cW (az j.node (eZ 2 (di j.level))) (dB (jr j (di j.level)).2),{j with level:=di j.level,pc:=7})
 (cr (jr j 0).1 (jr j 0).2 (iV (jr j 0).2 j.node),{j with level:=di j.level,pc:=8})
def WA (j:cD):Cl×cD:=cond (!((pE j).ae==0)) (qz j.node,{j with pc:=6}) (AO {j with level:=-1})
def Wz (j:cD):Cl×cD:=cond ((pE j).ae==0) (tm 2 0 {j with node:=pE j}) (bC (az (pE j) 6),{j with node:=pE j,pc:=2})
def WB (j:cD):Cl×cD:=cond ((pE j).ae==0) (tm 2 0 {j with node:=pE j}) (bC (az (pE j) 1),{j with node:=pE j,pc:=2})
def Wy (j:cD):Cl×cD:=(kD j.node,{j with pc:=104})
section
variable {la:Cl} {ky va ta:Int} {cb:Option aQ} {nd:W} {lv inc v:Int}
theorem amy (x:cJ):aN ⟨0,la,⟨6,ky,va,ta⟩,cb,nd,lv,inc,v⟩ x=(kP,⟨1,la,⟨6,ky,va,ta⟩,cb,nd,lv,inc,v⟩):=rfl
theorem afk (x:cJ):aN ⟨1,la,⟨6,ky,va,ta⟩,cb,nd,lv,inc,v⟩ x=cond (!x.ok) (tm 4 0 ⟨1,la,⟨6,ky,va,ta⟩,cb,nd,lv,inc,v⟩) (cW (az x.w 0) (dZ ky),⟨2,la,⟨6,ky,va,ta⟩,cb,x.w,lv,inc,v⟩):=rfl
theorem amx (x:cJ):aN ⟨2,la,⟨6,ky,va,ta⟩,cb,nd,lv,inc,v⟩ x=(cW (az nd 1) (dZ va),⟨3,la,⟨6,ky,va,ta⟩,cb,nd,lv,inc,v⟩):=rfl
theorem amw (x:cJ):aN ⟨3,la,⟨6,ky,va,ta⟩,cb,nd,lv,inc,v⟩ x=(cW (az nd 6) (dZ ta),⟨4,la,⟨6,ky,va,ta⟩,cb,nd,lv,inc,v⟩):=rfl
theorem amv (x:cJ):aN ⟨4,la,⟨6,ky,va,ta⟩,cb,nd,lv,inc,v⟩ x=aN ⟨5,la,⟨6,ky,va,ta⟩,some (fx ky),nd,lv,inc,v⟩ x:=rfl
theorem amu (c:aQ) (x:cJ):aN ⟨5,la,⟨6,ky,va,ta⟩,some c,nd,lv,inc,v⟩ x=cond (aL c x).1.2 ((aL c x).1.1,⟨5,la,⟨6,ky,va,ta⟩,some (aL c x).2,nd,lv,inc,v⟩) (WA ⟨5,la,⟨6,ky,va,ta⟩,some (aL c x).2,nd,lv,inc,v⟩):=rfl
theorem amt (x:cJ):aN ⟨6,la,⟨6,ky,va,ta⟩,cb,nd,lv,inc,v⟩ x=tm 3 0 ⟨6,la,⟨6,ky,va,ta⟩,cb,nd,lv,inc,v⟩:=rfl
theorem ams (x:cJ):aN ⟨7,la,⟨6,ky,va,ta⟩,cb,nd,lv,inc,v⟩ x=AO ⟨7,la,⟨6,ky,va,ta⟩,cb,nd,lv,inc,v⟩:=rfl
theorem amr (w:W):aN ⟨8,la,⟨6,ky,va,ta⟩,cb,nd,lv,inc,v⟩ ⟨w,true⟩=Eb ⟨8,la,⟨6,ky,va,ta⟩,cb,nd,1,inc,v⟩:=rfl
theorem amq (w:W) (hm:w.mark=false):aN ⟨9,la,⟨6,ky,va,ta⟩,cb,nd,lv,inc,v⟩ ⟨w,true⟩=cond (!Xg w (jr ⟨9,la,⟨6,ky,va,ta⟩,cb,nd,lv,inc,v⟩ lv).2) (cr (az nd (eZ 2 lv)) w (iV w (jr ⟨9,la,⟨6,ky,va,ta⟩,cb,nd,lv,inc,v⟩ lv).2),⟨10,la,⟨6,ky,va,ta⟩,cb,nd,lv,inc,v⟩)
 (cr (jr ⟨9,la,⟨6,ky,va,ta⟩,cb,nd,lv,inc,v⟩ lv).1 (jr ⟨9,la,⟨6,ky,va,ta⟩,cb,nd,lv,inc,v⟩ lv).2 (iV (jr ⟨9,la,⟨6,ky,va,ta⟩,cb,nd,lv,inc,v⟩ lv).2 nd),⟨11,la,⟨6,ky,va,ta⟩,cb,nd,lv,inc,v⟩):=by
 obtain⟨a,b,c,d,e⟩:=w;dsimp only at hm;subst hm;rfl
theorem ahm (w:W):aN ⟨11,la,⟨6,ky,va,ta⟩,cb,nd,lv,inc,v⟩ ⟨w,true⟩=Eb ⟨11,la,⟨6,ky,va,ta⟩,cb,nd,di lv,inc,v⟩:=rfl
theorem Wx {k:Int} (x:cJ):aN ⟨101,la,⟨k,ky,va,ta⟩,cb,nd,lv,inc,v⟩ x=cond (x.w.bU==0) (cr (az nd 7) x.w (fH x.w inc),⟨102,la,⟨k,ky,va,ta⟩,cb,nd,lv,inc,v⟩) (aN ⟨103,la,⟨k,ky,va,ta⟩,some (fx (di ky)),nd,lv,inc,v⟩ x):=rfl
theorem ahl {k:Int} (w:W):aN ⟨102,la,⟨k,ky,va,ta⟩,cb,nd,lv,inc,v⟩ ⟨w,true⟩=tm 1 v ⟨102,la,⟨k,ky,va,ta⟩,cb,nd,lv,inc,v⟩:=rfl
theorem ahk {k:Int} (c:aQ) (x:cJ):aN ⟨103,la,⟨k,ky,va,ta⟩,some c,nd,lv,inc,v⟩ x=cond (aL c x).1.2 ((aL c x).1.1,⟨103,la,⟨k,ky,va,ta⟩,some (aL c x).2,nd,lv,inc,v⟩) (Wy ⟨103,la,⟨k,ky,va,ta⟩,some (aL c x).2,nd,lv,inc,v⟩):=rfl
theorem ahj {k:Int} (x:cJ):aN ⟨104,la,⟨k,ky,va,ta⟩,cb,nd,lv,inc,v⟩ x=tm 1 v ⟨104,la,⟨k,ky,va,ta⟩,cb,nd,lv,inc,v⟩:=rfl
theorem amp (x:cJ):aN ⟨0,la,⟨7,ky,va,ta⟩,cb,nd,lv,inc,v⟩ x=aN ⟨1,la,⟨7,ky,va,ta⟩,some (fx ky),nd,lv,inc,v⟩ x:=rfl
theorem amo (c:aQ) (x:cJ):aN ⟨1,la,⟨7,ky,va,ta⟩,some c,nd,lv,inc,v⟩ x=cond (aL c x).1.2 ((aL c x).1.1,⟨1,la,⟨7,ky,va,ta⟩,some (aL c x).2,nd,lv,inc,v⟩) (Wz ⟨1,la,⟨7,ky,va,ta⟩,some (aL c x).2,nd,lv,inc,v⟩):=rfl
theorem amm (x:cJ):aN ⟨3,la,⟨7,ky,va,ta⟩,cb,nd,lv,inc,v⟩ x=(bC (az nd (eZ 2 lv)),⟨4,la,⟨7,ky,va,ta⟩,cb,nd,lv,inc,x.w.bU⟩):=rfl
theorem aml (w:W) (hm:w.mark=false):aN ⟨4,la,⟨7,ky,va,ta⟩,cb,nd,lv,inc,v⟩ ⟨w,true⟩=(cr (az nd (eZ 2 lv)) w (n6 w),⟨5,la,⟨7,ky,va,ta⟩,cb,nd,lv,inc,v⟩):=by obtain⟨a,b,c,d,e⟩:=w;dsimp only at hm;subst hm;rfl
theorem amk (w:W):aN ⟨5,la,⟨7,ky,va,ta⟩,cb,nd,lv,inc,v⟩ ⟨w,true⟩=cond (decide (lv > 0)) (bC (az nd (eZ 2 (IntKind.wrap .i64 (lv - 1)))),⟨4,la,⟨7,ky,va,ta⟩,cb,nd,IntKind.wrap .i64 (lv - 1),inc,v⟩) (aN ⟨6,la,⟨7,ky,va,ta⟩,some (fx (di ky)),nd,lv,inc,v⟩ ⟨w,true⟩):=rfl
theorem amj (c:aQ) (x:cJ):aN ⟨6,la,⟨7,ky,va,ta⟩,some c,nd,lv,inc,v⟩ x=cond (aL c x).1.2 ((aL c x).1.1,⟨6,la,⟨7,ky,va,ta⟩,some (aL c x).2,nd,lv,inc,v⟩) (O9 2 ⟨6,la,⟨7,ky,va,ta⟩,some (aL c x).2,nd,lv,inc,v⟩):=rfl
theorem ami (x:cJ):aN ⟨0,la,⟨8,ky,va,ta⟩,cb,nd,lv,inc,v⟩ x=aN ⟨1,la,⟨8,ky,va,ta⟩,some (fx ky),nd,lv,inc,v⟩ x:=rfl
theorem amh (c:aQ) (x:cJ):aN ⟨1,la,⟨8,ky,va,ta⟩,some c,nd,lv,inc,v⟩ x=cond (aL c x).1.2 ((aL c x).1.1,⟨1,la,⟨8,ky,va,ta⟩,some (aL c x).2,nd,lv,inc,v⟩) (WB ⟨1,la,⟨8,ky,va,ta⟩,some (aL c x).2,nd,lv,inc,v⟩):=rfl
theorem amg (x:cJ):aN ⟨2,la,⟨8,ky,va,ta⟩,cb,nd,lv,inc,v⟩ x=tm 1 x.w.bU ⟨2,la,⟨8,ky,va,ta⟩,cb,nd,lv,inc,v⟩:=rfl
theorem amn (x:cJ):aN ⟨2,la,⟨7,ky,va,ta⟩,cb,nd,lv,inc,v⟩ x=cond (ll (decide (x.w.bU < 1)) (decide (x.w.bU > 3))) (bC (az nd 1),⟨3,la,⟨7,ky,va,ta⟩,cb,nd,0,inc,v⟩) (bC (az nd 1),⟨3,la,⟨7,ky,va,ta⟩,cb,nd,IntKind.wrap .i64 (x.w.bU - 1),inc,v⟩):=rfl
