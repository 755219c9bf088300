import Derived.Test.YtadmfaohjnjajaaGreatDoorBf
set_option linter.unusedVariables false
set_option linter.unusedSimpArgs false
set_option maxHeartbeats 0
set_option maxRecDepth 100000
namespace Go.Proofs.YtadmfaohjnjajaaGreatDoor
section
open Go Go.Sx Go.Proofs AH
theorem HE {w:W} {y:Kn} (e1:w.af=y.s) (e2:w.gen=y.g):ay w 2=y.cW:=by unfold ay Kn.cW;rw [e1,e2]
theorem GL {h:AH} {L0 L:List Kn} {j:bW} {b:Int} (hi:kZ h L) (hs:lB L0 L) (hb:Ci L j.base b) (hk:dN b < kF j.op.key) (ho:j.op.aj=6 \/ j.op.aj=7 \/ j.op.aj=8) {M:Nat} (hM:∀{h:AH} {L:List Kn},kZ h L->lB L0 L->L.length<=M):b9 bc (FA L0 j.op) (10 * M+130) h (VP j):=by
 obtain⟨y,hy,q1,q2,q3⟩:=hb
 obtain⟨A,B,rfl⟩:=List.append_of_mem hy
 have hlen:=hM hi hs
 rw [abl,abn] at hlen
 obtain⟨pc,la,o,sz,wt,bu,ch,ba,nd,se,wk,ku,an,cn⟩:=j
 dsimp only at q1 q2 hk ho
 have hl:=Lu (Kj hi) (key:=kF o.key) ho ⟨ao,false⟩
 show b9 bc (FA L0 o) (10 * M+130) h (ED (b6 (js (ay ba 2,kF o.key,o)) ⟨ao,false⟩).1 ⟨11,la,o,sz,wt,bu,ch,ba,nd,se,wk,some (b6 (js (ay ba 2,kF o.key,o)) ⟨ao,false⟩).2,an,cn⟩)
 rw [HE q1 q2]
 generalize b6 (js (y.cW,kF o.key,o)) ⟨ao,false⟩=r at hl ⊢
 have hin:=Xb (Q:=FA L0 o) (K:=6) (la:=la) (o:=o) (sz:=sz) (wt:=wt) (bu:=bu) (ch:=ch) (ba:=ba) (nd:=nd) (se:=se) (wk:=wk) (an:=an) (cn:=cn) (fun b a h' l hq=>?_) hl
 exact bT (fun _ _ h=>h) (by omega) hin
 obtain⟨B',ls,hB,hf⟩:=hq
 obtain⟨L',ls',hi'⟩:=Q3 hi (by rw [q3];exact hk) GP.2 GP.1 (fun e=>by rw [PQ] at e;cases e) (fun _ c _ _ e=>by have h1:=Ii (c:=c);rw [e,PQ] at h1;cases h1) ls hB hf
 exact Rg (j:=⟨11,la,o,sz,wt,bu,ch,ba,nd,se,wk,some l,an,cn⟩) hs hi.sr ls' hi'
theorem adJ {h:AH} {L0 L:List Kn} {K:Nat} {la:Cl} {o:O} {sz wt bu ch:Int} {ba nd se:W} {wk:Option bm} {ku:Option cM} {an:An} {cn:W} (hi:kZ h L) (hs:lB L0 L) (hb:Ci L se ch) (c0:0 < ch) (c1:ch < 8)
 (hd:∀h pc,kZ h L->b9 bc (FA L0 o) K h (ES ⟨pc,la,o,sz,wt,ch,ch,se,nd,se,wk,ku,an,cn⟩)):b9 bc (FA L0 o) (K+2) h (br (aV (eP 8 ch)),⟨9,la,o,sz,wt,bu,ch,ba,nd,se,wk,ku,an,cn⟩):=by
 have e8:eP 8 ch=8+ch:=by unfold eP;rw [ma (by omega)]
 rw [e8]
 refine bB (dm (bU (by omega) (by omega)) ?_)
 show b9 bc _ (K+1) h (bc ⟨9,la,o,sz,wt,bu,ch,ba,nd,se,wk,ku,an,cn⟩ _)
 rw [ai2,e8]
 cases (h.rd (aV (8+ch))).af==0 with
 | false=>exact bT (fun _ _ h=>h) (by omega) (hd _ _ hi)
 | true =>
   refine bB (gG (bU (by omega) (by omega)) rfl ?_)
   show b9 bc _ K _ (bc ⟨10,la,o,sz,wt,bu,ch,ba,nd,se,wk,ku,an,cn⟩ _)
   rw [ae7]
   refine hd _ _ (TU hi c0 c1 ?_)
   obtain⟨y,hy,q1,q2,q3⟩:=hb
   exact⟨y,hy,q1,q2,q3⟩
theorem Vd {L0 L:List Kn} {n:Kn} (hs:lB L0 L) (hn:n.k % 2=0):lB L0 (mQ n L):=fun x hx=>by
 rw [g9,hs x hx]
 exact⟨fun h=>by rcases h with rfl | h<;>first | omega | exact h,.inr⟩
theorem SS:∀w b:Fin 8,jF (w.val:Int) (b.val:Int)=true->o9 (b.val:Int)<=o9 (w.val:Int):=by decide
theorem Yf {w b:Int} (h:jF w b=true):o9 b<=o9 w:=by
 obtain⟨h1,h2,h3,h4⟩:=mc h
 have:=SS ⟨w.toNat,by omega⟩ ⟨b.toNat,by omega⟩
 have e1:((w.toNat:Nat):Int)=w:=by omega
 have e2:((b.toNat:Nat):Int)=b:=by omega
 dsimp only at this
 rw [e1,e2] at this
 exact this h
theorem A5 {L0:List Kn} {o:O} {M:Nat} (hM:∀{h:AH} {L:List Kn},kZ h L->lB L0 L->L.length<=M) (ho:o.aj=6 \/ o.aj=7 \/ o.aj=8) {wt:Int} (hk:∀b,jF wt b=true->dN b < kF o.key):∀(d:Nat) {h:AH} {L:List Kn} {pc:Int} {la:Cl} {sz bu ch:Int} {ba nd se:W} {wk:Option bm} {ku:Option cM} {an:An} {cn:W},kZ h L->lB L0 L->Ci L ba bu->jF wt bu=true->o9 wt=o9 bu+d ->
 b9 bc (FA L0 o) (10 * M+130+(10 * M+40) * d) h (ES ⟨pc,la,o,sz,wt,bu,ch,ba,nd,se,wk,ku,an,cn⟩)
 | d,h,L,pc,la,sz,bu,ch,ba,nd,se,wk,ku,an,cn,hi,hs,hb,hw,hd=>by
   unfold ES
   dsimp only
   by_cases e:bu=wt
   ·rw [if_pos e]
    exact bT (fun _ _ h=>h) (Nat.le_add_right _ _) (GL (j:=⟨pc,la,o,sz,wt,bu,ch,ba,nd,se,wk,ku,an,cn⟩) hi hs hb (hk _ hw) ho hM)
   ·rw [if_neg e]
    rcases RR hw with e' | ⟨p1,p2,p3⟩
    ·exact absurd e' e
    generalize hc:jU 4 wt bu=c at *
    have c0:0 < c:=by
     have:=(mc p1).2.2.1
     by_cases ez:c=0
     ·subst ez;rw [show o9 0=0 from rfl] at p3;omega
     ·omega
    have c8:c < 8:=(mc p1).2.2.2
    cases d with
    | zero =>
      have:=Yf p1
      omega
    | succ d =>
    have M1:=hb
    obtain⟨y,hy,q1,q2,q3⟩:=hb
    have y1:=fO hi.li y hy
    rw [show 10 * M+130+(10 * M+40) * (d+1)=(10 * M+130+(10 * M+40) * d+(10 * M+37))+1+2 by rw [Nat.mul_succ];omega]
    refine zm (qX ?_ fun n h1 hf=>?_)
    ·show b9 bc _ _ h (bc ⟨3,la,o,sz,wt,bu,c,ba,nd,se,wk,ku,an,cn⟩ ⟨ao,false⟩)
     rw [ac0]
     exact bT (fun _ _ h=>h) (by omega:10 * M+130<=_) (GL (j:=⟨3,la,o,sz,wt,bu,c,ba,nd,se,wk,ku,an,cn⟩) hi hs M1 (hk _ hw) ho hM)
    have zG:(h.new n.af n.gen).lv n.af n.gen:=by show if n.af=n.af then n.gen=n.gen else _;rw [if_pos rfl]
    have F7:∀x∈L,x.s≠n.af:=fun x hx e=>hf x.g (e▸(fO hi.li x hx).2)
    show b9 bc _ _ _ (bc ⟨3,la,o,sz,wt,bu,c,ba,nd,se,wk,ku,an,cn⟩ ⟨n,true⟩)
    rw [ac0]
    show b9 bc _ _ _ (cO (ay n 0) (dX (dN c)),⟨4,la,o,sz,wt,bu,c,ba,n,se,wk,ku,an,cn⟩)
    refine bB (gS (aZ h1 zG (by decide) (by decide)) ?_)
    generalize e1:(h.new n.af n.gen).wr (ay n 0) (dX (dN c))=h2
    have b2:h2.bd=h.bd:=by subst e1;rw [tj h1];rfl
    have c2:∀y k,y≠n.af->h2.cl y k=h.cl y k:=fun y k hy=>by subst e1;rw [gb h1,if_neg fun e=>hy e.1,AH.mH,if_neg hy]
    have l2:∀y g,y≠n.af->(h2.lv y g↔h.lv y g):=fun y g hy=>by subst e1;rw [de,Aw,if_neg hy]
    have Tw:h2.lv n.af n.gen:=by subst e1;rw [de];exact zG
    have n0:(h2.cl n.af 0).bS=dN c:=by subst e1;rw [gb h1,if_pos ⟨rfl,rfl⟩];rfl
    have nv:(h2.cl n.af 1).bS=0:=by subst e1;rw [gb h1,if_neg (by rintro ⟨_,e⟩;cases e),AH.mH,if_pos rfl];rfl
    clear e1
    have Tz:kZ h2 L:=Iy hi (fun x hx hl=>⟨(l2 _ _ (F7 x hx)).2 hl,c2 _ _ (F7 x hx),c2 _ _ (F7 x hx),c2 _ _ (F7 x hx)⟩) fun c _ _=>by rw [b2]
    obtain⟨A,B,rfl⟩:=List.append_of_mem hy
    have zb:=Kj Tz
    have hlen:=hM hi hs
    rw [abl,abn] at hlen
    have hsB:∀x∈B,x.s≠n.af:=fun x hx=>F7 x (by simp [hx])
    have Js:y.s≠n.af:=F7 y hy
    show b9 bc _ _ h2 (bc ⟨4,la,o,sz,wt,bu,c,ba,n,se,wk,ku,an,cn⟩ ⟨ao,true⟩)
    rw [ai7,HE q1 q2]
    refine bT (fun _ _ h=>h) (by omega:(10 * B.length+6)+(10 * M+130+(10 * M+40) * d+10)<=_) (Cn (J:=fun w=>⟨5,la,o,sz,wt,bu,c,ba,n,se,some w,ku,an,cn⟩) (co:=M6 ⟨5,la,o,sz,wt,bu,c,ba,n,se,none,ku,an,cn⟩) ai6 (fun w hwp=>?_) (ye zb.va zb.li))
    have qe:=nZ zb.li hwp
    unfold M6
    cases bC:At (dN c) B with
    | some x0 =>
      rw [bC] at qe
      obtain⟨fd,f1,f2,_⟩:=qe
      rw [fd]
      have hx0:=Fg bC
      have hbs:Ci (A++y::B) (dv w.cur) c:=⟨x0,by simp [hx0.1],f1,f2,hx0.2⟩
      refine bB (Iu h1 Tw ?_)
      have hi3:kZ (h2.JM n.af) (A++y::B):=Iy Tz (fun x hx hl=>⟨⟨F7 x hx,hl⟩,rfl,rfl,rfl⟩) fun _ _ _=>rfl
      show b9 bc _ _ _ (bc ⟨6,la,o,sz,wt,bu,c,ba,n,dv w.cur,some w,ku,an,cn⟩ ⟨ao,true⟩)
      rw [ai5]
      exact bT (fun _ _ h=>h) (by omega:10 * M+130+(10 * M+40) * d+2<=_) (adJ hi3 hs hbs c0 c8 fun h pc hi=>A5 hM ho hk d hi hs hbs p1 (by omega))
    | none =>
      rw [bC] at qe
      have qe:w.found=false:=qe
      rw [qe]
      refine bB (gS (aZ h1 Tw (by decide) (by decide)) ?_)
      obtain⟨⟨v1,v2⟩,k1,k2,k3,k4⟩:=aaY zb h1 Tw n0 nv Js hsB hwp
      show b9 bc _ _ _ (bc ⟨7,la,o,sz,wt,bu,c,ba,n,se,some w,ku,an,cn⟩ ⟨ao,true⟩)
      rw [ai4]
      refine bB (gG v1 v2 ?_)
      show b9 bc _ _ _ (bc ⟨8,la,o,sz,wt,bu,c,ba,n,se,some w,ku,an,cn⟩ ⟨w.cur,true⟩)
      rw [ai3]
      generalize (h2.wr (ay n 2) (dv w.cur)).wr w.prev (iC w.cur n)=h3 at k1 k2 k3 k4 ⊢
      obtain⟨e1,e2,e3⟩:=Fi (key:=dN c) (y:=y) (by rw [q3];exact p2) hi.sr
      have ey:=e3 ⟨n.af,n.gen,dN c,0⟩ rfl
      have hi3:kZ h3 (A++y::mQ ⟨n.af,n.gen,dN c,0⟩ B):=by
       refine mX hi k1 ⟨fun s g hl _=>?_,fun s g f s1 hl Ho dA=>?_,fun f dA=>by rw [k4 f dA,b2]⟩ (fun z hz=>?_) ?_ (fun x hx=>?_) fun x hx _=>g9.2 (.inr hx)
       ·rw [k2];exact(l2 _ _ fun e=>hf g (e▸hl)).2 hl
       ·have F7:s≠n.af:=fun e=>hf g (e▸hl)
        rw [k3 s f s1 F7 Ho dA,c2 _ _ F7]
       ·rcases g9.1 hz with rfl | hz
        ·exact .inr hf
        ·exact .inl hz
       ·rw [<- ey];exact Ct hi.sr (by show At (dN c) _=none;rw [e1];exact bC)
       ·rcases g9.1 hx with rfl | hx
        ·exact⟨E8.1,E8.2,fun _=>acv⟩
        ·exact hi.rg x (by simp [hx])
      rw [<- ey] at hi3
      have hbs:Ci (mQ ⟨n.af,n.gen,dN c,0⟩ (A++y::B)) n c:=⟨_,g9.2 (.inl rfl),rfl,rfl,rfl⟩
      have hs3:=Vd (n:=⟨n.af,n.gen,dN c,0⟩) hs Ii
      exact bT (fun _ _ h=>h) (by omega:10 * M+130+(10 * M+40) * d+2<=_) (adJ hi3 hs3 hbs c0 c8 fun h pc hi=>A5 hM ho hk d hi hs3 hbs p1 (by omega))
theorem aeD (w:Int):o9 w<=3:=by
 unfold o9
 repeat' split
 all_goals decide
theorem aaD:∀w b:Fin 8,jF (w.val:Int) (b.val:Int)=true->(b.val:Int)≠0->jF (w.val:Int) (qG (b.val:Int))=true /\ o9 (qG (b.val:Int))+1=o9 (b.val:Int):=by decide
theorem RS {w b:Int} (h:jF w b=true) (hb:b≠0):jF w (qG b)=true /\ o9 (qG b)+1=o9 b:=by
 obtain⟨h1,h2,h3,h4⟩:=mc h
 have:=aaD ⟨w.toNat,by omega⟩ ⟨b.toNat,by omega⟩
 have e1:((w.toNat:Nat):Int)=w:=by omega
 have e2:((b.toNat:Nat):Int)=b:=by omega
 dsimp only at this
 rw [e1,e2] at this
 exact this h hb
theorem Va:∀w:Fin 8,jF (w.val:Int) (w.val:Int)=true:=by decide
theorem Z5 {w:Int} (h0:0<=w) (h8:w < 8):jF w w=true:=by
 have:=Va ⟨w.toNat,by omega⟩
 have e1:((w.toNat:Nat):Int)=w:=by omega
 dsimp only at this
 rwa [e1] at this
theorem Gx {h:AH} {L:List Kn} {o:O} {M:Nat} (hM:∀{h:AH} {L':List Kn},kZ h L'->lB L L'->L'.length<=M) (hi:kZ h L) (ho:o.aj=6 \/ o.aj=7 \/ o.aj=8) {wt:Int} (hk:∀b,jF wt b=true->dN b < kF o.key):∀(d:Nat) {bu:Int} {la:Cl} {sz ch:Int} {ba nd se:W} {wk:Option bm} {ku:Option cM} {an:An} {cn:W},jF wt bu=true->o9 bu<=d ->
 b9 bc (FA L o) (40 * M+250+d+1) h (br (aV (eP 8 bu)),⟨2,la,o,sz,wt,bu,ch,ba,nd,se,wk,ku,an,cn⟩)
 | d,bu,la,sz,ch,ba,nd,se,wk,ku,an,cn,hw,hd=>by
   obtain⟨w0,w8,b0,b8⟩:=mc hw
   have e8:eP 8 bu=8+bu:=by unfold eP;rw [ma (by omega)]
   rw [e8]
   refine bB (dm (bU (by omega) (by omega)) ?_)
   show b9 bc _ (40 * M+250+d) h (bc ⟨2,la,o,sz,wt,bu,ch,ba,nd,se,wk,ku,an,cn⟩ ⟨h.bd (8+bu),true⟩)
   rw [ai8]
   have fq:∀{w:W},Ci L w bu->1<=w.af:=fun⟨y,hy,q1,_⟩=>by rw [q1];exact(fO hi.li y hy).1
   by_cases hz:(h.bd (8+bu)).af=0
   ·rw [jP hz]
    have dA:bu≠0:=fun e=>by
     subst e
     have:=fq hi.b0
     rw [show (8:Int)+0=8 from rfl] at hz
     omega
    show b9 bc _ (40 * M+250+d) h (if bu=0 then _ else _)
    rw [if_neg dA]
    obtain⟨p1,p2⟩:=RS hw dA
    cases d with
    | zero=>omega
    | succ d=>exact Gx hM hi ho hk d p1 (by omega)
   ·rw [gp (by rcases hi.bk bu b0 b8 with q | q<;>first | exact absurd q hz | exact fq q)]
    have hb:Ci L (h.bd (8+bu)) bu:=(hi.bk bu b0 b8).resolve_left hz
    have hdw:=Yf hw
    have h3:=aeD wt
    show b9 bc _ (40 * M+250+d) h (ES ⟨2,la,o,sz,wt,bu,ch,h.bd (8+bu),nd,se,wk,ku,an,cn⟩)
    exact bT (fun _ _ h=>h) (by have:=adV (10 * M+40) (show o9 wt - o9 bu<=3 by omega);omega:10 * M+130+(10 * M+40) * (o9 wt - o9 bu)<=_) (A5 hM ho hk (o9 wt - o9 bu) hi (fun x _=>Iff.rfl) hb hw (by omega))
theorem T0 {h:AH} {L:List Kn} (hi:kZ h L) {o:O} (ho:o.aj=6 \/ o.aj=7 \/ o.aj=8) (hk:DJ o.key=true) {M:Nat} (hM:∀{h:AH} {L':List Kn},kZ h L'->lB L L'->L'.length<=M) (x:cr):b9 bc (FA L o) (40 * M+260) h (bc (G2 o) x):=by
 show b9 bc _ (40 * M+259+1) h (br (aV 16),⟨1,aW,o,0,0,0,0,ao,ao,ao,none,none,⟨0,0⟩,ao⟩)
 refine bB (dm (bU (by decide) (by decide)) ?_)
 show b9 bc _ (40 * M+259) h (bc ⟨1,aW,o,0,0,0,0,ao,ao,ao,none,none,⟨0,0⟩,ao⟩ ⟨h.bd 16,true⟩)
 rw [ai9]
 have hw:jF (Int.tmod o.key (tE (h.bd 16).bS)) (Int.tmod o.key (tE (h.bd 16).bS))=true:=by
  have hk:0<=o.key /\ o.key < 256:=aaV hk
  have h1:0<=Int.tmod o.key (tE (h.bd 16).bS):=Int.tmod_nonneg _ hk.1
  have h2:Int.tmod o.key (tE (h.bd 16).bS) < tE (h.bd 16).bS:=Int.tmod_lt_of_pos o.key (by rcases q9 (h.bd 16).bS with h | h | h | h<;>omega)
  exact Z5 h1 (by rcases q9 (h.bd 16).bS with h | h | h | h<;>omega)
 have h3:=aeD (Int.tmod o.key (tE (h.bd 16).bS))
 exact bT (fun _ _ h=>h) (by omega:40 * M+250+3+1<=40 * M+259) (Gx hM hi ho (fun b hb=>Sm hk hb) 3 hw h3)
end
section
open Go Go.Sx Go.Proofs AH
structure Sn where
 s:Int
 g:Int
 k:Int
 v:Int
 t:Int
def Sn.cW (x:Sn) (f:Int):Ad:=⟨x.s,x.g,f⟩
def qm (h:AH) (f:Int):W->List Sn->Prop
 | w,[]=>w.af=0 /\ w.mark=false
 | w,x::l=>w.af=x.s /\ w.gen=x.g /\ w.mark=false /\ 1<=x.s /\ h.lv x.s x.g /\ (h.cl x.s 0).bS=x.k /\ qm h f (h.cl x.s f) l
def fa (h:AH) (f BS:Int):Ad->List Sn->Ad->W->Int->Prop
 | a,[],p,c,k=>p=a /\ c=h.rd a
 | a,x::l,p,c,k=>if BS<=x.k then p=a /\ c=h.rd a /\ k=x.k else fa h f BS (x.cW f) l p c k
def FE (Q:aN->AH->Prop):Nat->Nat->AH->(Cl×Bool)×aN->Prop
 | 0,_,_,_=>False
 | f+1,k,h,r=>(r.1.2=false /\ Q r.2 h) \/ (r.1.2=true /\ tq r.1.1.aj<=k /\ r.1.1.aj≠10 /\ h.Wp r.1.1 fun x h'=>FE Q f (k - tq r.1.1.aj) h' (aH r.2 x))
def dP (Q:aN->AH->Prop) (k:Nat) (h:AH) (r:(Cl×Bool)×aN):Prop:=FE Q (k+1) k h r
theorem u6 {Q Q':aN->AH->Prop} (hq:∀w h,Q w h->Q' w h):∀{f f' k k':Nat} {h:AH} {r:(Cl×Bool)×aN},f<=f'->k<=k'->FE Q f k h r->FE Q' f' k' h r
 | 0,_,_,_,_,_,_,_,hh=>hh.elim
 | f+1,0,_,_,_,_,hle,_,_=>by omega
 | f+1,f'+1,k,k',h,r,hle,hk,hh=>by
   rcases hh with⟨e,q⟩ | ⟨e,hn,ht,hw⟩
   ·exact .inl ⟨e,hq _ _ q⟩
   ·exact .inr ⟨e,abL hn hk,ht,AH.wp_mono (fun x h' hx=>u6 hq (by omega) (by omega) hx) hw⟩
theorem dk {Q Q':aN->AH->Prop} (hq:∀w h,Q w h->Q' w h) {k k':Nat} {h:AH} {r:(Cl×Bool)×aN} (hk:k<=k') (hh:dP Q k h r):dP Q' k' h r:=u6 hq (by omega) hk hh
theorem QO {Q:aN->AH->Prop} {h:AH} {k w:Nat} {r:(Cl×Bool)×aN} (ht:r.1.1.aj≠10) (e:r.1.2=true) (ew:tq r.1.1.aj<=w) (hw:h.Wp r.1.1 fun x h'=>dP Q k h' (aH r.2 x)):dP Q (k+w) h r:=by
 have:=Cm r.1.1.aj
 exact .inr ⟨e,by omega,ht,AH.wp_mono (fun x h' hx=>u6 (fun _ _ h=>h) (by omega) (by omega) hx) hw⟩
theorem hI {Q:aN->AH->Prop} {h:AH} {k:Nat} {r:(Cl×Bool)×aN} (e:r.1.2=true) (hw:h.Wp r.1.1 fun x h'=>dP Q k h' (aH r.2 x)) (ew:tq r.1.1.aj=1:=by rfl):dP Q (k+1) h r:=QO (xk (by omega)) e (by omega) hw
theorem zt {Q:aN->AH->Prop} {h:AH} {k:Nat} {r:(Cl×Bool)×aN} (e:r.1.2=true) (hw:h.Wp r.1.1 fun x h'=>dP Q k h' (aH r.2 x)) (ew:tq r.1.1.aj=5:=by rfl):dP Q (k+5) h r:=QO (xk (by omega)) e (by omega) hw
theorem xZ {Q:aN->AH->Prop} {h:AH} {k:Nat} {r:(Cl×Bool)×aN} (e:r.1.2=false) (q:Q r.2 h):dP Q k h r:=.inl ⟨e,q⟩
theorem uZ {α:Type} {na:α->cr->Cl×α} {Q:An->AH->Prop} {Qw:aN->AH->Prop} {J:aN->α} {co:aN->Cl×α} {K:Nat} (hJ:∀w x,na (J w) x=cond (aH w x).1.2 ((aH w x).1.1,J (aH w x).2) (co (aH w x).2)) (hc:∀w h,Qw w h->b9 na Q K h (co w))
 {k:Nat} {h:AH} {w:aN} {x:cr} (hw:dP Qw k h (aH w x)):b9 na Q (k+K) h (na (J w) x):=by
 have go:∀{f k:Nat} {h:AH} {w:aN} {x:cr},FE Qw f k h (aH w x)->oT na Q true (f+K+1) (k+K) h (na (J w) x):=fun {f}=>by
  induction f with
  | zero=>exact fun hw=>hw.elim
  | succ f ih =>
    intro k h w x hw
    rw [hJ]
    rcases hw with⟨e,q⟩ | ⟨e,hn,ht,hw⟩
    ·rw [e];exact eK (fun _ _ h=>h) (by omega) (by omega) id (hc _ _ q)
    ·rw [e,show f+1+K+1=(f+K+1)+1 by omega]
     refine xS ht (abL hn (by omega)) (AH.wp_mono (fun x h' hx=>?_) hw)
     exact eK (fun _ _ h=>h) (abV _) (by show _<=k+K - tq (aH w _).1.1.aj;omega) id (ih hx)
 exact pX (go hw)
def mz (c:aN):(Cl×Bool)×aN :=
 if c.level=0 then cond (gC (!(c.cur.af==0)) (c.k==c.BS)) ((aW,false),{c with eo:=S3.put c.eo c.level c.prev c.cur,pc:=-1,found:=dv c.cur}) ((aW,false),{c with eo:=S3.put c.eo c.level c.prev c.cur,pc:=-1})
 else cond (c.prev.s==0) ((bF (aV (c.level - 1)) (3 * (c.level - 1)+1),true),{c with eo:=S3.put c.eo c.level c.prev c.cur,level:=c.level - 1,prev:=aV (c.level - 1),pc:=2})
  ((oL (3 * (c.level - 1)+2) (3 * (c.level - 1)+5),true),{c with eo:=S3.put c.eo c.level c.prev c.cur,level:=c.level - 1,prev:={c.prev with f:=2+(c.level - 1)},pc:=9})
def onC (c:aN):(Cl×Bool)×aN:=cond (c.cur.af==0) (mz c) ((oL (3 * c.level+1) (3 * c.level),true),{c with pc:=8})
section
variable {la:Cl} {pv:Ad} {cu nx:W} {bd lv k:Int} {sp:S3} {fd:W}
theorem anE {w:W} (hm:w.mark=false):aH ⟨2,la,pv,cu,bd,lv,nx,k,sp,fd⟩ ⟨w,true⟩=cond (w.af==0) (mz ⟨2,la,pv,w,bd,lv,nx,k,sp,fd⟩) ((bF (ay w (2+lv)) (3 * lv),true),⟨3,la,pv,w,bd,lv,nx,k,sp,fd⟩):=by
 unfold aH mG;dsimp only;rw [hm];rfl
theorem anD (x:cr):aH ⟨3,la,pv,cu,bd,lv,nx,k,sp,fd⟩ x=((br (ay cu 0),true),⟨4,la,pv,cu,bd,lv,x.w,k,sp,fd⟩):=rfl
theorem anC (x:cr):aH ⟨4,la,pv,cu,bd,lv,nx,k,sp,fd⟩ x=((br pv,true),⟨5,la,pv,cu,bd,lv,nx,x.w.bS,sp,fd⟩):=rfl
theorem anB (hm:nx.mark=false):aH ⟨5,la,pv,cu,bd,lv,nx,k,sp,fd⟩ ⟨cu,true⟩=cond (decide (k>=bd)) (mz ⟨5,la,pv,cu,bd,lv,nx,k,sp,fd⟩) ((oL (3 * lv+2) (3 * lv+1),true),⟨7,la,ay cu (2+lv),cu,bd,lv,nx,k,sp,fd⟩):=by
 unfold aH mG;dsimp only;rw [m6,hm];rfl
theorem anA (hm:nx.mark=true):aH ⟨5,la,pv,cu,bd,lv,nx,k,sp,fd⟩ ⟨cu,true⟩=((b5 pv cu (iC cu nx),true),⟨6,la,pv,cu,bd,lv,nx,k,sp,fd⟩):=by
 unfold aH mG;dsimp only;rw [m6,hm];rfl
theorem asb (w:W):aH ⟨6,la,pv,cu,bd,lv,nx,k,sp,fd⟩ ⟨w,true⟩=onC ⟨6,la,pv,iC cu nx,bd,lv,nx,k,sp,fd⟩:=rfl
theorem anz (x:cr):aH ⟨7,la,pv,cu,bd,lv,nx,k,sp,fd⟩ x=onC ⟨7,la,pv,nx,bd,lv,nx,k,sp,fd⟩:=rfl
theorem ahV (x:cr):aH ⟨8,la,pv,cu,bd,lv,nx,k,sp,fd⟩ x=((bF (ay cu (2+lv)) (3 * lv),true),⟨3,la,pv,cu,bd,lv,nx,k,sp,fd⟩):=rfl
end
theorem vB {h:AH} {f:Int} {l:List Sn} {w w':W} (hl:qm h f w l) (e1:w'.af=w.af) (e2:w'.gen=w.gen) (e3:w'.mark=false):qm h f w' l:=by
 cases l with
 | nil=>exact⟨e1.trans hl.1,e3⟩
 | cons x l=>exact⟨e1.trans hl.1,e2.trans hl.2.1,e3,hl.2.2.2⟩
theorem zY {h:AH} {f:Int} {l:List Sn} {w:W} (hl:qm h f w l):w.mark=false:=by
 cases l with
 | nil=>exact hl.2
 | cons x l=>exact hl.2.2.1
section
variable {Q:aN->AH->Prop} {K:Nat} {h:AH} {la:Cl} {bd lv:Int} {sp:S3} {fd:W}
theorem Oc (l0:0<=lv) (l2:lv<=2):∀{l:List Sn} {x:Sn} {pv:Ad} {cu nx:W} {k:Int},qm h (2+lv) cu (x::l)->h.bG pv->h.rd pv=cu ->
 (∀pc p c nx k,fa h (2+lv) bd pv (x::l) p c k->dP Q K h (mz ⟨pc,la,p,c,bd,lv,nx,k,sp,fd⟩)) ->
 dP Q (10 * (l.length+1)+K) h ((bF (ay cu (2+lv)) (3 * lv),true),⟨3,la,pv,cu,bd,lv,nx,k,sp,fd⟩)
 | l,x,pv,cu,nx,k,⟨a,b,m,c,d,e0,f⟩,hv,hr,hK=>by
   have QK:1<=cu.af:=by omega
   have cul:h.lv cu.af cu.gen:=by rw [a,b];exact d
   rw [show 10 * (l.length+1)+K=(10 * l.length+2+K)+1+1+1+5 by omega]
   have n2:h.rd (ay cu (2+lv))=h.cl x.s (2+lv):=by rw [dJ QK,a]
   have n0:(h.rd (ay cu 0)).bS=x.k:=by rw [dJ QK,a];exact e0
   refine zt rfl (gj (aZ QK cul (by omega) (by omega)) ?_)
   rw [n2]
   generalize en:h.cl x.s (2+lv)=w2 at *
   have m2:=zY f
   show dP Q _ h (aH ⟨3,la,pv,cu,bd,lv,nx,k,sp,fd⟩ ⟨w2,true⟩)
   rw [anD]
   refine hI rfl (dm (aZ QK cul (by decide) (by decide)) ?_)
   show dP Q _ h (aH ⟨4,la,pv,cu,bd,lv,w2,k,sp,fd⟩ ⟨h.rd (ay cu 0),true⟩)
   rw [anC]
   refine hI rfl (dm hv ?_)
   show dP Q _ h (aH ⟨5,la,pv,cu,bd,lv,w2,(h.rd (ay cu 0)).bS,sp,fd⟩ ⟨h.rd pv,true⟩)
   rw [hr,n0,anB m2]
   by_cases hk:x.k>=bd
   ·rw [aaS hk]
    refine dk (fun _ _ h=>h) (by omega:K<=_) (hK _ _ _ _ _ ?_)
    unfold fa
    rw [if_pos hk]
    exact⟨rfl,hr.symm,rfl⟩
   ·rw [aaZ hk]
    have ea:ay cu (2+lv)=x.cW (2+lv):=by unfold ay Sn.cW;rw [a,b]
    have BF:∀p c k,fa h (2+lv) bd (x.cW (2+lv)) l p c k->fa h (2+lv) bd pv (x::l) p c k:=fun p c k hw=>by
     unfold fa;rw [if_neg hk];exact hw
    refine hI rfl (mb ?_)
    show dP Q (10 * l.length+2+K) h (aH ⟨7,la,ay cu (2+lv),cu,bd,lv,w2,x.k,sp,fd⟩ ⟨ao,true⟩)
    rw [anz,ea]
    unfold onC
    dsimp only
    cases l with
    | nil =>
      rw [jP f.1]
      exact dk (fun _ _ h=>h) (by omega:K<=_) (hK _ _ _ _ _ (BF _ _ _ ⟨rfl,by rw [<- ea];exact n2.symm⟩))
    | cons y l =>
      rw [gp (by have:=f.1;have:=f.2.2.2.1;omega)]
      refine dk (fun _ _ h=>h) (by rw [abn];omega:(10 * (l.length+1)+K)+1<=_) (hI rfl (mb ?_))
      show dP Q _ h (aH ⟨8,la,x.cW (2+lv),w2,bd,lv,w2,x.k,sp,fd⟩ ⟨ao,true⟩)
      rw [ahV]
      exact Oc l0 l2 f (.inr ⟨c,d,by show 0<=2+lv;omega,by show 2+lv < 8;omega⟩) (by rw [<- ea];exact n2) fun pc p c nx k hp=>hK _ _ _ _ _ (BF _ _ _ hp)
theorem CF (l0:0<=lv) (l2:lv<=2) {l:List Sn} {pv:Ad} {cu nx:W} {k i:Int} (hv:h.bG pv) (hl:qm h (2+lv) (h.rd pv) l)
 (hK:∀pc p c nx k,fa h (2+lv) bd pv l p c k->dP Q K h (mz ⟨pc,la,p,c,bd,lv,nx,k,sp,fd⟩)):dP Q (10 * l.length+5+K) h ((bF pv i,true),⟨2,la,pv,cu,bd,lv,nx,k,sp,fd⟩):=by
 rw [show 10 * l.length+5+K=(10 * l.length+K)+5 by omega]
 refine zt rfl (gj hv ?_)
 show dP Q _ h (aH ⟨2,la,pv,cu,bd,lv,nx,k,sp,fd⟩ ⟨h.rd pv,true⟩)
 rw [anE (zY hl)]
 cases l with
 | nil =>
   rw [jP hl.1]
   exact dk (fun _ _ h=>h) (by omega:K<=_) (hK _ _ _ _ _ ⟨rfl,rfl⟩)
 | cons y l =>
   rw [gp (by have:=hl.1;have:=hl.2.2.2.1;omega)]
   exact Oc l0 l2 hl hv rfl hK
end
end
section
open Go Go.Sx Go.Proofs AH
def qt (m:Int) (L:List Sn):List Sn:=L.filter fun x=>decide (m < x.t)
def BX (l:List Sn):Prop:=l.Pairwise fun a b=>a.k < b.k
theorem Jl {m:Int} {L:List Sn} (h:BX L):BX (qt m L):=List.Pairwise.sublist aeW h
theorem eI {m:Int} {L:List Sn} {x:Sn}:x∈qt m L↔x∈L /\ m < x.t:=by unfold qt;rw [agS,decide_eq_true_eq]
theorem CD {m:Int} {L:List Sn}:(qt m L).length<=L.length:=List.length_filter_le _ _
structure ke (h:AH) (L:List Sn):Prop where
 QT:∀m,0<=m->m<=2->qm h (2+m) (h.bd m) (qt m L)
 nd:(L.map Sn.s).Nodup
 sr:BX L
 da:∀x∈L,(h.cl x.s 1).bS=x.v /\ (h.cl x.s 6).bS=x.t /\ (h.cl x.s 7).bS≠0 /\ 1<=x.t /\ x.t<=3
 rg:∀x∈L,0<=x.k /\ x.k < 256
theorem Wx {h:AH} {L:List Sn} (hi:ke h L):qt 0 L=L:=List.filter_eq_self.2 fun x hx=>aaS (by have:=hi.da x hx;omega)
theorem ua {h:AH} {f:Int} {y:Sn} {B:List Sn}:∀{A:List Sn} {w:W},qm h f w (A++y::B)->qm h f (h.cl y.s f) B /\ 1<=y.s /\ h.lv y.s y.g
 | [],w,⟨a,b,m,c,d,e0,fo⟩=>⟨fo,c,d⟩
 | x::A,w,⟨a,b,m,c,d,e0,fo⟩=>ua fo
theorem yy {h:AH} {f:Int} {l:List Sn} {w:W} (hl:qm h f w l) {x:Sn} (hx:x∈l):1<=x.s /\ h.lv x.s x.g:=by
 obtain⟨A,B,rfl⟩:=List.append_of_mem hx
 exact(ua hl).2
theorem Ba {h:AH} {f bd:Int} {y:Sn} {B:List Sn} {p:Ad} {c:W} {k:Int} (hy:y.k < bd) (hw:fa h f bd (y.cW f) B p c k):∀{A:List Sn} {a:Ad},BX (A++y::B)->fa h f bd a (A++y::B) p c k
 | [],a,_=>by show fa h f bd a (y::B) p c k;unfold fa;rw [if_neg (by omega)];exact hw
 | x::A,a,hs=>by
   rw [adF] at hs ⊢
   unfold BX at hs
   rw [aeo] at hs
   have:=hs.1 y (by simp)
   unfold fa
   rw [if_neg (by omega)]
   exact Ba hy hw hs.2
theorem gz {h:AH} {f bd:Int} {p:Ad} {c:W} {k:Int}:∀{l:List Sn} {a:Ad},fa h f bd a l p c k->(p=a \/ ∃x∈l,x.k < bd /\ p=x.cW f) /\ c=h.rd p
 | [],a,hw=>⟨.inl hw.1,by rw [hw.1];exact hw.2⟩
 | x::l,a,hw=>by
   unfold fa at hw
   by_cases hk:bd<=x.k
   ·rw [if_pos hk] at hw;exact⟨.inl hw.1,by rw [hw.1];exact hw.2.1⟩
   ·rw [if_neg hk] at hw
    obtain⟨h1,h2⟩:=gz hw
    refine⟨?_,h2⟩
    rcases h1 with h1 | ⟨y,hy,h1⟩
    ·exact .inr ⟨x,abw,by omega,h1⟩
    ·exact .inr ⟨y,aby _ hy,h1⟩
def Gf (key:Int):List Sn->Option Sn
 | []=>none
 | x::l=>if key<=x.k then(if x.k=key then some x else none) else Gf key l
theorem BN {h:AH} {f bd:Int} {p:Ad} {c:W} {k:Int}:∀{l:List Sn} {a:Ad},qm h f (h.rd a) l->f=2->fa h f bd a l p c k->match Gf bd l with
  | none=>gC (!(c.af==0)) (k==bd)=false
  | some x=>gC (!(c.af==0)) (k==bd)=true /\ c.af=x.s /\ c.gen=x.g
 | [],a,hl,hf,hw=>by
   show gC (!(c.af==0)) (k==bd)=false
   rw [hw.2,jP hl.1];rfl
 | x::l,a,⟨q1,q2,m,cc,d,e0,fo⟩,hf,hw=>by
   unfold fa at hw
   unfold Gf
   by_cases hk:bd<=x.k
   ·rw [if_pos hk] at hw ⊢
    obtain⟨w1,w2,w3⟩:=hw
    have hc:c.af=x.s:=by rw [w2];exact q1
    rw [gp (by omega:1<=c.af),w3]
    by_cases he:x.k=bd
    ·rw [if_pos he]
     exact⟨by rw [he];show (bd==bd)=true;simp,hc,by rw [w2];exact q2⟩
    ·rw [if_neg he]
     show (x.k==bd)=false
     simpa using he
   ·rw [if_neg hk] at hw ⊢
    exact BN (a:=x.cW f) (by unfold rd;rw [if_neg (by show ¬x.s=0;omega)];exact fo) hf hw
def qc (h:AH) (bd:Int) (L:List Sn) (m:Int) (p:Ad) (c:W):Prop:=∃k,fa h (2+m) bd (aV m) (qt m L) p c k
structure vl (h:AH) (bd:Int) (L:List Sn) (c:aN):Prop where
 s0:qc h bd L 0 c.eo.p0 c.eo.c0
 s1:qc h bd L 1 c.eo.p1 c.eo.c1
 s2:qc h bd L 2 c.eo.p2 c.eo.c2
 fo:match Gf bd L with
  | none=>c.found=ao
  | some x=>c.found=⟨x.s,x.g,0,0,false⟩
def Start (bd:Int) (L:List Sn) (m:Int) (pv:Ad) (l:List Sn):Prop:=(pv=aV m /\ l=qt m L) \/ ∃x A,qt m L=A++x::l /\ pv=x.cW (2+m) /\ x.k < bd
section
variable {h:AH} {L:List Sn} {bd m:Int} {pv:Ad} {l:List Sn}
theorem Dg (hi:ke h L) (m0:0<=m) (m2:m<=2) (hs:Start bd L m pv l):h.bG pv /\ qm h (2+m) (h.rd pv) l /\ l.length<=L.length /\ ∀p c k,fa h (2+m) bd pv l p c k->fa h (2+m) bd (aV m) (qt m L) p c k:=by
 rcases hs with⟨rfl,rfl⟩ | ⟨x,A,e,rfl,hk⟩
 ·exact⟨bU m0 (by omega),hi.QT m m0 m2,CD,fun _ _ _ h=>h⟩
 ·have h1:=hi.QT m m0 m2
  rw [e] at h1
  obtain⟨s1,s2,s3⟩:=ua h1
  refine⟨.inr ⟨s2,s3,by show 0<=2+m;omega,by show 2+m < 8;omega⟩,?_,?_,fun p c k hp=>?_⟩
  ·unfold rd;rw [if_neg (by show ¬x.s=0;omega)];exact s1
  ·have:=CD (m:=m) (L:=L);rw [e,abl,abn] at this;omega
  ·rw [e];exact Ba hk hp (e▸Jl hi.sr)
theorem Dh (hi:ke h L) (m0:0<=m) (m2:m < 2) {p:Ad} {c:W} {k:Int} (hp:fa h (2+(m+1)) bd (aV (m+1)) (qt (m+1) L) p c k):(p.s=0 /\ Start bd L m (aV m) (qt m L)) \/ (1<=p.s /\ ∃l,Start bd L m {p with f:=2+m} l):=by
 rcases (gz hp).1 with rfl | ⟨x,hx,hk,rfl⟩
 ·exact .inl ⟨rfl,.inl ⟨rfl,rfl⟩⟩
 ·have hxs:=yy (hi.QT (m+1) (by omega) (by omega)) hx
  obtain⟨x1,x2⟩:=eI.1 hx
  obtain⟨A,B,e⟩:=List.append_of_mem (eI.2 ⟨x1,(by omega:m < x.t)⟩)
  exact .inr ⟨hxs.1,B,.inr ⟨x,A,e,rfl,hk⟩⟩
variable {la:Cl} {cu nx:W} {k i:Int} {sp:S3}
theorem QM (hi:ke h L) (hs:Start bd L 0 pv l) (h1:qc h bd L 1 sp.p1 sp.c1) (h2:qc h bd L 2 sp.p2 sp.c2):dP (fun c h'=>h'=h /\ vl h bd L c) (10 * L.length+5) h ((bF pv i,true),⟨2,la,pv,cu,bd,0,nx,k,sp,ao⟩):=by
 obtain⟨v,sk,len,up⟩:=Dg hi (by decide) (by decide) hs
 refine dk (fun _ _ h=>h) (by omega:10 * l.length+5+0<=_) (CF (lv:=0) (by decide) (by decide) v sk fun pc p c nx k hp=>?_)
 have hp:=up _ _ _ hp
 have qe:=BN (a:=aV 0) (hi.QT 0 (by decide) (by decide)) rfl hp
 rw [Wx hi] at qe
 unfold mz
 dsimp only
 rw [if_pos rfl]
 cases bC:Gf bd L with
 | none =>
   rw [bC] at qe
   have qe:gC (!(c.af==0)) (k==bd)=false:=qe
   rw [qe]
   exact xZ rfl ⟨rfl,⟨k,hp⟩,h1,h2,by rw [bC];rfl⟩
 | some x =>
   rw [bC] at qe
   obtain⟨f1,f2,f3⟩:=qe
   rw [f1]
   exact xZ rfl ⟨rfl,⟨k,hp⟩,h1,h2,by rw [bC];show dv c=_;unfold dv;rw [f2,f3]⟩
theorem QL (hi:ke h L) (hs:Start bd L 1 pv l) (h2:qc h bd L 2 sp.p2 sp.c2):dP (fun c h'=>h'=h /\ vl h bd L c) (20 * L.length+12) h ((bF pv i,true),⟨2,la,pv,cu,bd,1,nx,k,sp,ao⟩):=by
 obtain⟨v,sk,len,up⟩:=Dg hi (by decide) (by decide) hs
 refine dk (fun _ _ h=>h) (by omega:10 * l.length+5+(10 * L.length+5+1)<=_) (CF (lv:=1) (by decide) (by decide) v sk fun pc p c nx k hp=>?_)
 have hp:=up _ _ _ hp
 have hn:=Dh (m:=0) hi (by decide) (by decide) hp
 unfold mz
 dsimp only
 rw [if_neg (by decide)]
 rcases hn with⟨e,hn⟩ | ⟨e,l',hn⟩
 ·rw [e]
  exact dk (fun _ _ h=>h) (by omega:10 * L.length+5<=_) (QM (sp:=S3.put sp 1 p c) hi hn ⟨k,hp⟩ h2)
 ·rw [show (p.s==0)=false by cases hb:p.s==0 with | false=>rfl | true=>have:=QC hb;omega]
  refine hI rfl (mb ?_)
  exact QM (sp:=S3.put sp 1 p c) hi hn ⟨k,hp⟩ h2
theorem ach (hi:ke h L) (hs:Start bd L 2 pv l):dP (fun c h'=>h'=h /\ vl h bd L c) (30 * L.length+20) h ((bF pv i,true),⟨2,la,pv,cu,bd,2,nx,k,sp,ao⟩):=by
 obtain⟨v,sk,len,up⟩:=Dg hi (by decide) (by decide) hs
 refine dk (fun _ _ h=>h) (by omega:10 * l.length+5+(20 * L.length+12+1)<=_) (CF (lv:=2) (by decide) (by decide) v sk fun pc p c nx k hp=>?_)
 have hp:=up _ _ _ hp
 have hn:=Dh (m:=1) hi (by decide) (by decide) hp
 unfold mz
 dsimp only
 rw [if_neg (by decide)]
 rcases hn with⟨e,hn⟩ | ⟨e,l',hn⟩
 ·rw [e]
  exact dk (fun _ _ h=>h) (by omega:20 * L.length+12<=_) (QL (sp:=S3.put sp 2 p c) hi hn ⟨k,hp⟩)
 ·rw [show (p.s==0)=false by cases hb:p.s==0 with | false=>rfl | true=>have:=QC hb;omega]
  refine hI rfl (mb ?_)
  exact QL (sp:=S3.put sp 2 p c) hi hn ⟨k,hp⟩
theorem wh (hi:ke h L) (x:cr):dP (fun c h'=>h'=h /\ vl h bd L c) (30 * L.length+20) h (aH (eW bd) x):=ach hi (.inl ⟨rfl,rfl⟩)
end
end
section
open Go Go.Sx Go.Proofs AH
def o5 (n:Sn):List Sn->List Sn
 | []=>[n]
 | x::l=>if n.k<=x.k then n::x::l else x::o5 n l
def sa (key:Int):List Sn->List Sn
 | []=>[]
 | x::l=>if key<=x.k then l else x::sa key l
theorem fJ {h h':AH} {f:Int}:∀{l:List Sn} {w:W},qm h f w l->(∀x∈l,1<=x.s->h.lv x.s x.g->h'.lv x.s x.g /\ h'.cl x.s 0=h.cl x.s 0 /\ h'.cl x.s f=h.cl x.s f)->qm h' f w l
 | [],_,hp,_=>hp
 | x::l,w,⟨a,b,m,c,d,e0,fo⟩,hf=>by
   obtain⟨f1,f0,f3⟩:=hf x abw c d
   exact⟨a,b,m,c,f1,by rw [f0];exact e0,by rw [f3];exact fJ fo fun y hy=>hf y (aby _ hy)⟩
theorem alL {h h':AH} {n:Sn} {f:Int} {p:Ad} {c:W} {k:Int} (n1:1<=n.s) (nl:h'.lv n.s n.g) (n0:(h'.cl n.s 0).bS=n.k) (nf:h'.cl n.s f=dv c)
 (to:(h'.rd p).af=n.s /\ (h'.rd p).gen=n.g /\ (h'.rd p).mark=false) (BG:∀s g,s≠n.s->h.lv s g->h'.lv s g) (h0:∀s,1<=s->s≠n.s->h'.cl s 0=h.cl s 0) (hf:∀s,1<=s->s≠n.s->¬(s=p.s /\ f=p.f)->h'.cl s f=h.cl s f) :
 ∀{l:List Sn} {a:Ad},(¬(a.s=p.s /\ a.f=p.f)->h'.rd a=h.rd a)->(a.f=f \/ a.s=0)->qm h f (h.rd a) l->fa h f n.k a l p c k->a.s ∉ l.map Sn.s->n.s ∉ l.map Sn.s->(l.map Sn.s).Nodup->qm h' f (h'.rd a) (o5 n l)
 | [],a,ha,hfa,hl,hw,has,hn,hd=>by
   obtain⟨w1,w2⟩:=hw
   rw [w1] at to
   refine⟨to.1,to.2.1,to.2.2,n1,nl,n0,?_⟩
   rw [nf,w2]
   exact⟨hl.1,rfl⟩
 | x::l,a,ha,hfa,hl,hw,has,hn,hd=>by
   unfold fa at hw
   unfold o5
   rw [abv,abk,not_or] at has hn
   rw [abv,aem] at hd
   by_cases hk:n.k<=x.k
   ·rw [if_pos hk] at hw ⊢
    obtain⟨w1,w2,w3⟩:=hw
    rw [w1] at to
    refine⟨to.1,to.2.1,to.2.2,n1,nl,n0,?_⟩
    rw [nf,w2]
    refine fJ (vB hl rfl rfl rfl) fun y hy y1 F0=>?_
    have Js:y.s≠n.s:=fun e=>(not_or.2 hn) (abk.1 (e▸ad9 (f:=Sn.s) hy))
    have hya:y.s≠a.s:=fun e=>(not_or.2 has) (abk.1 (e▸ad9 (f:=Sn.s) hy))
    exact⟨BG _ _ Js F0,h0 _ y1 Js,hf _ y1 Js fun e=>hya (e.1.trans (congrArg Ad.s w1))⟩
   ·rw [if_neg hk] at hw ⊢
    have hp:p.s≠a.s:=by
     rcases (gz hw).1 with e | ⟨y,hy,_,e⟩
     ·rw [e];exact fun e=>has.1 e.symm
     ·rw [e];exact fun e=>has.2 (adK.2 ⟨y,hy,e⟩)
    obtain⟨q1,q2,m,cc,d,e0,fo⟩:=hl
    rw [ha fun e=>hp e.1.symm]
    have za:x.s≠n.s:=fun e=>hn.1 e.symm
    have rx:∀H:AH,H.rd (x.cW f)=H.cl x.s f:=fun H=>by unfold rd;rw [if_neg (by show ¬x.s=0;omega)];rfl
    refine⟨q1,q2,m,cc,BG _ _ za d,by rw [h0 _ cc za];exact e0,?_⟩
    rw [<- rx] at fo ⊢
    exact alL n1 nl n0 nf to BG h0 hf (fun e=>by rw [rx,rx];exact hf _ cc za e) (.inl rfl) fo hw hd.1 hn.2 hd.2
theorem uM {n y:Sn}:∀{l:List Sn},y∈o5 n l↔y=n \/ y∈l
 | []=>by simp [o5]
 | x::l=>by
   unfold o5
   split
   ·simp
   ·rw [abk,uM,abk];exact⟨fun h=>by rcases h with h | h | h<;>simp [h],fun h=>by rcases h with h | h | h<;>simp [h]⟩
theorem od {key:Int}:∀{l:List Sn},(sa key l).Sublist l
 | []=>.slnil
 | x::l=>by
   unfold sa
   split
   ·exact List.sublist_cons_self _ _
   ·exact od.cons_cons _
theorem Es {n:Sn}:∀{l:List Sn},(l.map Sn.s).Nodup->n.s ∉ l.map Sn.s->((o5 n l).map Sn.s).Nodup
 | [],_,_=>by simp [o5]
 | x::l,hd,hn=>by
   unfold o5
   split
   ·rw [abv,aem];exact⟨hn,hd⟩
   ·rw [abv,aem] at hd ⊢
    rw [abv,abk,not_or] at hn
    refine⟨fun hm=>?_,Es hd.2 hn.2⟩
    obtain⟨y,hy,e⟩:=adK.1 hm
    rcases uM.1 hy with rfl | hy
    ·exact hn.1 e
    ·exact hd.1 (adK.2 ⟨y,hy,e⟩)
theorem LJ {n:Sn}:∀{l:List Sn},BX l->Gf n.k l=none->BX (o5 n l)
 | [],_,_=>by simp [o5,BX]
 | x::l,hs,ha=>by
   unfold o5
   unfold Gf at ha
   have hs0:=hs
   unfold BX at hs
   rw [aeo] at hs
   by_cases hk:n.k<=x.k
   ·rw [if_pos hk] at ha ⊢
    have dA:x.k≠n.k:=fun e=>by rw [if_pos e] at ha;cases ha
    unfold BX
    rw [aeo]
    refine⟨fun y hy=>?_,hs0⟩
    rcases abk.1 hy with rfl | hy
    ·omega
    ·have:=hs.1 y hy;omega
   ·rw [if_neg hk] at ha ⊢
    unfold BX
    rw [aeo]
    refine⟨fun y hy=>?_,LJ hs.2 ha⟩
    rcases uM.1 hy with rfl | hy
    ·omega
    ·exact hs.1 y hy
theorem P5 {m:Int} {n:Sn}:∀{l:List Sn},BX l->qt m (o5 n l)=if m < n.t then o5 n (qt m l) else qt m l
 | [],_=>by
   show qt m [n]=_
   unfold qt
   by_cases h:m < n.t
   ·rw [if_pos h,aeB,if_pos (aaS h)];rfl
   ·rw [if_neg h,aeB,if_neg (by simpa using h)]
 | x::l,hs=>by
   have hs0:=hs
   unfold BX at hs
   rw [aeo] at hs
   have ih:=P5 (m:=m) (n:=n) (l:=l) hs.2
   rw [show o5 n (x::l)=if n.k<=x.k then n::x::l else x::o5 n l from rfl]
   by_cases hk:n.k<=x.k
   ·rw [if_pos hk]
    have aqS:∀{r:List Sn},(∀y∈r,n.k<=y.k)->o5 n r=n::r:=fun {r} hr=>by
     cases r with
     | nil=>rfl
     | cons y r=>unfold o5;rw [if_pos (hr y abw)]
    show List.filter _ (n::x::l)=_
    rw [aeB]
    by_cases h:m < n.t
    ·rw [if_pos h,if_pos (aaS h)]
     refine(aqS fun y hy=>?_).symm
     rcases abk.1 (eI.1 hy).1 with rfl | hy
     ·exact hk
     ·have:=hs.1 y hy;omega
    ·rw [if_neg h,if_neg (by simpa using h)];rfl
   ·rw [if_neg hk]
    unfold qt at ih ⊢
    rw [aeB,aeB (xs:=l),ih]
    by_cases hx:m < x.t
    ·rw [if_pos (aaS hx),if_pos (aaS hx)]
     split
     ·show _=o5 n (x::_)
      rw [o5,if_neg hk]
     ·rfl
    ·simp only [if_neg (show ¬decide (m < x.t)=true by simpa using hx)]
end
section
open Go Go.Sx Go.Proofs AH
theorem ru {h:AH} {bd:Int} {L:List Sn} (hi:ke h L) {m:Int} (m0:0<=m) (m2:m<=2) {p:Ad} {c:W} (hs:qc h bd L m p c):(p=aV m \/ ∃x∈L,1<=x.s /\ h.lv x.s x.g /\ p=x.cW (2+m)) /\ c=h.rd p /\ h.bG p:=by
 obtain⟨k,hp⟩:=hs
 obtain⟨h1,h2⟩:=gz hp
 rcases h1 with rfl | ⟨x,hx,_,rfl⟩
 ·exact⟨.inl rfl,h2,bU m0 (by omega)⟩
 ·have:=yy (hi.QT m m0 m2) hx
  exact⟨.inr ⟨x,(eI.1 hx).1,this.1,this.2,rfl⟩,h2,.inr ⟨this.1,this.2,by show 0<=2+m;omega,by show 2+m < 8;omega⟩⟩
theorem Z0 {h:AH} {bd:Int} {L:List Sn} (hi:ke h L) {m j:Int} (m0:0<=m) (m2:m<=2) (j0:0<=j) (j2:j<=2) (dA:j≠m) {p q:Ad} {c d:W} (hp:qc h bd L m p c) (hq:qc h bd L j q d):¬(p.s=q.s /\ p.f=q.f):=by
 rintro ⟨e1,e2⟩
 rcases (ru hi m0 m2 hp).1 with rfl | ⟨x,hx,x1,_,rfl⟩<;>rcases (ru hi j0 j2 hq).1 with rfl | ⟨y,hy,y1,_,rfl⟩
 ·have e2:m=j:=e2;omega
 ·have e1:(0:Int)=y.s:=e1;omega
 ·have e1:x.s=(0:Int):=e1;omega
 ·have e2:2+m=2+j:=e2;omega
theorem U1 {h H:AH} {L:List Sn} (hi:ke h L) {n:Sn} {pm:Int->Ad} {cm:Int->W} (n1:1<=n.s) (fr:∀x∈L,x.s≠n.s) (t1:1<=n.t) (t3:n.t<=3) (k0:0<=n.k) (k1:n.k < 256) (bC:Gf n.k L=none)
 (sp:∀m,0<=m->m<=2->qc h n.k L m (pm m) (cm m)) (zG:H.lv n.s n.g) (lvo:∀s g,s≠n.s->h.lv s g->H.lv s g)
 (c0:(H.cl n.s 0).bS=n.k) (cv:(H.cl n.s 1).bS=n.v) (c6:(H.cl n.s 6).bS=n.t) (c7:(H.cl n.s 7).bS≠0) (cf:∀m,0<=m->m < n.t->H.cl n.s (2+m)=dv (cm m))
 (to:∀m,0<=m->m < n.t->(H.rd (pm m)).af=n.s /\ (H.rd (pm m)).gen=n.g /\ (H.rd (pm m)).mark=false)
 (un:∀b:Ad,b.s≠n.s->(∀m,0<=m->m < n.t->¬(b.s=(pm m).s /\ b.f=(pm m).f))->H.rd b=h.rd b):ke H (o5 n L):=by
 have form:=fun m m0 m2=>(ru hi m0 m2 (sp m m0 m2)).1
 have ci:∀(K:AH) (s f:Int),1<=s->K.rd ⟨s,0,f⟩=K.cl s f:=fun K s f hs=>by unfold rd;rw [if_neg (by show ¬s=0;omega)]
 have cell:∀s f,1<=s->s≠n.s->(∀m,0<=m->m < n.t->f=2+m->s≠(pm m).s)->H.cl s f=h.cl s f:=fun s f hs F7 hf=>by
  rw [<- ci H s f hs,<- ci h s f hs]
  refine un _ F7 fun m m0 mt=>?_
  rintro ⟨e1,e2⟩
  have e1:s=(pm m).s:=e1
  have e2:f=(pm m).f:=e2
  rcases form m m0 (by omega) with e | ⟨x,hx,x1,_,e⟩
  ·rw [e] at e1;have e1:s=0:=e1;omega
  ·rw [e] at e2;exact hf m m0 mt e2 e1
 have root:∀m,0<=m->m<=2->(m < n.t->¬(0=(pm m).s /\ m=(pm m).f))->H.rd (aV m)=h.rd (aV m):=fun m m0 m2 hm=>by
  refine un _ (by show (0:Int)≠n.s;omega) fun j j0 jt=>?_
  rintro ⟨e1,e2⟩
  have e1:0=(pm j).s:=e1
  have e2:m=(pm j).f:=e2
  rcases form j j0 (by omega) with e | ⟨x,hx,x1,_,e⟩
  ·rw [e] at e2
   have e2:m=j:=e2
   subst e2
   exact hm jt ⟨e1,by rw [e];rfl⟩
  ·rw [e] at e1;have e1:(0:Int)=x.s:=e1;omega
 have nin:∀m,n.s ∉ (qt m L).map Sn.s:=fun m hm=>by
  obtain⟨y,hy,e⟩:=adK.1 hm
  exact fr y (eI.1 hy).1 e
 refine⟨fun m m0 m2=>?_,Es hi.nd fun hm=>?_,LJ hi.sr bC,fun x hx=>?_,fun x hx=>?_⟩
 ·rw [P5 hi.sr]
  by_cases hm:m < n.t
  ·rw [if_pos hm]
   obtain⟨k,hp⟩:=sp m m0 m2
   refine alL (h:=h) (a:=aV m) n1 zG c0 (cf m m0 hm) (to m m0 hm) lvo (fun s hs F7=>cell s 0 hs F7 fun j j0 _ e=>by omega) (fun s hs F7 dA=>cell s (2+m) hs F7 fun j j0 jt e es=>?_) (fun dA=>root m m0 m2 fun _=>dA) (.inr rfl) (hi.QT m m0 m2) hp (fun hx=>?_) (nin m) ((aeW.map Sn.s).nodup hi.nd)
   ·have e:j=m:=by omega
    subst e
    refine dA ⟨es,?_⟩
    rcases form j m0 m2 with e | ⟨x,hx,x1,_,e⟩
    ·rw [e] at es;have es:s=0:=es;omega
    ·rw [e];rfl
   ·obtain⟨y,hy,e⟩:=adK.1 hx
    have:=(yy (hi.QT m m0 m2) hy).1
    have e:y.s=0:=e
    omega
  ·rw [if_neg hm]
   have hr:=root m m0 m2 fun h=>absurd h hm
   have hr:H.bd m=h.bd m:=hr
   rw [hr]
   refine fJ (hi.QT m m0 m2) fun x hx x1 hl=>?_
   have za:=fr x (eI.1 hx).1
   exact⟨lvo _ _ za hl,cell _ _ x1 za fun j j0 _ e=>by omega,cell _ _ x1 za fun j j0 jt e=>by omega⟩
 ·obtain⟨y,hy,e⟩:=adK.1 hm
  exact fr y hy e
 ·rcases uM.1 hx with rfl | hx
  ·exact⟨cv,c6,c7,t1,t3⟩
  ·have za:=fr x hx
   have x1:1<=x.s:=(yy (hi.QT 0 (by decide) (by decide)) (by rw [Wx hi];exact hx)).1
   obtain⟨d1,d2,d3,d4⟩:=hi.da x hx
   exact⟨by rw [cell _ _ x1 za fun j j0 _ e=>by omega];exact d1,by rw [cell _ _ x1 za fun j j0 jt e=>by omega];exact d2,by rw [cell _ _ x1 za fun j j0 jt e=>by omega];exact d3,d4⟩
 ·rcases uM.1 hx with rfl | hx
  ·exact⟨k0,k1⟩
  ·exact hi.rg x hx
end
section
open Go Go.Sx Go.Proofs AH
def rY (c v:Int) (j:cd):Cl×cd:=(jx c v,{j with pc:=-1,last:=jx c v})
def iO (j:cd) (l:Int):Ad×W:=match j.kz with | none=>(gX,ao) | some c=>aT c l
def oX (j:cd):W:=match j.kz with | none=>ao | some c=>c.found
def ND (n:Int) (j:cd):Cl×cd:=(br (ay j.node 7),{j with inc:=n,pc:=101})
def Dj (j:cd):Cl×cd:=cond (decide (j.level>=j.op.bO)) (ND 1 j) (br (ay j.node (eP 2 j.level)),{j with pc:=9})
def zW (j:cd):Cl×cd:=cond (decide (cX j.level < j.op.bO)) (cO (ay j.node (eP 2 (cX j.level))) (dv (iO j (cX j.level)).2),{j with level:=cX j.level,pc:=7})
 (b5 (iO j 0).1 (iO j 0).2 (iC (iO j 0).2 j.node),{j with level:=cX j.level,pc:=8})
def UM (j:cd):Cl×cd:=cond (!((oX j).af==0)) (p7 j.node,{j with pc:=6}) (zW {j with level:=-1})
def UL (j:cd):Cl×cd:=cond ((oX j).af==0) (rY 2 0 {j with node:=oX j}) (br (ay (oX j) 6),{j with node:=oX j,pc:=2})
def UN (j:cd):Cl×cd:=cond ((oX j).af==0) (rY 2 0 {j with node:=oX j}) (br (ay (oX j) 1),{j with node:=oX j,pc:=2})
def UK (j:cd):Cl×cd:=(jT j.node,{j with pc:=104})
section
variable {la:Cl} {ky va ta:Int} {cb:Option aN} {nd:W} {lv inc v:Int}
theorem aki (x:cr):aM ⟨0,la,⟨6,ky,va,ta⟩,cb,nd,lv,inc,v⟩ x=(j9,⟨1,la,⟨6,ky,va,ta⟩,cb,nd,lv,inc,v⟩):=rfl
theorem adC (x:cr):aM ⟨1,la,⟨6,ky,va,ta⟩,cb,nd,lv,inc,v⟩ x=cond (!x.ok) (rY 4 0 ⟨1,la,⟨6,ky,va,ta⟩,cb,nd,lv,inc,v⟩) (cO (ay x.w 0) (dX ky),⟨2,la,⟨6,ky,va,ta⟩,cb,x.w,lv,inc,v⟩):=rfl
theorem akh (x:cr):aM ⟨2,la,⟨6,ky,va,ta⟩,cb,nd,lv,inc,v⟩ x=(cO (ay nd 1) (dX va),⟨3,la,⟨6,ky,va,ta⟩,cb,nd,lv,inc,v⟩):=rfl
theorem akg (x:cr):aM ⟨3,la,⟨6,ky,va,ta⟩,cb,nd,lv,inc,v⟩ x=(cO (ay nd 6) (dX ta),⟨4,la,⟨6,ky,va,ta⟩,cb,nd,lv,inc,v⟩):=rfl
theorem akf (x:cr):aM ⟨4,la,⟨6,ky,va,ta⟩,cb,nd,lv,inc,v⟩ x=aM ⟨5,la,⟨6,ky,va,ta⟩,some (eW ky),nd,lv,inc,v⟩ x:=rfl
theorem ake (c:aN) (x:cr):aM ⟨5,la,⟨6,ky,va,ta⟩,some c,nd,lv,inc,v⟩ x=cond (aH c x).1.2 ((aH c x).1.1,⟨5,la,⟨6,ky,va,ta⟩,some (aH c x).2,nd,lv,inc,v⟩) (UM ⟨5,la,⟨6,ky,va,ta⟩,some (aH c x).2,nd,lv,inc,v⟩):=rfl
theorem akd (x:cr):aM ⟨6,la,⟨6,ky,va,ta⟩,cb,nd,lv,inc,v⟩ x=rY 3 0 ⟨6,la,⟨6,ky,va,ta⟩,cb,nd,lv,inc,v⟩:=rfl
theorem akc (x:cr):aM ⟨7,la,⟨6,ky,va,ta⟩,cb,nd,lv,inc,v⟩ x=zW ⟨7,la,⟨6,ky,va,ta⟩,cb,nd,lv,inc,v⟩:=rfl
theorem akb (w:W):aM ⟨8,la,⟨6,ky,va,ta⟩,cb,nd,lv,inc,v⟩ ⟨w,true⟩=Dj ⟨8,la,⟨6,ky,va,ta⟩,cb,nd,1,inc,v⟩:=rfl
theorem aka (w:W) (hm:w.mark=false):aM ⟨9,la,⟨6,ky,va,ta⟩,cb,nd,lv,inc,v⟩ ⟨w,true⟩=cond (!Vw w (iO ⟨9,la,⟨6,ky,va,ta⟩,cb,nd,lv,inc,v⟩ lv).2) (b5 (ay nd (eP 2 lv)) w (iC w (iO ⟨9,la,⟨6,ky,va,ta⟩,cb,nd,lv,inc,v⟩ lv).2),⟨10,la,⟨6,ky,va,ta⟩,cb,nd,lv,inc,v⟩)
 (b5 (iO ⟨9,la,⟨6,ky,va,ta⟩,cb,nd,lv,inc,v⟩ lv).1 (iO ⟨9,la,⟨6,ky,va,ta⟩,cb,nd,lv,inc,v⟩ lv).2 (iC (iO ⟨9,la,⟨6,ky,va,ta⟩,cb,nd,lv,inc,v⟩ lv).2 nd),⟨11,la,⟨6,ky,va,ta⟩,cb,nd,lv,inc,v⟩):=by
 obtain⟨a,b,c,d,e⟩:=w
 dsimp only at hm
 subst hm
 rfl
theorem afE (w:W):aM ⟨11,la,⟨6,ky,va,ta⟩,cb,nd,lv,inc,v⟩ ⟨w,true⟩=Dj ⟨11,la,⟨6,ky,va,ta⟩,cb,nd,cX lv,inc,v⟩:=rfl
theorem UJ {k:Int} (x:cr):aM ⟨101,la,⟨k,ky,va,ta⟩,cb,nd,lv,inc,v⟩ x=cond (x.w.bS==0) (b5 (ay nd 7) x.w (fx x.w inc),⟨102,la,⟨k,ky,va,ta⟩,cb,nd,lv,inc,v⟩) (aM ⟨103,la,⟨k,ky,va,ta⟩,some (eW (cX ky)),nd,lv,inc,v⟩ x):=rfl
theorem afD {k:Int} (w:W):aM ⟨102,la,⟨k,ky,va,ta⟩,cb,nd,lv,inc,v⟩ ⟨w,true⟩=rY 1 v ⟨102,la,⟨k,ky,va,ta⟩,cb,nd,lv,inc,v⟩:=rfl
theorem afC {k:Int} (c:aN) (x:cr):aM ⟨103,la,⟨k,ky,va,ta⟩,some c,nd,lv,inc,v⟩ x=cond (aH c x).1.2 ((aH c x).1.1,⟨103,la,⟨k,ky,va,ta⟩,some (aH c x).2,nd,lv,inc,v⟩) (UK ⟨103,la,⟨k,ky,va,ta⟩,some (aH c x).2,nd,lv,inc,v⟩):=rfl
theorem afB {k:Int} (x:cr):aM ⟨104,la,⟨k,ky,va,ta⟩,cb,nd,lv,inc,v⟩ x=rY 1 v ⟨104,la,⟨k,ky,va,ta⟩,cb,nd,lv,inc,v⟩:=rfl
theorem aj9 (x:cr):aM ⟨0,la,⟨7,ky,va,ta⟩,cb,nd,lv,inc,v⟩ x=aM ⟨1,la,⟨7,ky,va,ta⟩,some (eW ky),nd,lv,inc,v⟩ x:=rfl
theorem aj8 (c:aN) (x:cr):aM ⟨1,la,⟨7,ky,va,ta⟩,some c,nd,lv,inc,v⟩ x=cond (aH c x).1.2 ((aH c x).1.1,⟨1,la,⟨7,ky,va,ta⟩,some (aH c x).2,nd,lv,inc,v⟩) (UL ⟨1,la,⟨7,ky,va,ta⟩,some (aH c x).2,nd,lv,inc,v⟩):=rfl
theorem aj6 (x:cr):aM ⟨3,la,⟨7,ky,va,ta⟩,cb,nd,lv,inc,v⟩ x=(br (ay nd (eP 2 lv)),⟨4,la,⟨7,ky,va,ta⟩,cb,nd,lv,inc,x.w.bS⟩):=rfl
theorem aj5 (w:W) (hm:w.mark=false):aM ⟨4,la,⟨7,ky,va,ta⟩,cb,nd,lv,inc,v⟩ ⟨w,true⟩=(b5 (ay nd (eP 2 lv)) w (nM w),⟨5,la,⟨7,ky,va,ta⟩,cb,nd,lv,inc,v⟩):=by
 obtain⟨a,b,c,d,e⟩:=w
 dsimp only at hm
 subst hm
 rfl
theorem aj4 (w:W):aM ⟨5,la,⟨7,ky,va,ta⟩,cb,nd,lv,inc,v⟩ ⟨w,true⟩=cond (decide (lv > 0)) (br (ay nd (eP 2 (IntKind.wrap .i64 (lv - 1)))),⟨4,la,⟨7,ky,va,ta⟩,cb,nd,IntKind.wrap .i64 (lv - 1),inc,v⟩) (aM ⟨6,la,⟨7,ky,va,ta⟩,some (eW (cX ky)),nd,lv,inc,v⟩ ⟨w,true⟩):=rfl
theorem aj3 (c:aN) (x:cr):aM ⟨6,la,⟨7,ky,va,ta⟩,some c,nd,lv,inc,v⟩ x=cond (aH c x).1.2 ((aH c x).1.1,⟨6,la,⟨7,ky,va,ta⟩,some (aH c x).2,nd,lv,inc,v⟩) (ND 2 ⟨6,la,⟨7,ky,va,ta⟩,some (aH c x).2,nd,lv,inc,v⟩):=rfl
theorem aj2 (x:cr):aM ⟨0,la,⟨8,ky,va,ta⟩,cb,nd,lv,inc,v⟩ x=aM ⟨1,la,⟨8,ky,va,ta⟩,some (eW ky),nd,lv,inc,v⟩ x:=rfl
theorem aj1 (c:aN) (x:cr):aM ⟨1,la,⟨8,ky,va,ta⟩,some c,nd,lv,inc,v⟩ x=cond (aH c x).1.2 ((aH c x).1.1,⟨1,la,⟨8,ky,va,ta⟩,some (aH c x).2,nd,lv,inc,v⟩) (UN ⟨1,la,⟨8,ky,va,ta⟩,some (aH c x).2,nd,lv,inc,v⟩):=rfl
theorem aj0 (x:cr):aM ⟨2,la,⟨8,ky,va,ta⟩,cb,nd,lv,inc,v⟩ x=rY 1 x.w.bS ⟨2,la,⟨8,ky,va,ta⟩,cb,nd,lv,inc,v⟩:=rfl
theorem aj7 (x:cr):aM ⟨2,la,⟨7,ky,va,ta⟩,cb,nd,lv,inc,v⟩ x=cond (lL (decide (x.w.bS < 1)) (decide (x.w.bS > 3))) (br (ay nd 1),⟨3,la,⟨7,ky,va,ta⟩,cb,nd,0,inc,v⟩) (br (ay nd 1),⟨3,la,⟨7,ky,va,ta⟩,cb,nd,IntKind.wrap .i64 (x.w.bS - 1),inc,v⟩):=rfl
