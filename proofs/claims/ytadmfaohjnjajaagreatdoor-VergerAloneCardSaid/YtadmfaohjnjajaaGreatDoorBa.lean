import Derived.Test.YtadmfaohjnjajaaGreatDoorRd
set_option linter.unusedVariables false
set_option linter.unusedSimpArgs false
set_option maxHeartbeats 0
set_option maxRecDepth 100000
namespace Go.Proofs.YtadmfaohjnjajaaGreatDoor
section
open Go Go.Sx Go.Proofs
def wa (c:Cl):pB :=
 if c.aj=3 \/ c.aj=6 then⟨1,c.dh.s,c.dh.g,c.dh.f,aq,aq⟩
 else if c.aj=4 then⟨2,c.dh.s,c.dh.g,c.dh.f,c.dy,c.new⟩
 else if c.aj=5 then⟨3,c.dh.s,c.dh.g,c.dh.f,c.dy,c.new⟩
 else if c.aj=8 then⟨4,0,0,0,aq,aq⟩
 else⟨5,0,0,0,c.dy,aq⟩
def abJ (c:Cl) (r:cJ):cJ:=if c.aj=6 then⟨r.w,true⟩ else if c.aj=9 then⟨aq,true⟩ else r
def st1 (c:Cl):Int:=if c.aj=6 then 5 else if c.aj=9 then 2 else 1
def qk (c:Cl):Prop:=c.aj=3 \/ c.aj=4 \/ c.aj=5 \/ c.aj=6 \/ c.aj=8 \/ c.aj=9
structure GK (m:ax):Prop where
 en:m.au=1
 no:m.notes=[]
 st:m.step=0
structure SW (c:Cl) (m:ax):Prop where
 en:m.au=1
 no:m.notes=[]
 cl:m.call=c
 ac:m.acc=wa c
 st:m.step=st1 c
theorem Qx {m:ax} (h:GK m) {c:Cl} (hc:qk c):SW c (bj m c):=by obtain⟨h1,h2,h3⟩:=h;obtain⟨k,dh,dy,new,i,j,qB⟩:=c;unfold qk at hc;dsimp only at hc;unfold bj fW j8;rcases hc with rfl | rfl | rfl | rfl | rfl | rfl<;>refine⟨?_,?_,?_,?_,?_⟩<;>simp [cC,dI,eo,fF,h1,h2,wa,st1]
theorem Gh {m:ax} (h:GK m) {c:Cl} (hc:c.aj=1 \/ c.aj=2 \/ c.aj=7 \/ c.aj=10):GK (bj m c) /\ (bj m c).bD=⟨aq,true⟩:=by obtain⟨h1,h2,h3⟩:=h;obtain⟨k,dh,dy,new,i,j,qB⟩:=c;dsimp only at hc;unfold bj fW j8;rcases hc with rfl | rfl | rfl | rfl<;>refine⟨⟨?_,?_,?_⟩,?_⟩<;>simp [cC,dI,nM,kU,dA,h1,h2]
theorem alQ {m:ax} {c:Cl} (h:SW c m) (hc:qk c) (x:cJ):GK (bX m x) /\ (bX m x).bD=abJ c x:=by obtain⟨h1,h2,h3,h4,h5⟩:=h;unfold qk at hc;unfold bX jD gK;rcases hc with e | e | e | e | e | e<;>(unfold st1 at h5;simp only [e] at h5)<;>refine⟨⟨?_,?_,?_⟩,?_⟩<;>simp [dI,kU,dA,h1,h2,h5,abJ,e]
noncomputable def Uf:Nat->dV->cJ->Option (Cl×dV)
 | 0,_,_=>none
 | f+1,j,x=>if (j.next x).1.aj=7 \/ (j.next x).1.aj=10 then Uf f (j.next x).2 ⟨aq,true⟩ else some (j.next x)
structure agw (v:aA):Prop where
 dg:v.aO=0
 en:v.au=1
 id:GK v.aP
structure akf (v:aA) (c:Cl) (j:dV):Prop where
 dg:v.aO=2
 en:v.au=1
 cl:v.call=c
 jb:v.cF=some j
 pd:SW c v.aP
 ac:qk c
theorem sP {k:Nat} {v v':aA} {e:Ex} (h:dK cd k v=some (e,v')) (hs:(cd v).val=some (.exit 0,v)):v'=v:=by
 cases k with
 | zero=>cases h
 | succ k=>simp only [dK,hs] at h;cases h;rfl
theorem nP {k:Nat} {v v1 v':aA} {e:Ex} (h:dK cd k v=some (e,v')) (hs:∀r,(cd v).val=some r->r=(.normal,v1)):∃k',dK cd k' v1=some (e,v'):=by
 cases k with
 | zero=>cases h
 | succ k =>
   simp only [dK] at h;split at h
   ·rename_i m hm;have:=hs _ hm;cases this;exact⟨k,h⟩
   ·rename_i i m hm;have:=hs _ hm;cases this
   ·rename_i m hm;have:=hs _ hm;cases this
   ·cases h
theorem Br {m:ax} (h:GK m):gT m=false:=by unfold gT;rw [h.st];rfl
theorem HP {m:ax} {c:Cl} (h:SW c m):gT m=true:=by
 unfold gT;rw [h.st];unfold st1;split
 ·rfl
 ·split<;>rfl
theorem ap2 {c':Cl} {j':dV} (hc:c'.aj=12 \/ qk c'):∀{f:Nat} {k:Nat} {v v':aA} {j:dV},v.aO=1 \/ v.aO=2->v.au=1->GK v.aP->v.cF=some j->Uf f j v.aP.bD=some (c',j')->dK cd k v=some (.exit 0,v') ->
 v'.sort=v.sort /\ (c'.aj=12->agw v') /\ (qk c'->akf v' c' j')
 | 0,_,_,_,_,_,_,_,_,hj,_=>by cases hj
 | f+1,k,v,v',j,hd,he,hi,hjb,hj,yS=>by
   have hr:(cd v).val=(tN j.ok (fM tI tN GN GW v (j.next v.aP.bD))).val:=by unfold cd eF;rw [hjb,Br hi];rcases hd with hd | hd<;>rw [hd]<;>rfl
   unfold Uf at hj;by_cases hk:(j.next v.aP.bD).1.aj=7 \/ (j.next v.aP.bD).1.aj=10
   ·rw [if_pos hk] at hj;have hb:=Gh hi (c:=(j.next v.aP.bD).1) (by omega);obtain⟨k',h'⟩:=nP (v1:={v with aO:=2,call:=(j.next v.aP.bD).1,aP:=bj v.aP (j.next v.aP.bD).1,cF:=some (j.next v.aP.bD).2}) yS fun r rj=>by rw [hr] at rj;obtain⟨_,rj⟩:=aC rj;unfold fM at rj;rw [show ((j.next v.aP.bD).1.aj != 12)=true by simp;omega] at rj;obtain⟨_,rj⟩:=aC (rj:(T.aE _ _).val=_);cases rj;rfl
    exact ap2 hc (f:=f) (k:=k') (v:={v with aO:=2,call:=(j.next v.aP.bD).1,aP:=bj v.aP (j.next v.aP.bD).1,cF:=some (j.next v.aP.bD).2}) (.inr rfl) he hb.1 rfl (by show Uf f _ (bj v.aP _).bD=_;rw [hb.2];exact hj) h'
   ·rw [if_neg hk] at hj;have hj:=afT hj;rcases hc with h12 | hac
    ·obtain⟨k',h'⟩:=nP (v1:={v with answer:=c'.qB,aO:=3,call:=gp,aP:=bj v.aP gp,cF:=some j'}) yS fun r rj=>by rw [hr,hj] at rj;obtain⟨_,rj⟩:=aC rj;unfold fM at rj;rw [show (c'.aj != 12)=false by simp [h12]] at rj;obtain⟨_,rj⟩:=aC (rj:(T.aE _ _).val=_);cases rj;rfl
     have hb:=Gh hi (c:=gp) (.inr (.inl rfl));obtain⟨k'',h''⟩:=nP (v1:={v with answer:=c'.qB,aO:=0,call:=gp,aP:=bj v.aP gp,cF:=some j'}) h' fun r rj=>by unfold cd eF at rj;rw [Br hb.1] at rj;cases rj;rfl
     have e:=sP h'' (by unfold cd eF;rfl);subst e;exact⟨rfl,fun _=>⟨rfl,he,hb.1⟩,fun h=>by unfold qk at h;omega⟩
    ·have hb:=Qx hi hac;obtain⟨k',h'⟩:=nP (v1:={v with aO:=2,call:=c',aP:=bj v.aP c',cF:=some j'}) yS fun r rj=>by rw [hr,hj] at rj;obtain⟨_,rj⟩:=aC rj;unfold fM at rj;rw [show (c'.aj != 12)=true by unfold qk at hac;simp;omega] at rj;obtain⟨_,rj⟩:=aC (rj:(T.aE _ _).val=_);cases rj;rfl
     have e:=sP h' (by unfold cd eF;rw [HP hb];rfl);subst e;exact⟨rfl,fun h=>by unfold qk at hac;omega,fun _=>⟨rfl,he,rfl,rfl,hb,hac⟩⟩
theorem nB {v:aA} {c c':Cl} {j j':dV} {p:ah} {f:Nat} (h:akf v c j) (pf:tz (eO v p)=true) (hj:Uf f j (abJ c (p.aV (wa c)).1)=some (c',j')) (hc:c'.aj=12 \/ qk c') :
 (bo v p).1.real=0 /\ (bo v p).2.2=(p.aV (wa c)).2 /\ (bo v p).2.1.sort=v.sort /\ (c'.aj=12->agw (bo v p).2.1) /\ (qk c'->akf (bo v p).2.1 c' j'):=by
 have ea:(gw v.aP).1=wa c:=by unfold gw;rw [HP h.pd];exact h.pd.ac
 obtain⟨t1,t2⟩:=alQ h.pd h.ac (p.aV (wa c)).1;have ev:eO v p={v with aP:=bX v.aP (p.aV (wa c)).1}:=by unfold eO;rw [ea]
 have ai4:=ap2 hc (f:=f) (v:=eO v p) (j:=j) (by rw [ev];exact .inr h.dg) (by rw [ev];exact h.en) (by rw [ev];exact t1) (by rw [ev];exact h.jb) (by rw [ev];show Uf f j (bX _ _).bD=_;rw [t2];exact hj) (kJ pf);have fin:∀r,(mJ cond (fun _ t=>t) (fun s v'=>(s,v',(p.aV (wa c)).2)) (fun _=>true) jI (eO v p) r).1.real=r /\ (mJ cond (fun _ t=>t) (fun s v'=>(s,v',(p.aV (wa c)).2)) (fun _=>true) jI (eO v p) r).2=(jI (eO v p),(p.aV (wa c)).2):=fun r=>by unfold mJ;cases ((jI (eO v p)).aO==0)<;>exact⟨rfl,rfl⟩
 have key:bo v p=mJ cond (fun _ t=>t) (fun s v'=>(s,v',(p.aV (wa c)).2)) (fun _=>true) jI (eO v p) 0:=by unfold bo lW;rw [ea,h.cl,h.en,show gT (eO v p).aP=false by rw [ev];exact Br t1];have hac:=h.ac;unfold qk at hac;rcases hac with e | e | e | e | e | e<;>simp only [e,wa]<;>rfl
 obtain⟨f1,f2⟩:=fin 0;rw [key];refine⟨f1,by rw [f2],by rw [f2];exact ai4.1.trans (by rw [ev]),fun e=>?_,fun e=>?_⟩
 ·rw [f2];exact ai4.2.1 e
 ·rw [f2];exact ai4.2.2 e
end
section
open Go Go.Sx Go.Proofs
structure AH where
 bd:Int->W
 cl:Int->Int->W
 lv:Int->Int->Prop
namespace AH
def bM (h:AH) (a:Ad):Prop:=(a.s=0 /\ a.g=0 /\ 0<=a.f /\ a.f < 18) \/ (1<=a.s /\ h.lv a.s a.g /\ 0<=a.f /\ a.f < 8)
def rd (h:AH) (a:Ad):W:=if a.s=0 then h.bd a.f else h.cl a.s a.f
def wr (h:AH) (a:Ad) (w:W):AH:=if a.s=0 then {h with bd:=fun f=>if f=a.f then w else h.bd f} else {h with cl:=fun s f=>if s=a.s /\ f=a.f then w else h.cl s f}
def new (h:AH) (s g:Int):AH:={h with cl:=fun t f=>if t=s then aq else h.cl t f,lv:=fun t g'=>if t=s then g'=g else h.lv t g'}
def KK (h:AH) (s:Int):AH:={h with lv:=fun t g=>t≠s /\ h.lv t g}
def Wp (h:AH) (c:Cl) (K:cJ->AH->Prop):Prop :=
 if c.aj=3 \/ c.aj=6 then h.bM c.dh /\ K ⟨h.rd c.dh,true⟩ h
 else if c.aj=4 then h.bM c.dh /\ K ⟨aq,true⟩ (h.wr c.dh c.new)
 else if c.aj=5 then h.bM c.dh /\ cond (lG (h.rd c.dh) c.dy) (K ⟨h.rd c.dh,true⟩ (h.wr c.dh c.new)) (K ⟨h.rd c.dh,false⟩ h)
 else if c.aj=7 then K ⟨aq,true⟩ h
 else if c.aj=8 then K ⟨aq,false⟩ h /\ ∀s g,1<=s->(∀g',¬h.lv s g')->K ⟨⟨s,g,0,0,false⟩,true⟩ (h.new s g)
 else if c.aj=9 \/ c.aj=10 then 1<=c.dy.ae /\ h.lv c.dy.ae c.dy.gen /\ K ⟨aq,true⟩ (h.KK c.dy.ae)
 else False
variable {h:AH} {K:cJ->AH->Prop} {a:Ad} {w o:W} {i j:Int}
theorem dv (hv:h.bM a) (k:K ⟨h.rd a,true⟩ h):h.Wp (bC a) K:=⟨hv,k⟩
theorem gG (hv:h.bM a) (k:K ⟨h.rd a,true⟩ h):h.Wp (bL a i) K:=⟨hv,k⟩
theorem iw (hv:h.bM a) (k:K ⟨aq,true⟩ (h.wr a w)):h.Wp (cW a w) K:=⟨hv,k⟩
theorem nI (w:W):lG w w=true:=by unfold lG;simp
theorem hP (hv:h.bM a) (ho:h.rd a=o) (k:K ⟨o,true⟩ (h.wr a w)):h.Wp (cr a o w) K:=by refine⟨hv,?_⟩;show cond (lG (h.rd a) o) (K ⟨h.rd a,true⟩ (h.wr a w)) (K ⟨h.rd a,false⟩ h);rw [ho,nI];exact k
theorem mE (k:K ⟨aq,true⟩ h):h.Wp (pj i j) K:=k
theorem rV (k0:K ⟨aq,false⟩ h) (k:∀n:W,1<=n.ae->(∀g',¬h.lv n.ae g')->K ⟨n,true⟩ (h.new n.ae n.gen)):h.Wp kP K:=⟨k0,fun s g=>k ⟨s,g,0,0,false⟩⟩
theorem Jw (h1:1<=w.ae) (hl:h.lv w.ae w.gen) (k:K ⟨aq,true⟩ (h.KK w.ae)):h.Wp (qz w) K:=⟨h1,hl,k⟩
theorem wx (h1:1<=w.ae) (hl:h.lv w.ae w.gen) (k:K ⟨aq,true⟩ (h.KK w.ae)):h.Wp (kD w) K:=⟨h1,hl,k⟩
theorem wp_mono {c:Cl} {K':cJ->AH->Prop} (hk:∀x h',K x h'->K' x h') (hw:h.Wp c K):h.Wp c K':=by
 unfold Wp at hw ⊢;split
 ·rename_i e;rw [if_pos e] at hw;exact⟨hw.1,hk _ _ hw.2⟩
 rename_i e;rw [if_neg e] at hw;clear e;split
 ·rename_i e;rw [if_pos e] at hw;exact⟨hw.1,hk _ _ hw.2⟩
 rename_i e;rw [if_neg e] at hw;clear e;split
 ·rename_i e;rw [if_pos e] at hw;refine⟨hw.1,?_⟩;have:=hw.2;cases hs:lG (h.rd c.dh) c.dy with
  | true=>rw [hs] at this;exact hk _ _ this
  | false=>rw [hs] at this;exact hk _ _ this
 rename_i e;rw [if_neg e] at hw;clear e;split
 ·rename_i e;rw [if_pos e] at hw;exact hk _ _ hw
 rename_i e;rw [if_neg e] at hw;clear e;split
 ·rename_i e;rw [if_pos e] at hw;exact⟨hk _ _ hw.1,fun s g h1 h2=>hk _ _ (hw.2 s g h1 h2)⟩
 rename_i e;rw [if_neg e] at hw;clear e;split
 ·rename_i e;rw [if_pos e] at hw;exact⟨hw.1,hw.2.1,hk _ _ hw.2.2⟩
 rename_i e;rw [if_neg e] at hw;exact hw
theorem mq {b:Ad}:(h.wr a w).rd b=if b.s=a.s /\ b.f=a.f then w else h.rd b:=by
 unfold wr rd;by_cases e:a.s=0
 ·rw [if_pos e,e];dsimp only;by_cases eb:b.s=0
  ·rw [if_pos eb,if_pos eb];by_cases ef:b.f=a.f
   ·rw [if_pos ef,if_pos ⟨eb,ef⟩]
   ·rw [if_neg ef,if_neg fun x=>ef x.2]
  ·rw [if_neg eb,if_neg eb,if_neg fun x=>eb x.1]
 ·rw [if_neg e];dsimp only;by_cases eb:b.s=0
  ·rw [if_pos eb,if_pos eb,if_neg fun x:b.s=a.s /\ b.f=a.f=>e (x.1▸eb)]
  ·rw [if_neg eb,if_neg eb]
theorem dm:(h.wr a w).lv=h.lv:=by unfold wr;split<;>rfl
theorem yZ {b:Ad}:(h.wr a w).bM b↔h.bM b:=by unfold bM;rw [dm]
theorem ahB {s:Int} {b:Ad}:(h.KK s).rd b=h.rd b:=rfl
theorem Bk {s g t g':Int}:(h.new s g).lv t g'↔if t=s then g'=g else h.lv t g':=Iff.rfl
theorem b4 {f:Int} (h0:0<=f) (h1:f < 18):h.bM (bc f):=.inl ⟨rfl,rfl,h0,h1⟩
theorem bm {f:Int} (h1:1<=w.ae) (hl:h.lv w.ae w.gen) (h0:0<=f) (h8:f < 8):h.bM (az w f):=.inr ⟨h1,hl,h0,h8⟩
end AH
def uk (k:Int):Nat:=if k=6 then 5 else if k=8 then 2 else if k=10 then 100 else 1
theorem C2 (k:Int):1<=uk k:=by
 unfold uk;split
 ·decide
 ·split
  ·decide
  ·split<;>decide
def pA {α:Type} (nx:α->cJ->Cl×α) (Q:An->AH->Prop):Bool->Nat->Nat->AH->Cl×α->Prop
 | _,0,_,_,_=>False
 | b,f+1,k,h,r=>(r.1.aj=12 /\ Q r.1.qB h) \/ (uk r.1.aj<=k /\ ((r.1.aj≠10 /\ h.Wp r.1 fun x h'=>pA nx Q b f (k - uk r.1.aj) h' (nx r.2 x)) \/ (r.1.aj=10 /\ b=true /\ h.Wp r.1 fun x h'=>pA nx Q false f (k - uk r.1.aj) h' (nx r.2 x))))
def jU {α:Type} (nx:α->cJ->Cl×α) (Q:An->AH->Prop) (b:Bool) (k:Nat) (h:AH) (r:Cl×α):Prop:=pA nx Q b (k+1) k h r
abbrev cB {α:Type} (nx:α->cJ->Cl×α) (Q:An->AH->Prop):=jU nx Q true
noncomputable abbrev kQ:=cB dV.next
section
variable {α:Type} {nx:α->cJ->Cl×α} {b:Bool}
theorem eU {Q Q':An->AH->Prop} (hQ:∀a h,Q a h->Q' a h):∀{f f' k k':Nat} {b b':Bool} {h:AH} {r:Cl×α},f<=f'->k<=k'->(b=true->b'=true)->pA nx Q b f k h r->pA nx Q' b' f' k' h r
 | 0,_,_,_,_,_,_,_,_,_,_,hh=>hh.elim
 | f+1,0,_,_,_,_,_,_,hle,_,_,_=>by omega
 | f+1,f'+1,k,k',b,b',h,r,hle,hk,hb,hh=>by
   rcases hh with⟨e,q⟩ | ⟨hn,⟨e,hw⟩ | ⟨e,e2,hw⟩⟩
   ·exact .inl ⟨e,hQ _ _ q⟩
   ·exact .inr ⟨abz hn hk,.inl ⟨e,AH.wp_mono (fun x h' hx=>eU hQ (by omega) (by omega) hb hx) hw⟩⟩
   ·exact .inr ⟨abz hn hk,.inr ⟨e,hb e2,AH.wp_mono (fun x h' hx=>eU hQ (by omega) (by omega) id hx) hw⟩⟩
theorem bW {Q Q':An->AH->Prop} (hQ:∀a h,Q a h->Q' a h) {k k':Nat} {h:AH} {r:Cl×α} (hk:k<=k') (hh:jU nx Q b k h r):jU nx Q' b k' h r:=eU hQ (by omega) hk id hh
theorem qt {Q:An->AH->Prop}:∀{f k:Nat} {b:Bool} {h:AH} {r:Cl×α},pA nx Q b f k h r->jU nx Q b k h r
 | 0,_,_,_,_,hh=>hh.elim
 | f+1,k,b,h,r,hh=>by
   have:=C2 r.1.aj;rcases hh with q | ⟨hn,⟨e,hw⟩ | ⟨e,e2,hw⟩⟩
   ·exact .inl q
   ·exact .inr ⟨hn,.inl ⟨e,AH.wp_mono (fun x h' hx=>eU (fun _ _ h=>h) (by omega) (ab4 _) id (qt hx)) hw⟩⟩
   ·exact .inr ⟨hn,.inr ⟨e,e2,AH.wp_mono (fun x h' hx=>eU (fun _ _ h=>h) (by omega) (ab4 _) id (qt hx)) hw⟩⟩
theorem yH {Q:An->AH->Prop} {f k:Nat} {h:AH} {r:Cl×α} (hn:r.1.aj≠10) (hk:uk r.1.aj<=k) (hw:h.Wp r.1 fun x h'=>pA nx Q b f (k - uk r.1.aj) h' (nx r.2 x)):pA nx Q b (f+1) k h r:=.inr ⟨hk,.inl ⟨hn,hw⟩⟩
theorem Qg {Q:An->AH->Prop} {k w:Nat} {h:AH} {r:Cl×α} (hn:r.1.aj≠10) (e:uk r.1.aj<=w) (hw:h.Wp r.1 fun x h'=>jU nx Q b k h' (nx r.2 x)):jU nx Q b (k+w) h r:=by have:=C2 r.1.aj;exact yH hn (by omega) (AH.wp_mono (fun x h' hx=>eU (fun _ _ h=>h) (by omega) (by omega) id hx) hw)
theorem ya {k:Int} (h:uk k < 100):k≠10:=fun e=>by subst e;exact absurd h (by decide)
theorem bF {Q:An->AH->Prop} {k:Nat} {h:AH} {r:Cl×α} (hw:h.Wp r.1 fun x h'=>jU nx Q b k h' (nx r.2 x)) (e:uk r.1.aj=1:=by rfl):jU nx Q b (k+1) h r:=Qg (ya (by omega)) (by omega) hw
theorem z5 {Q:An->AH->Prop} {k:Nat} {h:AH} {r:Cl×α} (hw:h.Wp r.1 fun x h'=>jU nx Q b k h' (nx r.2 x)) (e:uk r.1.aj=5:=by rfl):jU nx Q b (k+5) h r:=Qg (ya (by omega)) (by omega) hw
theorem z7 {Q:An->AH->Prop} {k:Nat} {h:AH} {r:Cl×α} (hw:h.Wp r.1 fun x h'=>jU nx Q b k h' (nx r.2 x)) (e:uk r.1.aj=2:=by rfl):jU nx Q b (k+2) h r:=Qg (ya (by omega)) (by omega) hw
theorem z2 {Q:An->AH->Prop} {k:Nat} {h:AH} {r:Cl×α} (hw:h.Wp r.1 fun x h'=>jU nx Q false k h' (nx r.2 x)) (e:r.1.aj=10:=by rfl):cB nx Q (k+100) h r:=by
 have ew:uk r.1.aj=100:=by rw [e];rfl
 exact .inr ⟨by omega,.inr ⟨e,rfl,AH.wp_mono (fun x h' hx=>eU (fun _ _ h=>h) (by omega) (by omega) id hx) hw⟩⟩
theorem cP {Q:An->AH->Prop} {k:Nat} {h:AH} {r:Cl×α} (e:r.1.aj=12) (hq:Q r.1.qB h):jU nx Q b k h r:=.inl ⟨e,hq⟩
theorem z6 {β:Type} {nb:β->cJ->Cl×β} {f:α->β} (hf:∀a x,nb (f a) x=((nx a x).1,f (nx a x).2)) {Q:An->AH->Prop} {k:Nat} {h:AH} {r:Cl×α} (hh:jU nx Q b k h r):jU nb Q b k h (r.1,f r.2):=by
 have go:∀{g k:Nat} {b:Bool} {h:AH} {r:Cl×α},pA nx Q b g k h r->pA nb Q b g k h (r.1,f r.2):=fun {g}=>by
  induction g with
  | zero=>exact fun hh=>hh.elim
  | succ g ih =>
    intro k b h r hh;rcases hh with q | ⟨hn,⟨e,hw⟩ | ⟨e,e2,hw⟩⟩
    ·exact .inl q
    ·exact .inr ⟨hn,.inl ⟨e,AH.wp_mono (fun x h' hx=>by rw [hf];exact ih hx) hw⟩⟩
    ·exact .inr ⟨hn,.inr ⟨e,e2,AH.wp_mono (fun x h' hx=>by rw [hf];exact ih hx) hw⟩⟩
 exact go hh
end
end
section
open Go Go.Sx Go.Proofs AH
namespace AH
variable {h:AH} {w v:W} {f k s g:Int}
theorem gz (h1:1<=w.ae):(h.wr (az w f) v).cl s k=if s=w.ae /\ k=f then v else h.cl s k:=by unfold wr;rw [if_neg (show ¬(az w f).s=0 by show ¬w.ae=0;omega)];rfl
theorem uz (h1:1<=w.ae):(h.wr (az w f) v).bd=h.bd:=by unfold wr;rw [if_neg (show ¬(az w f).s=0 by show ¬w.ae=0;omega)]
theorem N6:(h.wr (bc f) v).cl=h.cl:=rfl
theorem SH:(h.wr (bc f) v).bd k=if k=f then v else h.bd k:=rfl
theorem m6 {t:Int}:(h.new s g).cl t k=if t=s then aq else h.cl t k:=rfl
end AH
structure Nd where
 s:Int
 g:Int
 v:Int
def lC (h:AH):W->List Nd->Prop
 | w,[]=>w.ae=0
 | w,x::l=>w.ae=x.s /\ w.gen=x.g /\ 1<=x.s /\ h.lv x.s x.g /\ (h.cl x.s 1).bU=x.v /\ lC h (h.cl x.s 2) l
theorem pG {h h':AH}:∀{l:List Nd} {w:W},lC h w l->(∀x∈l,h.lv x.s x.g->h'.lv x.s x.g /\ h'.cl x.s 1=h.cl x.s 1 /\ h'.cl x.s 2=h.cl x.s 2)->lC h' w l
 | [],_,hp,_=>hp
 | x::l,w,⟨a,b,c,d,e,f⟩,hf=>by obtain⟨f1,f2,f3⟩:=hf x aaV d;exact⟨a,b,c,f1,by rw [f2];exact e,by rw [f3];exact pG f fun y hy=>hf y (aaW _ hy)⟩
theorem A4 {h:AH}:∀{l:List Nd} {w:W},lC h w l->∀x∈l,h.lv x.s x.g
 | x::l,w,⟨a,b,c,d,e,f⟩,y,hy=>by
   rcases aaO.1 hy with rfl | hy
   ·exact d
   ·exact A4 f y hy
def m8 (h:AH) (vs:List Int):Prop:=∃l,lC h (h.bd 0) l /\ (l.map Nd.s).Nodup /\ l.map Nd.v=vs
def ap7 (o:O) (vs:List Int) (a:An) (h:AH):Prop :=
 (o.aj=1 /\ ((a=⟨1,0⟩ /\ m8 h (o.val::vs)) \/ (a=⟨4,0⟩ /\ m8 h vs)))
 \/ (o.aj≠1 /\ vs=[] /\ a=⟨2,0⟩ /\ m8 h [])
 \/ (∃v r,vs=v::r /\ a=⟨1,v⟩ /\ ((o.aj=2 /\ m8 h r) \/ (o.aj=3 /\ m8 h vs)))
theorem kr {w:W} (e:w.ae=0):(w.ae==0)=true:=by rw [e];rfl
theorem gL {w:W} (e:1<=w.ae):(w.ae==0)=false:=by
 cases hb:w.ae==0 with
 | false=>rfl
 | true=>have:=Sm hb;omega
theorem zp (k:Int) (key val bI:Int) (w:W) {b:Bool} (hb:(w.ae==0)=b) (hk:k=2 \/ k=3):(dV.eu ⟨1,bf,⟨k,key,val,bI⟩,aq,aq,0⟩).next ⟨w,true⟩ =
 cond b (jS 2 0,.eu ⟨-1,jS 2 0,⟨k,key,val,bI⟩,aq,w,0⟩) (cond (k==3) (bC (az w 1),.eu ⟨4,bf,⟨k,key,val,bI⟩,aq,w,0⟩) (bC (az w 2),.eu ⟨2,bf,⟨k,key,val,bI⟩,aq,w,0⟩)):=by
 subst hb;rcases hk with rfl | rfl<;>(unfold dV.next oJ HN;dsimp only;cases w.ae==0<;>rfl)
theorem TL {h:AH} {vs:List Int} (hi:m8 h vs) {o:O} (ho:o.aj=1 \/ o.aj=2 \/ o.aj=3):kQ (ap7 o vs) 120 h ((iE 1 o).next ⟨aq,true⟩):=by
 obtain⟨l,hp,hn,rfl⟩:=hi;obtain⟨kd,key,val,bI⟩:=o;dsimp only at ho;rcases ho with rfl | rfl | rfl
 ·refine z7 (rV (cP rfl (.inl ⟨rfl,.inr ⟨rfl,l,hp,hn,rfl⟩⟩)) fun n h1 hf=>?_);have Av:(h.new n.ae n.gen).lv n.ae n.gen:=by show if n.ae=n.ae then n.gen=n.gen else _;rw [if_pos rfl]
  have hs:∀x∈l,x.s≠n.ae:=fun x hx e=>hf x.g (e▸A4 hp x hx);show kQ _ _ _ (cW (az n 1) (dZ val),.eu ⟨2,bf,⟨1,key,val,bI⟩,n,aq,0⟩);refine bF (iw (bm h1 Av (by decide) (by decide)) ?_);generalize e1:(h.new n.ae n.gen).wr (az n 1) (dZ val)=h2;have b2:h2.bd 0=h.bd 0:=by subst e1;rw [uz h1];rfl
  show kQ _ _ _ (bC (bc 0),.eu ⟨3,bf,⟨1,key,val,bI⟩,n,aq,0⟩);refine bF (dv (b4 (by decide) (by decide)) ?_);show kQ _ _ _ (cW (az n 2) (dB (h2.bd 0)),.eu ⟨4,bf,⟨1,key,val,bI⟩,n,h2.bd 0,0⟩);rw [b2];refine bF (iw (bm h1 (by subst e1;rw [dm];exact Av) (by decide) (by decide)) ?_);generalize e3:h2.wr (az n 2) (dB (h.bd 0))=h3;show kQ _ _ _ (cr (bc 0) (h.bd 0) (iV (h.bd 0) n),.eu ⟨5,bf,⟨1,key,val,bI⟩,n,h.bd 0,0⟩);refine bF (hP (b4 (by decide) (by decide)) (by subst e3;show (h2.wr _ _).bd 0=_;rw [uz h1,b2]) ?_);refine cP rfl (.inl ⟨rfl,.inl ⟨rfl,⟨n.ae,n.gen,val⟩::l,?_,?_,rfl⟩⟩)
  ·rw [SH,if_pos rfl];have c3:∀x k,x≠n.ae->h3.cl x k=h.cl x k:=fun x k hx=>by subst e3;rw [gz h1,if_neg fun e=>hx e.1];subst e1;rw [gz h1,if_neg fun e=>hx e.1,AH.m6,if_neg hx]
   refine⟨rfl,rfl,h1,?_,?_,?_⟩
   ·subst e3 e1;rw [dm,dm,dm];exact Av
   ·subst e3 e1;rw [N6,gz h1,if_neg (by rintro ⟨_,e⟩;cases e),gz h1,if_pos ⟨rfl,rfl⟩];rfl
   ·rw [N6,show h3.cl n.ae 2=dB (h.bd 0) by subst e3;rw [gz h1,if_pos ⟨rfl,rfl⟩]];have hp2:lC h (dB (h.bd 0)) l:=by cases l<;>exact hp
    refine pG hp2 fun x hx hl=>⟨?_,by rw [N6];exact c3 _ _ (hs x hx),by rw [N6];exact c3 _ _ (hs x hx)⟩;subst e3 e1;rw [dm,dm,dm,Bk,if_neg (hs x hx)];exact hl
  ·rw [aaU,ads];refine⟨fun hm=>?_,hn⟩;obtain⟨x,hx,e⟩:=ac0.1 hm;exact hs x hx e
 ·refine z5 (gG (b4 (by decide) (by decide)) ?_);cases l with
  | nil =>have hp:(h.bd 0).ae=0:=hp;show kQ _ _ h ((dV.eu ⟨1,bf,⟨2,key,val,bI⟩,aq,aq,0⟩).next ⟨h.bd 0,true⟩);rw [zp 2 key val bI _ (kr hp) (by decide)];exact cP rfl (.inr (.inl ⟨by show (2:Int)≠1;decide,rfl,rfl,[],hp,hn,rfl⟩))
  | cons x l =>
    obtain⟨a,b,c,d,e,f⟩:=hp;have ha:1<=(h.bd 0).ae:=by omega
    show kQ _ _ h ((dV.eu ⟨1,bf,⟨2,key,val,bI⟩,aq,aq,0⟩).next ⟨h.bd 0,true⟩);rw [zp 2 key val bI _ (gL ha) (by decide)];have hl:h.lv (h.bd 0).ae (h.bd 0).gen:=by rw [a,b];exact d
    show kQ _ _ h (bC (az (h.bd 0) 2),.eu ⟨2,bf,⟨2,key,val,bI⟩,aq,h.bd 0,0⟩);refine bF (dv (bm ha hl (by decide) (by decide)) ?_);generalize e2:h.rd (az (h.bd 0) 2)=nx;have hnx:nx=h.cl x.s 2:=by rw [<- e2];unfold rd;rw [if_neg (by show ¬(h.bd 0).ae=0;omega)];show h.cl (h.bd 0).ae 2=_;rw [a]
    show kQ _ _ h (cr (bc 0) (h.bd 0) (iV (h.bd 0) nx),.eu ⟨3,bf,⟨2,key,val,bI⟩,aq,h.bd 0,0⟩);refine bF (hP (b4 (by decide) (by decide)) rfl ?_);generalize e3:h.bd 0=tp at *;generalize e4:h.wr (bc 0) (iV tp nx)=h4;have c4:h4.cl=h.cl:=by subst e4;rfl
    have l4:h4.lv=h.lv:=by subst e4;rfl
    show kQ _ _ h4 (bC (az tp 1),.eu ⟨4,bf,⟨2,key,val,bI⟩,aq,tp,0⟩);refine bF (dv (bm ha (by rw [l4];exact hl) (by decide) (by decide)) ?_);have hv:(h4.rd (az tp 1)).bU=x.v:=by unfold rd;rw [if_neg (by show ¬tp.ae=0;omega)];show (h4.cl tp.ae 1).bU=_;rw [c4,a];exact e
    show kQ _ _ h4 (kD tp,.eu ⟨5,bf,⟨2,key,val,bI⟩,aq,tp,(h4.rd (az tp 1)).bU⟩);rw [hv];refine z2 (wx ha (by rw [l4];exact hl) ?_);rw [aaU,ads] at hn;refine cP rfl (.inr (.inr ⟨x.v,l.map Nd.v,rfl,rfl,.inl ⟨rfl,l,?_,hn.2,rfl⟩⟩));show lC (h4.KK tp.ae) (h4.bd 0) l;have hb:h4.bd 0=iV tp nx:=by subst e4;rfl
    rw [hb];have f2:lC h (iV tp nx) l:=by rw [hnx];cases l<;>exact f
    refine pG f2 fun y hy hly=>⟨⟨fun ey=>hn.1 (ac0.2 ⟨y,hy,by rw [ey,a]⟩),by rw [l4];exact hly⟩,by show h4.cl _ _=_;rw [c4],by show h4.cl _ _=_;rw [c4]⟩
 ·refine z5 (gG (b4 (by decide) (by decide)) ?_);cases l with
  | nil =>have hp:(h.bd 0).ae=0:=hp;show kQ _ _ h ((dV.eu ⟨1,bf,⟨3,key,val,bI⟩,aq,aq,0⟩).next ⟨h.bd 0,true⟩);rw [zp 3 key val bI _ (kr hp) (by decide)];exact cP rfl (.inr (.inl ⟨by show (3:Int)≠1;decide,rfl,rfl,[],hp,hn,rfl⟩))
  | cons x l =>
    have hp0:=hp;obtain⟨a,b,c,d,e,f⟩:=hp;have ha:1<=(h.bd 0).ae:=by omega
    show kQ _ _ h ((dV.eu ⟨1,bf,⟨3,key,val,bI⟩,aq,aq,0⟩).next ⟨h.bd 0,true⟩);rw [zp 3 key val bI _ (gL ha) (by decide)];have hl:h.lv (h.bd 0).ae (h.bd 0).gen:=by rw [a,b];exact d
    show kQ _ _ h (bC (az (h.bd 0) 1),.eu ⟨4,bf,⟨3,key,val,bI⟩,aq,h.bd 0,0⟩);refine bF (dv (bm ha hl (by decide) (by decide)) ?_);have hv:(h.rd (az (h.bd 0) 1)).bU=x.v:=by unfold rd;rw [if_neg (by show ¬(h.bd 0).ae=0;omega)];show (h.cl (h.bd 0).ae 1).bU=_;rw [a];exact e
    show kQ _ _ h (jS 1 (h.rd (az (h.bd 0) 1)).bU,_);rw [hv];exact cP rfl (.inr (.inr ⟨x.v,l.map Nd.v,rfl,rfl,.inr ⟨rfl,x::l,hp0,hn,rfl⟩⟩))
end
section
open Go Go.Sx Go.Proofs AH
theorem dQ {h:AH} {w:W} {f:Int} (h1:1<=w.ae):h.rd (az w f)=h.cl w.ae f:=by unfold rd;rw [if_neg (by show ¬w.ae=0;omega)];rfl
theorem xK {h:AH} {x:Nd}:∀{l:List Nd} {w:W},lC h w (l++[x])->(h.cl x.s 2).ae=0 /\ 1<=x.s /\ h.lv x.s x.g
 | [],w,⟨a,b,c,d,e,f⟩=>⟨f,c,d⟩
 | y::l,w,⟨a,b,c,d,e,f⟩=>xK f
theorem Cd {h h':AH} {x y:Nd} (hy:lC h' (h'.cl x.s 2) [y]) (hl:h'.lv x.s x.g) (h1:h'.cl x.s 1=h.cl x.s 1):∀{l:List Nd} {w:W},lC h w (l++[x])->(∀z∈l,h.lv z.s z.g->h'.lv z.s z.g /\ h'.cl z.s 1=h.cl z.s 1 /\ h'.cl z.s 2=h.cl z.s 2)->lC h' w (l++[x]++[y])
 | [],w,⟨a,b,c,d,e,f⟩,hf=>⟨a,b,c,hl,by rw [h1];exact e,hy⟩
 | z::l,w,⟨a,b,c,d,e,f⟩,hf=>by obtain⟨f1,f2,f3⟩:=hf z aaV d;exact⟨a,b,c,f1,by rw [f2];exact e,by rw [f3];exact Cd hy hl h1 f fun u hu=>hf u (aaW _ hu)⟩
def pP (h:AH) (vs:List Int):Prop:=∃d l p x,d::l=p++[x] /\ lC h (h.bd 0) (d::l) /\ ((d::l).map Nd.s).Nodup /\ (h.bd 1).ae=x.s /\ (h.bd 1).gen=x.g /\ l.map Nd.v=vs
def aqd (o:O) (vs:List Int) (a:An) (h:AH):Prop :=
 (o.aj=4 /\ ((a=⟨1,0⟩ /\ pP h (vs++[o.val])) \/ (a=⟨4,0⟩ /\ pP h vs)))
 \/ (o.aj=5 /\ ((vs=[] /\ a=⟨2,0⟩ /\ pP h []) \/ (∃v r,vs=v::r /\ a=⟨1,v⟩ /\ pP h r)))
theorem UN (key val bI:Int) (nd t n:W) {b:Bool} (hb:(n.ae==0)=b):(dV.dO ⟨5,bf,⟨4,key,val,bI⟩,nd,aq,t,n,0⟩).next ⟨t,true⟩ =
 cond (!b) (cr (bc 1) t (iV t n),.dO ⟨6,bf,⟨4,key,val,bI⟩,nd,aq,t,n,0⟩) (cr (az t 2) n (iV n nd),.dO ⟨7,bf,⟨4,key,val,bI⟩,nd,aq,t,n,0⟩):=by
 subst hb;unfold dV.next mY FZ;dsimp only;rw [nI];cases n.ae==0<;>rfl
theorem I9 (key val bI:Int) (h t n:W) {b c:Bool} (hb:(n.ae==0)=b) (hc:(h.ae==t.ae)=c):(dV.dO ⟨4,bf,⟨5,key,val,bI⟩,aq,h,t,n,0⟩).next ⟨h,true⟩ =
 cond b (jS 2 0,.dO ⟨-1,jS 2 0,⟨5,key,val,bI⟩,aq,h,t,n,0⟩) (cond c (cr (bc 1) t (iV t n),.dO ⟨5,bf,⟨5,key,val,bI⟩,aq,h,t,n,0⟩) (bC (az n 1),.dO ⟨6,bf,⟨5,key,val,bI⟩,aq,h,t,n,0⟩)):=by
 subst hb;subst hc;unfold dV.next mY FZ;dsimp only;rw [nI];cases n.ae==0<;>cases h.ae==t.ae<;>rfl
theorem UO {h:AH} {vs:List Int} (hi:pP h vs) {o:O} (ho:o.aj=4 \/ o.aj=5):kQ (aqd o vs) 120 h ((iE 2 o).next ⟨aq,true⟩):=by
 obtain⟨d,l,p,x,Un,hp,hn,ht,htg,rfl⟩:=hi;obtain⟨kd,key,val,bI⟩:=o;dsimp only at ho;rcases ho with rfl | rfl
 ·refine z7 (rV (cP rfl (.inl ⟨rfl,.inr ⟨rfl,d,l,p,x,Un,hp,hn,ht,htg,rfl⟩⟩)) fun n h1 hf=>?_);have Av:(h.new n.ae n.gen).lv n.ae n.gen:=by show if n.ae=n.ae then n.gen=n.gen else _;rw [if_pos rfl]
  have hs:∀y∈d::l,y.s≠n.ae:=fun y hy e=>hf y.g (e▸A4 hp y hy);rw [Un] at hp hn hs;obtain⟨x0,x1,xl⟩:=xK hp;have zP:x.s≠n.ae:=hs x (by simp);show kQ _ _ _ (cW (az n 1) (dZ val),.dO ⟨2,bf,⟨4,key,val,bI⟩,n,aq,aq,aq,0⟩);refine bF (iw (bm h1 Av (by decide) (by decide)) ?_);generalize e1:(h.new n.ae n.gen).wr (az n 1) (dZ val)=h2;have b2:h2.bd=h.bd:=by subst e1;rw [uz h1];rfl
  have c2:∀y k,y≠n.ae->h2.cl y k=h.cl y k:=fun y k hy=>by subst e1;rw [gz h1,if_neg fun e=>hy e.1,AH.m6,if_neg hy]
  have l2:∀y g,y≠n.ae->h.lv y g->h2.lv y g:=fun y g hy hl=>by subst e1;rw [dm,Bk,if_neg hy];exact hl
  have Vd:h2.lv n.ae n.gen:=by subst e1;rw [dm];exact Av
  have n1:(h2.cl n.ae 1).bU=val:=by subst e1;rw [gz h1,if_pos ⟨rfl,rfl⟩];rfl
  have n2:(h2.cl n.ae 2).ae=0:=by subst e1;rw [gz h1,if_neg (by rintro ⟨_,e⟩;cases e),AH.m6,if_pos rfl];rfl
  clear e1;show kQ _ _ h2 (bL (bc 1) 0,.dO ⟨3,bf,⟨4,key,val,bI⟩,n,aq,aq,aq,0⟩);refine z5 (gG (b4 (by decide) (by decide)) ?_);have et:h2.rd (bc 1)=h.bd 1:=congrFun b2 1;rw [et];generalize e3:h.bd 1=t at *;have t1:1<=t.ae:=by omega
  have tl:h2.lv t.ae t.gen:=by rw [ht,htg];exact l2 _ _ zP xl
  show kQ _ _ h2 (bC (az t 2),.dO ⟨4,bf,⟨4,key,val,bI⟩,n,aq,t,aq,0⟩);refine bF (dv (bm t1 tl (by decide) (by decide)) ?_);have en:h2.rd (az t 2)=h.cl x.s 2:=by rw [dQ t1,ht,c2 _ _ zP]
  show kQ _ _ h2 (bC (bc 1),.dO ⟨5,bf,⟨4,key,val,bI⟩,n,aq,t,h2.rd (az t 2),0⟩);refine bF (dv (b4 (by decide) (by decide)) ?_);rw [et];show kQ _ _ h2 ((dV.dO ⟨5,bf,⟨4,key,val,bI⟩,n,aq,t,h2.rd (az t 2),0⟩).next ⟨t,true⟩);rw [UN key val bI n t _ (kr (by rw [en];exact x0))];show kQ _ _ h2 (cr (az t 2) (h2.rd (az t 2)) (iV (h2.rd (az t 2)) n),.dO ⟨7,bf,⟨4,key,val,bI⟩,n,aq,t,h2.rd (az t 2),0⟩);refine bF (hP (bm t1 tl (by decide) (by decide)) rfl ?_);generalize (iV (h2.rd (az t 2)) n)=w3,(show (iV (h2.rd (az t 2)) n).ae=n.ae /\ (iV (h2.rd (az t 2)) n).gen=n.gen from⟨rfl,rfl⟩)=hw3;show kQ _ _ _ (cr (bc 1) t (iV t n),.dO ⟨8,bf,⟨4,key,val,bI⟩,n,aq,t,h2.rd (az t 2),0⟩);refine bF (hP (b4 (by decide) (by decide)) ?_ ?_)
  ·show (h2.wr _ _).bd 1=_;rw [uz t1];exact et
  ·refine cP rfl (.inl ⟨rfl,.inl ⟨rfl,d,l++[⟨n.ae,n.gen,val⟩],p++[x],⟨n.ae,n.gen,val⟩,?_,?_,?_,rfl,rfl,?_⟩⟩)
   ·rw [<- Un];rfl
   ·rw [<- acY,Un];have l3:((h2.wr (az t 2) w3).wr (bc 1) (iV t n)).lv=h2.lv:=by rw [dm,dm]
    have c3:∀y k,((h2.wr (az t 2) w3).wr (bc 1) (iV t n)).cl y k=if y=x.s /\ k=2 then w3 else h2.cl y k:=fun y k=>by rw [N6,gz t1,ht]
    have b3:((h2.wr (az t 2) w3).wr (bc 1) (iV t n)).bd 0=h.bd 0:=by show (h2.wr (az t 2) w3).bd 0=_;rw [uz t1,b2]
    show lC _ (((h2.wr (az t 2) w3).wr (bc 1) (iV t n)).bd 0) _;rw [b3];generalize (h2.wr (az t 2) w3).wr (bc 1) (iV t n)=h3 at *;rw [adA,afN] at hn;obtain⟨_,_,hn⟩:=hn;refine Cd (h:=h) ⟨?_,?_,h1,by rw [l3];exact Vd,?_,?_⟩ (by rw [l3];exact l2 _ _ zP xl) ?_ hp fun z hz GP=>?_
    ·rw [c3,if_pos ⟨rfl,rfl⟩];exact hw3.1
    ·rw [c3,if_pos ⟨rfl,rfl⟩];exact hw3.2
    ·show (h3.cl n.ae 1).bU=val;rw [c3,if_neg fun e=>zP e.1.symm];exact n1
    ·show (h3.cl n.ae 2).ae=0;rw [c3,if_neg fun e=>zP e.1.symm];exact n2
    ·rw [c3,if_neg (by rintro ⟨_,e⟩;cases e),c2 _ _ zP]
    ·have Oy:z.s≠n.ae:=hs z (by simp [hz]);have hzx:z.s≠x.s:=hn _ (adf hz) _ (by simp);refine⟨by rw [l3];exact l2 _ _ Oy GP,?_,?_⟩
     ·rw [c3,if_neg fun e=>hzx e.1,c2 _ _ Oy]
     ·rw [c3,if_neg fun e=>hzx e.1,c2 _ _ Oy]
   ·show ((d::l++[_]).map Nd.s).Nodup;rw [Un,adA,afN];refine⟨hn,by simp,fun a ha b hb e=>?_⟩;obtain⟨y,hy,rfl⟩:=ac0.1 ha;have hb:b=n.ae:=by simpa using hb
    exact hs y hy (e.trans hb)
   ·rw [adA];rfl
 ·refine z5 (gG (b4 (by decide) (by decide)) ?_);have hp0:=hp;obtain⟨a,b,c,dl,e,f⟩:=hp;generalize e3:h.bd 0=hd at *;have hd1:1<=hd.ae:=by omega
  have hdl:h.lv hd.ae hd.gen:=by rw [a,b];exact dl
  show kQ _ _ h (bC (bc 1),.dO ⟨2,bf,⟨5,key,val,bI⟩,aq,h.rd (bc 0),aq,aq,0⟩);rw [show h.rd (bc 0)=hd from e3];refine bF (dv (b4 (by decide) (by decide)) ?_);show kQ _ _ h (bL (az hd 2) 1,.dO ⟨3,bf,⟨5,key,val,bI⟩,aq,hd,h.bd 1,aq,0⟩);generalize e4:h.bd 1=t at *;refine z5 (gG (bm hd1 hdl (by decide) (by decide)) ?_);have en:h.rd (az hd 2)=h.cl d.s 2:=by rw [dQ hd1,a]
  rw [en];generalize e5:h.cl d.s 2=nx at *;show kQ _ _ h (bC (bc 0),.dO ⟨4,bf,⟨5,key,val,bI⟩,aq,hd,t,nx,0⟩);refine bF (dv (b4 (by decide) (by decide)) ?_);rw [show h.rd (bc 0)=hd from e3];show kQ _ _ h ((dV.dO ⟨4,bf,⟨5,key,val,bI⟩,aq,hd,t,nx,0⟩).next ⟨hd,true⟩);cases l with
  | nil =>rw [I9 key val bI hd t nx (kr f) rfl];exact cP rfl (.inr ⟨rfl,.inl ⟨rfl,rfl,d,[],p,x,Un,by rw [e3];exact hp0,hn,by rw [e4];exact ht,by rw [e4];exact htg,rfl⟩⟩)
  | cons y l =>
    obtain⟨a2,b2,c2,dl2,ee2,f2⟩:=f;have nx1:1<=nx.ae:=by omega
    have nxl:h.lv nx.ae nx.gen:=by rw [a2,b2];exact dl2
    obtain⟨p',hp'⟩:∃p',p=d::p' /\ y::l=p'++[x]:=by
     cases p with
     | nil=>cases Un
     | cons q p'=>rw [acY] at Un;injection Un with q1 q2;subst q1;exact⟨p',rfl,q2⟩
    obtain⟨rfl,G9⟩:=hp';have hn0:=hn;rw [aaU,ads] at hn;have atc:(hd.ae==t.ae)=false:=by
     cases hb:hd.ae==t.ae with
     | false=>rfl
     | true =>have hb:=Sm hb;exact absurd (ac0.2 ⟨x,by rw [G9];simp,by omega⟩) hn.1
    rw [I9 key val bI hd t nx (gL nx1) atc];show kQ _ _ h (bC (az nx 1),.dO ⟨6,bf,⟨5,key,val,bI⟩,aq,hd,t,nx,0⟩);refine bF (dv (bm nx1 nxl (by decide) (by decide)) ?_);have hv:(h.rd (az nx 1)).bU=y.v:=by rw [dQ nx1,a2];exact ee2
    show kQ _ _ h (cr (bc 0) hd (iV hd nx),.dO ⟨7,bf,⟨5,key,val,bI⟩,aq,hd,t,nx,(h.rd (az nx 1)).bU⟩);rw [hv];refine bF (hP (b4 (by decide) (by decide)) e3 ?_);show kQ _ _ _ (kD hd,.dO ⟨8,bf,⟨5,key,val,bI⟩,aq,hd,t,nx,y.v⟩);refine z2 (wx hd1 (by rw [dm];exact hdl) ?_);refine cP rfl (.inr ⟨rfl,.inr ⟨y.v,l.map Nd.v,rfl,rfl,y,l,p',x,G9,?_,hn.2,?_,?_,rfl⟩⟩)
    ·show lC ((h.wr (bc 0) (iV hd nx)).KK hd.ae) (iV hd nx) (y::l);have f3:lC h (iV hd nx) (y::l):=⟨a2,b2,c2,dl2,ee2,f2⟩;refine pG f3 fun z hz GP=>⟨⟨fun ez=>hn.1 (ac0.2 ⟨z,hz,by rw [ez,a]⟩),by rw [dm];exact GP⟩,rfl,rfl⟩
    ·show (h.bd 1).ae=_;rw [e4];exact ht
    ·show (h.bd 1).gen=_;rw [e4];exact htg
end
section
open Go Go.Sx Go.Proofs AH
structure Kn where
 s:Int
 g:Int
 k:Int
 v:Int
def Kn.dh (x:Kn):Ad:=⟨x.s,x.g,2⟩
def lh (h:AH):W->List Kn->Prop
 | w,[]=>w.ae=0 /\ w.mark=false
 | w,x::l=>w.ae=x.s /\ w.gen=x.g /\ w.mark=false /\ 1<=x.s /\ h.lv x.s x.g /\ (h.cl x.s 0).bU=x.k /\ (h.cl x.s 1).bU=x.v /\ lh h (h.cl x.s 2) l
def lR (h:AH) (key:Int):Ad->List Kn->bs->Prop
 | a,[],w=>w.prev=a /\ w.cur=h.rd a /\ w.found=false
 | a,x::l,w=>if key<=x.k then w.prev=a /\ w.cur=h.rd a /\ w.next=h.cl x.s 2 /\ w.found=(x.k==key) else lR h key x.dh l w
def GF (Q:bs->Prop) (h:AH):Nat->Nat->(Cl×Bool)×bs->Prop
 | 0,_,_=>False
 | f+1,k,r=>(r.1.2=false /\ Q r.2) \/ (r.1.2=true /\ uk r.1.1.aj<=k /\ r.1.1.aj≠10 /\ h.Wp r.1.1 fun x h'=>h'=h /\ GF Q h f (k - uk r.1.1.aj) (bh r.2 x))
def pz (Q:bs->Prop) (h:AH) (k:Nat) (r:(Cl×Bool)×bs):Prop:=GF Q h (k+1) k r
theorem uI {Q Q':bs->Prop} {h:AH} (hq:∀w,Q w->Q' w):∀{f f' k k':Nat} {r:(Cl×Bool)×bs},f<=f'->k<=k'->GF Q h f k r->GF Q' h f' k' r
 | 0,_,_,_,_,_,_,hh=>hh.elim
 | f+1,0,_,_,_,hle,_,_=>by omega
 | f+1,f'+1,k,k',r,hle,hk,hh=>by
   rcases hh with⟨e,q⟩ | ⟨e,hn,ht,hw⟩
   ·exact .inl ⟨e,hq _ q⟩
   ·exact .inr ⟨e,abz hn hk,ht,AH.wp_mono (fun x h' hx=>⟨hx.1,uI hq (by omega) (by omega) hx.2⟩) hw⟩
theorem DJ {Q Q':bs->Prop} {h:AH} (hq:∀w,Q w->Q' w) {k k':Nat} {r:(Cl×Bool)×bs} (hk:k<=k') (hh:pz Q h k r):pz Q' h k' r:=uI hq (by omega) hk hh
theorem QI {Q:bs->Prop} {h:AH} {k w:Nat} {r:(Cl×Bool)×bs} (ht:r.1.1.aj≠10) (e:r.1.2=true) (ew:uk r.1.1.aj<=w) (hw:h.Wp r.1.1 fun x h'=>h'=h /\ pz Q h k (bh r.2 x)):pz Q h (k+w) r:=by have:=C2 r.1.1.aj;exact .inr ⟨e,by omega,ht,AH.wp_mono (fun x h' hx=>⟨hx.1,uI (fun _ h=>h) (by omega) (by omega) hx.2⟩) hw⟩
theorem yT {Q:bs->Prop} {h:AH} {k:Nat} {r:(Cl×Bool)×bs} (e:r.1.2=true) (hw:h.Wp r.1.1 fun x h'=>h'=h /\ pz Q h k (bh r.2 x)) (ew:uk r.1.1.aj=1:=by rfl):pz Q h (k+1) r:=QI (ya (by omega)) e (by omega) hw
theorem Lh {Q:bs->Prop} {h:AH} {k:Nat} {r:(Cl×Bool)×bs} (e:r.1.2=true) (hw:h.Wp r.1.1 fun x h'=>h'=h /\ pz Q h k (bh r.2 x)) (ew:uk r.1.1.aj=5:=by rfl):pz Q h (k+5) r:=QI (ya (by omega)) e (by omega) hw
theorem yb {Q:bs->Prop} {h:AH} {k:Nat} {r:(Cl×Bool)×bs} (e:r.1.2=false) (q:Q r.2):pz Q h k r:=.inl ⟨e,q⟩
theorem C3 {α:Type} {na:α->cJ->Cl×α} {Q:An->AH->Prop} {Qw:bs->Prop} {h:AH} {J:bs->α} {co:bs->Cl×α} {K:Nat} (hJ:∀w x,na (J w) x=cond (bh w x).1.2 ((bh w x).1.1,J (bh w x).2) (co (bh w x).2)) (hc:∀w,Qw w->cB na Q K h (co w))
 {k:Nat} {w:bs} {x:cJ} (hw:pz Qw h k (bh w x)):cB na Q (k+K) h (na (J w) x):=by
 have go:∀{f k:Nat} {w:bs} {x:cJ},GF Qw h f k (bh w x)->pA na Q true (f+K+1) (k+K) h (na (J w) x):=fun {f}=>by
  induction f with
  | zero=>exact fun hw=>hw.elim
  | succ f ih =>
    intro k w x hw;rw [hJ];rcases hw with⟨e,q⟩ | ⟨e,hn,ht,hw⟩
    ·rw [e];exact eU (fun _ _ h=>h) (by omega) (by omega) id (hc _ q)
    ·rw [e,show f+1+K+1=(f+K+1)+1 by omega];refine yH ht (abz hn (by omega)) (AH.wp_mono (fun x h' hx=>?_) hw);obtain⟨rfl,hx⟩:=hx;exact eU (fun _ _ h=>h) (ab4 _) (by show _<=k+K - uk (bh w _).1.1.aj;omega) id (ih hx)
 exact qt (go hw)
section
variable {h:AH} {la:Cl} {st:Ad} {key:Int}
theorem aeK (pv:Ad) (cu nx:W) (k:Int) (fd:Bool) {w:W} (hm:w.mark=false) {b:Bool} (hb:(w.ae==0)=b):bh ⟨1,la,st,key,pv,cu,nx,k,fd⟩ ⟨w,true⟩=cond b ((bf,false),⟨-1,la,st,key,pv,w,nx,k,false⟩) ((bL (az w 2) 0,true),⟨2,la,st,key,pv,w,nx,k,fd⟩):=by subst hb;unfold bh B3;dsimp only;rw [hm];cases w.ae==0<;>rfl
theorem aeJ (pv:Ad) (cu nx:W) (k:Int) (fd:Bool) (hm:nx.mark=false) {b:Bool} (hb:decide (k>=key)=b):bh ⟨4,la,st,key,pv,cu,nx,k,fd⟩ ⟨cu,true⟩=cond b ((bf,false),⟨-1,la,st,key,pv,cu,nx,k,k==key⟩) ((pj 2 1,true),⟨7,la,st,key,az cu 2,cu,nx,k,fd⟩):=by subst hb;unfold bh B3;dsimp only;rw [nI,hm];cases decide (k>=key)<;>rfl
theorem aeH (pv:Ad) (cu nx:W) (k:Int) (fd:Bool) {b:Bool} (hb:(nx.ae==0)=b):bh ⟨7,la,st,key,pv,cu,nx,k,fd⟩ ⟨aq,true⟩=cond b ((bf,false),⟨-1,la,st,key,pv,nx,nx,k,false⟩) ((pj 1 0,true),⟨8,la,st,key,pv,nx,nx,k,fd⟩):=by subst hb;unfold bh B3;dsimp only;cases nx.ae==0<;>rfl
theorem QJ:∀{l:List Kn} {x:Kn} {pv:Ad} {cu nx:W} {k:Int} {fd:Bool},lh h cu (x::l)->h.bM pv->h.rd pv=cu ->
 pz (lR h key pv (x::l)) h (10 * (l.length+1)) ((bL (az cu 2) 0,true),⟨2,la,st,key,pv,cu,nx,k,fd⟩)
 | l,x,pv,cu,nx,k,fd,⟨a,b,m,c,d,e0,e1,f⟩,hv,hr=>by
   have Sz:1<=cu.ae:=by omega
   have cul:h.lv cu.ae cu.gen:=by rw [a,b];exact d
   rw [show 10 * (l.length+1)=(10 * l.length+2)+1+1+1+5 by omega];have n2:h.rd (az cu 2)=h.cl x.s 2:=by rw [dQ Sz,a]
   have n0:(h.rd (az cu 0)).bU=x.k:=by rw [dQ Sz,a];exact e0
   refine Lh rfl (gG (bm Sz cul (by decide) (by decide)) ⟨rfl,?_⟩);rw [n2];generalize en:h.cl x.s 2=w2 at *;have m2:w2.mark=false:=by cases l with
    | nil=>exact f.2
    | cons y l=>exact f.2.2.1
   refine yT rfl (dv (bm Sz cul (by decide) (by decide)) ⟨rfl,?_⟩);refine yT rfl (dv hv ⟨rfl,?_⟩);show pz _ h _ (bh ⟨4,la,st,key,pv,cu,w2,(h.rd (az cu 0)).bU,fd⟩ ⟨h.rd pv,true⟩);rw [hr,n0];by_cases hk:x.k>=key
   ·rw [aeJ pv cu w2 x.k fd m2 (aaC hk)];refine yb rfl ?_;unfold lR;rw [if_pos hk];exact⟨rfl,hr.symm,en.symm,rfl⟩
   ·rw [aeJ pv cu w2 x.k fd m2 (aaK hk)];refine yT rfl (mE ⟨rfl,?_⟩);show pz _ h (10 * l.length+2) (bh ⟨7,la,st,key,az cu 2,cu,w2,x.k,fd⟩ ⟨aq,true⟩);have ea:az cu 2=x.dh:=by unfold az Kn.dh;rw [a,b]
    have Cm:∀w,lR h key x.dh l w->lR h key pv (x::l) w:=fun w hw=>by unfold lR;rw [if_neg hk];exact hw
    cases l with
    | nil =>rw [aeH _ cu w2 x.k fd (kr f.1)];refine yb rfl (Cm _ ?_);exact⟨ea,by rw [<- ea];exact n2.symm,rfl⟩
    | cons y l =>rw [aeH _ cu w2 x.k fd (gL (by have:=f.1;have:=f.2.2.2.1;omega))];refine yT rfl (mE ⟨rfl,?_⟩);show pz _ h (10 * (l.length+1)+1) ((bL (az w2 2) 0,true),⟨2,la,st,key,az cu 2,w2,w2,x.k,fd⟩);rw [ea];exact DJ Cm (by omega) (QJ f (.inr ⟨c,d,by show (0:Int)<=2;decide,by show (2:Int) < 8;decide⟩) (by rw [<- ea];exact n2))
theorem yU {l:List Kn} (hv:h.bM st) (hl:lh h (h.rd st) l) {x:cJ}:pz (lR h key st l) h (10 * l.length+6) (bh (iD (st,key)) x):=by
 show pz _ h (10 * l.length+1+5) ((bL st 1,true),⟨1,bf,st,key,st,aq,aq,0,false⟩);refine Lh rfl (gG hv ⟨rfl,?_⟩);cases l with
 | nil =>rw [aeK _ _ _ _ _ hl.2 (kr hl.1)];exact yb rfl ⟨rfl,rfl,rfl⟩
 | cons y l =>rw [aeK _ _ _ _ _ hl.2.2.1 (gL (by have:=hl.1;have:=hl.2.2.2.1;omega))];exact DJ (fun _ h=>h) (by rw [aaQ];omega) (QJ hl hv rfl)
end
theorem l6 {h:AH} {key:Int}:∀{l:List Kn} {a:Ad} {w:bs},lR h key a l w->w.prev=a \/ ∃y∈l,w.prev=y.dh
 | [],a,w,hw=>.inl hw.1
 | x::l,a,w,hw=>by
   unfold lR at hw;by_cases hk:key<=x.k
   ·rw [if_pos hk] at hw;exact .inl hw.1
   ·rw [if_neg hk] at hw;rcases l6 hw with h1 | ⟨y,hy,h1⟩
    ·exact .inr ⟨x,aaV,h1⟩
    ·exact .inr ⟨y,aaW _ hy,h1⟩
theorem wv {h:AH} {key:Int}:∀{l:List Kn} {a:Ad} {w:bs},lR h key a l w->w.cur=h.rd w.prev
 | [],a,w,hw=>by rw [hw.1];exact hw.2.1
 | x::l,a,w,hw=>by
   unfold lR at hw;by_cases hk:key<=x.k
   ·rw [if_pos hk] at hw;rw [hw.1];exact hw.2.1
   ·rw [if_neg hk] at hw;exact wv hw
theorem ga {h:AH}:∀{l:List Kn} {w:W},lh h w l->∀x∈l,1<=x.s /\ h.lv x.s x.g
 | x::l,w,⟨a,b,m,c,d,e0,e1,f⟩,y,hy=>by
   rcases aaO.1 hy with rfl | hy
   ·exact⟨c,d⟩
   ·exact ga f y hy
theorem uH {h:AH} {key:Int} {l:List Kn} {a:Ad} {w:bs} (hv:h.bM a) (hl:lh h (h.rd a) l) (hw:lR h key a l w):h.bM w.prev:=by
 rcases l6 hw with e | ⟨y,hy,e⟩
 ·rw [e];exact hv
 ·rw [e];exact .inr ⟨(ga hl y hy).1,(ga hl y hy).2,by show (0:Int)<=2;decide,by show (2:Int) < 8;decide⟩
def At (key:Int):List Kn->Option Kn
 | []=>none
 | x::l=>if key<=x.k then(if x.k=key then some x else none) else At key l
theorem yN {key:Int}:∀{l:List Kn} {x:Kn},At key l=some x->x∈l /\ x.k=key
 | y::l,x,hx=>by
   unfold At at hx;split at hx
   ·split at hx
    ·cases hx;exact⟨aaV,by assumption⟩
    ·cases hx
   ·exact⟨aaW _ (yN hx).1,(yN hx).2⟩
theorem oA {h:AH} {key:Int}:∀{l:List Kn} {a:Ad} {w:bs},lh h (h.rd a) l->lR h key a l w->match At key l with
  | none=>w.found=false
  | some x=>w.found=true /\ w.cur.ae=x.s /\ w.cur.gen=x.g /\ w.next=h.cl x.s 2 /\ 1<=x.s /\ h.lv x.s x.g /\ (h.cl x.s 1).bU=x.v
 | [],a,w,hl,hw=>hw.2.2
 | x::l,a,w,⟨q1,q2,m,c,d,e0,e1,f⟩,hw=>by
   unfold lR at hw;unfold At;by_cases hk:key<=x.k
   ·rw [if_pos hk] at hw ⊢;obtain⟨w1,w2,w3,w4⟩:=hw;by_cases he:x.k=key
    ·rw [if_pos he];exact⟨by rw [w4,he];simp,by rw [w2];exact q1,by rw [w2];exact q2,w3,c,d,e1⟩
    ·rw [if_neg he];show w.found=false;rw [w4];simpa using he
   ·rw [if_neg hk] at hw ⊢;exact oA (a:=x.dh) (by rw [show h.rd x.dh=h.cl x.s 2 from by unfold rd;rw [if_neg (by show ¬x.s=0;omega)];rfl];exact f) hw
