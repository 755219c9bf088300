import Derived.Test.YtadmfaohjnjajaaGreatDoorRd
set_option linter.unusedVariables false
set_option linter.unusedSimpArgs false
set_option maxHeartbeats 0
set_option maxRecDepth 100000
namespace Go.Proofs.YtadmfaohjnjajaaGreatDoor
section
open Go Go.Sx Go.Proofs
def vc (c:Cl):oU :=
 if c.aj=3 \/ c.aj=6 then⟨1,c.cW.s,c.cW.g,c.cW.f,ao,ao⟩
 else if c.aj=4 then⟨2,c.cW.s,c.cW.g,c.cW.f,c.cU,c.new⟩
 else if c.aj=5 then⟨3,c.cW.s,c.cW.g,c.cW.f,c.cU,c.new⟩
 else if c.aj=8 then⟨4,0,0,0,ao,ao⟩
 else⟨5,0,0,0,c.cU,ao⟩
def aaf (c:Cl) (r:cr):cr:=if c.aj=6 then⟨r.w,true⟩ else if c.aj=9 then⟨ao,true⟩ else r
def st1 (c:Cl):Int:=if c.aj=6 then 5 else if c.aj=9 then 2 else 1
def pP (c:Cl):Prop:=c.aj=3 \/ c.aj=4 \/ c.aj=5 \/ c.aj=6 \/ c.aj=8 \/ c.aj=9
structure FD (m:au):Prop where
 en:m.ax=1
 no:m.notes=[]
 st:m.step=0
structure Q1 (c:Cl) (m:au):Prop where
 en:m.ax=1
 no:m.notes=[]
 cl:m.call=c
 ac:m.acc=vc c
 st:m.step=st1 c
theorem OZ {m:au} (h:FD m) {c:Cl} (hc:pP c):Q1 c (aX m c):=by
 obtain⟨h1,h2,h3⟩:=h
 obtain⟨k,cW,cU,new,i,j,p9⟩:=c
 unfold pP at hc
 dsimp only at hc
 unfold aX fz jA
 rcases hc with rfl | rfl | rfl | rfl | rfl | rfl<;>refine⟨?_,?_,?_,?_,?_⟩<;>simp [bX,dz,dY,fA,h1,h2,vc,st1]
theorem Fb {m:au} (h:FD m) {c:Cl} (hc:c.aj=1 \/ c.aj=2 \/ c.aj=7 \/ c.aj=10):FD (aX m c) /\ (aX m c).bz=⟨ao,true⟩:=by
 obtain⟨h1,h2,h3⟩:=h
 obtain⟨k,cW,cU,new,i,j,p9⟩:=c
 dsimp only at hc
 unfold aX fz jA
 rcases hc with rfl | rfl | rfl | rfl<;>refine⟨⟨?_,?_,?_⟩,?_⟩<;>simp [bX,dz,m9,jM,dt,h1,h2]
theorem ajF {m:au} {c:Cl} (h:Q1 c m) (hc:pP c) (x:cr):FD (bV m x) /\ (bV m x).bz=aaf c x:=by
 obtain⟨h1,h2,h3,h4,h5⟩:=h
 unfold pP at hc
 unfold bV jd gm
 rcases hc with e | e | e | e | e | e<;>(unfold st1 at h5;simp only [e] at h5)<;>refine⟨⟨?_,?_,?_⟩,?_⟩<;>simp [dz,jM,dt,h1,h2,h5,aaf,e]
noncomputable def Ss:Nat->dU->cr->Option (Cl×dU)
 | 0,_,_=>none
 | f+1,j,x=>if (j.next x).1.aj=7 \/ (j.next x).1.aj=10 then Ss f (j.next x).2 ⟨ao,true⟩ else some (j.next x)
structure aeQ (v:az):Prop where
 dg:v.bh=0
 en:v.ax=1
 id:FD v.aQ
structure aic (v:az) (c:Cl) (j:dU):Prop where
 dg:v.bh=2
 en:v.ax=1
 cl:v.call=c
 jb:v.cC=some j
 pd:Q1 c v.aQ
 ac:pP c
theorem vM {k:Nat} {v v':az} {e:Ex} (h:eJ cF k v=some (e,v')) (hs:(cF v).val=some (.exit 0,v)):v'=v:=by
 cases k with
 | zero=>cases h
 | succ k=>simp only [eJ,hs] at h;cases h;rfl
theorem nA {k:Nat} {v v1 v':az} {e:Ex} (h:eJ cF k v=some (e,v')) (hs:∀r,(cF v).val=some r->r=(.normal,v1)):∃k',eJ cF k' v1=some (e,v'):=by
 cases k with
 | zero=>cases h
 | succ k =>
   simp only [eJ] at h
   split at h
   ·rename_i m hm
    have:=hs _ hm
    cases this
    exact⟨k,h⟩
   ·rename_i i m hm
    have:=hs _ hm
    cases this
   ·rename_i m hm
    have:=hs _ hm
    cases this
   ·cases h
theorem AF {m:au} (h:FD m):iq m=false:=by unfold iq;rw [h.st];rfl
theorem GM {m:au} {c:Cl} (h:Q1 c m):iq m=true:=by
 unfold iq;rw [h.st];unfold st1
 split
 ·rfl
 ·split<;>rfl
theorem anN {c':Cl} {j':dU} (hc:c'.aj=12 \/ pP c'):∀{f:Nat} {k:Nat} {v v':az} {j:dU},v.bh=1 \/ v.bh=2->v.ax=1->FD v.aQ->v.cC=some j->Ss f j v.aQ.bz=some (c',j')->eJ cF k v=some (.exit 0,v') ->
 v'.sort=v.sort /\ (c'.aj=12->aeQ v') /\ (pP c'->aic v' c' j')
 | 0,_,_,_,_,_,_,_,_,hj,_=>by cases hj
 | f+1,k,v,v',j,hd,he,hi,hjb,hj,Eu=>by
   have hr:(cF v).val=(tN j.ok (fX tI tN Gr Ge v (j.next v.aQ.bz))).val:=by
    unfold cF eT
    rw [hjb,AF hi]
    rcases hd with hd | hd<;>rw [hd]<;>rfl
   unfold Ss at hj
   by_cases hk:(j.next v.aQ.bz).1.aj=7 \/ (j.next v.aQ.bz).1.aj=10
   ·rw [if_pos hk] at hj
    have hb:=Fb hi (c:=(j.next v.aQ.bz).1) (by omega)
    obtain⟨k',h'⟩:=nA (v1:={v with bh:=2,call:=(j.next v.aQ.bz).1,aQ:=aX v.aQ (j.next v.aQ.bz).1,cC:=some (j.next v.aQ.bz).2}) Eu fun r qV=>by
     rw [hr] at qV
     obtain⟨_,qV⟩:=aD qV
     unfold fX at qV
     rw [show ((j.next v.aQ.bz).1.aj != 12)=true by simp;omega] at qV
     obtain⟨_,qV⟩:=aD (qV:(T.aJ _ _).val=_)
     cases qV;rfl
    exact anN hc (f:=f) (k:=k') (v:={v with bh:=2,call:=(j.next v.aQ.bz).1,aQ:=aX v.aQ (j.next v.aQ.bz).1,cC:=some (j.next v.aQ.bz).2}) (.inr rfl) he hb.1 rfl (by show Ss f _ (aX v.aQ _).bz=_;rw [hb.2];exact hj) h'
   ·rw [if_neg hk] at hj
    have hj:=agM hj
    rcases hc with h12 | hac
    ·obtain⟨k',h'⟩:=nA (v1:={v with answer:=c'.p9,bh:=3,call:=fU,aQ:=aX v.aQ fU,cC:=some j'}) Eu fun r qV=>by
      rw [hr,hj] at qV
      obtain⟨_,qV⟩:=aD qV
      unfold fX at qV
      rw [show (c'.aj != 12)=false by simp [h12]] at qV
      obtain⟨_,qV⟩:=aD (qV:(T.aJ _ _).val=_)
      cases qV;rfl
     have hb:=Fb hi (c:=fU) (.inr (.inl rfl))
     obtain⟨k'',h''⟩:=nA (v1:={v with answer:=c'.p9,bh:=0,call:=fU,aQ:=aX v.aQ fU,cC:=some j'}) h' fun r qV=>by
      unfold cF eT at qV
      rw [AF hb.1] at qV
      cases qV;rfl
     have e:=vM h'' (by unfold cF eT;rfl)
     subst e
     exact⟨rfl,fun _=>⟨rfl,he,hb.1⟩,fun h=>by unfold pP at h;omega⟩
    ·have hb:=OZ hi hac
     obtain⟨k',h'⟩:=nA (v1:={v with bh:=2,call:=c',aQ:=aX v.aQ c',cC:=some j'}) Eu fun r qV=>by
      rw [hr,hj] at qV
      obtain⟨_,qV⟩:=aD qV
      unfold fX at qV
      rw [show (c'.aj != 12)=true by unfold pP at hac;simp;omega] at qV
      obtain⟨_,qV⟩:=aD (qV:(T.aJ _ _).val=_)
      cases qV;rfl
     have e:=vM h' (by unfold cF eT;rw [GM hb];rfl)
     subst e
     exact⟨rfl,fun h=>by unfold pP at hac;omega,fun _=>⟨rfl,he,rfl,rfl,hb,hac⟩⟩
theorem mT {v:az} {c c':Cl} {j j':dU} {p:ai} {f:Nat} (h:aic v c j) (oI:tz (jH v p)=true) (hj:Ss f j (aaf c (p.aU (vc c)).1)=some (c',j')) (hc:c'.aj=12 \/ pP c') :
 (gU v p).1.real=0 /\ (gU v p).2.2=(p.aU (vc c)).2 /\ (gU v p).2.1.sort=v.sort /\ (c'.aj=12->aeQ (gU v p).2.1) /\ (pP c'->aic (gU v p).2.1 c' j'):=by
 have ea:(jB v.aQ).1=vc c:=by unfold jB;rw [GM h.pd];exact h.pd.ac
 obtain⟨t1,t2⟩:=ajF h.pd h.ac (p.aU (vc c)).1
 have ev:jH v p={v with aQ:=bV v.aQ (p.aU (vc c)).1}:=by unfold jH;rw [ea]
 have ag8:=anN hc (f:=f) (v:=jH v p) (j:=j) (by rw [ev];exact .inr h.dg) (by rw [ev];exact h.en) (by rw [ev];exact t1) (by rw [ev];exact h.jb) (by rw [ev];show Ss f j (bV _ _).bz=_;rw [t2];exact hj) (pq oI)
 have fin:∀r,(qD cond (fun _ t=>t) (fun s v'=>(s,v',(p.aU (vc c)).2)) (fun _=>true) kH (jH v p) r).1.real=r /\ (qD cond (fun _ t=>t) (fun s v'=>(s,v',(p.aU (vc c)).2)) (fun _=>true) kH (jH v p) r).2=(kH (jH v p),(p.aU (vc c)).2):=fun r=>by
  unfold qD
  cases ((kH (jH v p)).bh==0)<;>exact⟨rfl,rfl⟩
 have key:gU v p=qD cond (fun _ t=>t) (fun s v'=>(s,v',(p.aU (vc c)).2)) (fun _=>true) kH (jH v p) 0:=by
  unfold gU qn
  rw [ea,h.cl,h.en,show iq (jH v p).aQ=false by rw [ev];exact AF t1]
  have hac:=h.ac
  unfold pP at hac
  rcases hac with e | e | e | e | e | e<;>simp only [e,vc]<;>rfl
 obtain⟨f1,f2⟩:=fin 0
 rw [key]
 refine⟨f1,by rw [f2],by rw [f2];exact ag8.1.trans (by rw [ev]),fun e=>?_,fun e=>?_⟩
 ·rw [f2];exact ag8.2.1 e
 ·rw [f2];exact ag8.2.2 e
end
section
open Go Go.Sx Go.Proofs
structure AH where
 bd:Int->W
 cl:Int->Int->W
 lv:Int->Int->Prop
namespace AH
def bG (h:AH) (a:Ad):Prop:=(a.s=0 /\ a.g=0 /\ 0<=a.f /\ a.f < 18) \/ (1<=a.s /\ h.lv a.s a.g /\ 0<=a.f /\ a.f < 8)
def rd (h:AH) (a:Ad):W:=if a.s=0 then h.bd a.f else h.cl a.s a.f
def wr (h:AH) (a:Ad) (w:W):AH:=if a.s=0 then {h with bd:=fun f=>if f=a.f then w else h.bd f} else {h with cl:=fun s f=>if s=a.s /\ f=a.f then w else h.cl s f}
def new (h:AH) (s g:Int):AH:={h with cl:=fun t f=>if t=s then ao else h.cl t f,lv:=fun t g'=>if t=s then g'=g else h.lv t g'}
def JM (h:AH) (s:Int):AH:={h with lv:=fun t g=>t≠s /\ h.lv t g}
def Wp (h:AH) (c:Cl) (K:cr->AH->Prop):Prop :=
 if c.aj=3 \/ c.aj=6 then h.bG c.cW /\ K ⟨h.rd c.cW,true⟩ h
 else if c.aj=4 then h.bG c.cW /\ K ⟨ao,true⟩ (h.wr c.cW c.new)
 else if c.aj=5 then h.bG c.cW /\ cond (kM (h.rd c.cW) c.cU) (K ⟨h.rd c.cW,true⟩ (h.wr c.cW c.new)) (K ⟨h.rd c.cW,false⟩ h)
 else if c.aj=7 then K ⟨ao,true⟩ h
 else if c.aj=8 then K ⟨ao,false⟩ h /\ ∀s g,1<=s->(∀g',¬h.lv s g')->K ⟨⟨s,g,0,0,false⟩,true⟩ (h.new s g)
 else if c.aj=9 \/ c.aj=10 then 1<=c.cU.af /\ h.lv c.cU.af c.cU.gen /\ K ⟨ao,true⟩ (h.JM c.cU.af)
 else False
variable {h:AH} {K:cr->AH->Prop} {a:Ad} {w o:W} {i j:Int}
theorem dm (hv:h.bG a) (k:K ⟨h.rd a,true⟩ h):h.Wp (br a) K:=⟨hv,k⟩
theorem gj (hv:h.bG a) (k:K ⟨h.rd a,true⟩ h):h.Wp (bF a i) K:=⟨hv,k⟩
theorem gS (hv:h.bG a) (k:K ⟨ao,true⟩ (h.wr a w)):h.Wp (cO a w) K:=⟨hv,k⟩
theorem m6 (w:W):kM w w=true:=by unfold kM;simp
theorem gG (hv:h.bG a) (ho:h.rd a=o) (k:K ⟨o,true⟩ (h.wr a w)):h.Wp (b5 a o w) K:=by
 refine⟨hv,?_⟩
 show cond (kM (h.rd a) o) (K ⟨h.rd a,true⟩ (h.wr a w)) (K ⟨h.rd a,false⟩ h)
 rw [ho,m6]
 exact k
theorem mb (k:K ⟨ao,true⟩ h):h.Wp (oL i j) K:=k
theorem qX (k0:K ⟨ao,false⟩ h) (k:∀n:W,1<=n.af->(∀g',¬h.lv n.af g')->K ⟨n,true⟩ (h.new n.af n.gen)):h.Wp j9 K:=⟨k0,fun s g=>k ⟨s,g,0,0,false⟩⟩
theorem Iu (h1:1<=w.af) (hl:h.lv w.af w.gen) (k:K ⟨ao,true⟩ (h.JM w.af)):h.Wp (p7 w) K:=⟨h1,hl,k⟩
theorem vo (h1:1<=w.af) (hl:h.lv w.af w.gen) (k:K ⟨ao,true⟩ (h.JM w.af)):h.Wp (jT w) K:=⟨h1,hl,k⟩
theorem wp_mono {c:Cl} {K':cr->AH->Prop} (hk:∀x h',K x h'->K' x h') (hw:h.Wp c K):h.Wp c K':=by
 unfold Wp at hw ⊢
 split
 ·rename_i e;rw [if_pos e] at hw;exact⟨hw.1,hk _ _ hw.2⟩
 rename_i e;rw [if_neg e] at hw;clear e
 split
 ·rename_i e;rw [if_pos e] at hw;exact⟨hw.1,hk _ _ hw.2⟩
 rename_i e;rw [if_neg e] at hw;clear e
 split
 ·rename_i e;rw [if_pos e] at hw
  refine⟨hw.1,?_⟩
  have:=hw.2
  cases hs:kM (h.rd c.cW) c.cU with
  | true=>rw [hs] at this;exact hk _ _ this
  | false=>rw [hs] at this;exact hk _ _ this
 rename_i e;rw [if_neg e] at hw;clear e
 split
 ·rename_i e;rw [if_pos e] at hw;exact hk _ _ hw
 rename_i e;rw [if_neg e] at hw;clear e
 split
 ·rename_i e;rw [if_pos e] at hw;exact⟨hk _ _ hw.1,fun s g h1 h2=>hk _ _ (hw.2 s g h1 h2)⟩
 rename_i e;rw [if_neg e] at hw;clear e
 split
 ·rename_i e;rw [if_pos e] at hw;exact⟨hw.1,hw.2.1,hk _ _ hw.2.2⟩
 rename_i e;rw [if_neg e] at hw
 exact hw
theorem lT {b:Ad}:(h.wr a w).rd b=if b.s=a.s /\ b.f=a.f then w else h.rd b:=by
 unfold wr rd
 by_cases e:a.s=0
 ·rw [if_pos e,e]
  dsimp only
  by_cases eb:b.s=0
  ·rw [if_pos eb,if_pos eb]
   by_cases ef:b.f=a.f
   ·rw [if_pos ef,if_pos ⟨eb,ef⟩]
   ·rw [if_neg ef,if_neg fun x=>ef x.2]
  ·rw [if_neg eb,if_neg eb,if_neg fun x=>eb x.1]
 ·rw [if_neg e]
  dsimp only
  by_cases eb:b.s=0
  ·rw [if_pos eb,if_pos eb,if_neg fun x:b.s=a.s /\ b.f=a.f=>e (x.1▸eb)]
  ·rw [if_neg eb,if_neg eb]
theorem de:(h.wr a w).lv=h.lv:=by unfold wr;split<;>rfl
theorem yk {b:Ad}:(h.wr a w).bG b↔h.bG b:=by unfold bG;rw [de]
theorem afO {s:Int} {b:Ad}:(h.JM s).rd b=h.rd b:=rfl
theorem Aw {s g t g':Int}:(h.new s g).lv t g'↔if t=s then g'=g else h.lv t g':=Iff.rfl
theorem bU {f:Int} (h0:0<=f) (h1:f < 18):h.bG (aV f):=.inl ⟨rfl,rfl,h0,h1⟩
theorem aZ {f:Int} (h1:1<=w.af) (hl:h.lv w.af w.gen) (h0:0<=f) (h8:f < 8):h.bG (ay w f):=.inr ⟨h1,hl,h0,h8⟩
end AH
def tq (k:Int):Nat:=if k=6 then 5 else if k=8 then 2 else if k=10 then 100 else 1
theorem Cm (k:Int):1<=tq k:=by
 unfold tq
 split
 ·decide
 ·split
  ·decide
  ·split<;>decide
def oT {α:Type} (nx:α->cr->Cl×α) (Q:An->AH->Prop):Bool->Nat->Nat->AH->Cl×α->Prop
 | _,0,_,_,_=>False
 | b,f+1,k,h,r=>(r.1.aj=12 /\ Q r.1.p9 h) \/ (tq r.1.aj<=k /\ ((r.1.aj≠10 /\ h.Wp r.1 fun x h'=>oT nx Q b f (k - tq r.1.aj) h' (nx r.2 x)) \/ (r.1.aj=10 /\ b=true /\ h.Wp r.1 fun x h'=>oT nx Q false f (k - tq r.1.aj) h' (nx r.2 x))))
def jE {α:Type} (nx:α->cr->Cl×α) (Q:An->AH->Prop) (b:Bool) (k:Nat) (h:AH) (r:Cl×α):Prop:=oT nx Q b (k+1) k h r
abbrev b9 {α:Type} (nx:α->cr->Cl×α) (Q:An->AH->Prop):=jE nx Q true
noncomputable abbrev lg:=b9 dU.next
section
variable {α:Type} {nx:α->cr->Cl×α} {b:Bool}
theorem eK {Q Q':An->AH->Prop} (hQ:∀a h,Q a h->Q' a h):∀{f f' k k':Nat} {b b':Bool} {h:AH} {r:Cl×α},f<=f'->k<=k'->(b=true->b'=true)->oT nx Q b f k h r->oT nx Q' b' f' k' h r
 | 0,_,_,_,_,_,_,_,_,_,_,hh=>hh.elim
 | f+1,0,_,_,_,_,_,_,hle,_,_,_=>by omega
 | f+1,f'+1,k,k',b,b',h,r,hle,hk,hb,hh=>by
   rcases hh with⟨e,q⟩ | ⟨hn,⟨e,hw⟩ | ⟨e,e2,hw⟩⟩
   ·exact .inl ⟨e,hQ _ _ q⟩
   ·exact .inr ⟨abL hn hk,.inl ⟨e,AH.wp_mono (fun x h' hx=>eK hQ (by omega) (by omega) hb hx) hw⟩⟩
   ·exact .inr ⟨abL hn hk,.inr ⟨e,hb e2,AH.wp_mono (fun x h' hx=>eK hQ (by omega) (by omega) id hx) hw⟩⟩
theorem bT {Q Q':An->AH->Prop} (hQ:∀a h,Q a h->Q' a h) {k k':Nat} {h:AH} {r:Cl×α} (hk:k<=k') (hh:jE nx Q b k h r):jE nx Q' b k' h r:=eK hQ (by omega) hk id hh
theorem pX {Q:An->AH->Prop}:∀{f k:Nat} {b:Bool} {h:AH} {r:Cl×α},oT nx Q b f k h r->jE nx Q b k h r
 | 0,_,_,_,_,hh=>hh.elim
 | f+1,k,b,h,r,hh=>by
   have:=Cm r.1.aj
   rcases hh with q | ⟨hn,⟨e,hw⟩ | ⟨e,e2,hw⟩⟩
   ·exact .inl q
   ·exact .inr ⟨hn,.inl ⟨e,AH.wp_mono (fun x h' hx=>eK (fun _ _ h=>h) (by omega) (abV _) id (pX hx)) hw⟩⟩
   ·exact .inr ⟨hn,.inr ⟨e,e2,AH.wp_mono (fun x h' hx=>eK (fun _ _ h=>h) (by omega) (abV _) id (pX hx)) hw⟩⟩
theorem xS {Q:An->AH->Prop} {f k:Nat} {h:AH} {r:Cl×α} (hn:r.1.aj≠10) (hk:tq r.1.aj<=k) (hw:h.Wp r.1 fun x h'=>oT nx Q b f (k - tq r.1.aj) h' (nx r.2 x)):oT nx Q b (f+1) k h r:=.inr ⟨hk,.inl ⟨hn,hw⟩⟩
theorem OL {Q:An->AH->Prop} {k w:Nat} {h:AH} {r:Cl×α} (hn:r.1.aj≠10) (e:tq r.1.aj<=w) (hw:h.Wp r.1 fun x h'=>jE nx Q b k h' (nx r.2 x)):jE nx Q b (k+w) h r:=by
 have:=Cm r.1.aj
 exact xS hn (by omega) (AH.wp_mono (fun x h' hx=>eK (fun _ _ h=>h) (by omega) (by omega) id hx) hw)
theorem xk {k:Int} (h:tq k < 100):k≠10:=fun e=>by subst e;exact absurd h (by decide)
theorem bB {Q:An->AH->Prop} {k:Nat} {h:AH} {r:Cl×α} (hw:h.Wp r.1 fun x h'=>jE nx Q b k h' (nx r.2 x)) (e:tq r.1.aj=1:=by rfl):jE nx Q b (k+1) h r:=OL (xk (by omega)) (by omega) hw
theorem zj {Q:An->AH->Prop} {k:Nat} {h:AH} {r:Cl×α} (hw:h.Wp r.1 fun x h'=>jE nx Q b k h' (nx r.2 x)) (e:tq r.1.aj=5:=by rfl):jE nx Q b (k+5) h r:=OL (xk (by omega)) (by omega) hw
theorem zm {Q:An->AH->Prop} {k:Nat} {h:AH} {r:Cl×α} (hw:h.Wp r.1 fun x h'=>jE nx Q b k h' (nx r.2 x)) (e:tq r.1.aj=2:=by rfl):jE nx Q b (k+2) h r:=OL (xk (by omega)) (by omega) hw
theorem zi {Q:An->AH->Prop} {k:Nat} {h:AH} {r:Cl×α} (hw:h.Wp r.1 fun x h'=>jE nx Q false k h' (nx r.2 x)) (e:r.1.aj=10:=by rfl):b9 nx Q (k+100) h r:=by
 have ew:tq r.1.aj=100:=by rw [e];rfl
 exact .inr ⟨by omega,.inr ⟨e,rfl,AH.wp_mono (fun x h' hx=>eK (fun _ _ h=>h) (by omega) (by omega) id hx) hw⟩⟩
theorem cK {Q:An->AH->Prop} {k:Nat} {h:AH} {r:Cl×α} (e:r.1.aj=12) (hq:Q r.1.p9 h):jE nx Q b k h r:=.inl ⟨e,hq⟩
theorem zk {β:Type} {nb:β->cr->Cl×β} {f:α->β} (hf:∀a x,nb (f a) x=((nx a x).1,f (nx a x).2)) {Q:An->AH->Prop} {k:Nat} {h:AH} {r:Cl×α} (hh:jE nx Q b k h r):jE nb Q b k h (r.1,f r.2):=by
 have go:∀{g k:Nat} {b:Bool} {h:AH} {r:Cl×α},oT nx Q b g k h r->oT nb Q b g k h (r.1,f r.2):=fun {g}=>by
  induction g with
  | zero=>exact fun hh=>hh.elim
  | succ g ih =>
    intro k b h r hh
    rcases hh with q | ⟨hn,⟨e,hw⟩ | ⟨e,e2,hw⟩⟩
    ·exact .inl q
    ·exact .inr ⟨hn,.inl ⟨e,AH.wp_mono (fun x h' hx=>by rw [hf];exact ih hx) hw⟩⟩
    ·exact .inr ⟨hn,.inr ⟨e,e2,AH.wp_mono (fun x h' hx=>by rw [hf];exact ih hx) hw⟩⟩
 exact go hh
end
end
section
open Go Go.Sx Go.Proofs AH
namespace AH
variable {h:AH} {w v:W} {f k s g:Int}
theorem gb (h1:1<=w.af):(h.wr (ay w f) v).cl s k=if s=w.af /\ k=f then v else h.cl s k:=by
 unfold wr
 rw [if_neg (show ¬(ay w f).s=0 by show ¬w.af=0;omega)]
 rfl
theorem tj (h1:1<=w.af):(h.wr (ay w f) v).bd=h.bd:=by
 unfold wr
 rw [if_neg (show ¬(ay w f).s=0 by show ¬w.af=0;omega)]
theorem Mt:(h.wr (aV f) v).cl=h.cl:=rfl
theorem QS:(h.wr (aV f) v).bd k=if k=f then v else h.bd k:=rfl
theorem mH {t:Int}:(h.new s g).cl t k=if t=s then ao else h.cl t k:=rfl
end AH
structure Nd where
 s:Int
 g:Int
 v:Int
def kI (h:AH):W->List Nd->Prop
 | w,[]=>w.af=0
 | w,x::l=>w.af=x.s /\ w.gen=x.g /\ 1<=x.s /\ h.lv x.s x.g /\ (h.cl x.s 1).bS=x.v /\ kI h (h.cl x.s 2) l
theorem oY {h h':AH}:∀{l:List Nd} {w:W},kI h w l->(∀x∈l,h.lv x.s x.g->h'.lv x.s x.g /\ h'.cl x.s 1=h.cl x.s 1 /\ h'.cl x.s 2=h.cl x.s 2)->kI h' w l
 | [],_,hp,_=>hp
 | x::l,w,⟨a,b,c,d,e,f⟩,hf=>by
   obtain⟨f1,f2,f3⟩:=hf x abw d
   exact⟨a,b,c,f1,by rw [f2];exact e,by rw [f3];exact oY f fun y hy=>hf y (aby _ hy)⟩
theorem Ab {h:AH}:∀{l:List Nd} {w:W},kI h w l->∀x∈l,h.lv x.s x.g
 | x::l,w,⟨a,b,c,d,e,f⟩,y,hy=>by
   rcases abk.1 hy with rfl | hy
   ·exact d
   ·exact Ab f y hy
def sQ (h:AH) (vs:List Int):Prop:=∃l,kI h (h.bd 0) l /\ (l.map Nd.s).Nodup /\ l.map Nd.v=vs
def anR (o:O) (vs:List Int) (a:An) (h:AH):Prop :=
 (o.aj=1 /\ ((a=⟨1,0⟩ /\ sQ h (o.val::vs)) \/ (a=⟨4,0⟩ /\ sQ h vs)))
 \/ (o.aj≠1 /\ vs=[] /\ a=⟨2,0⟩ /\ sQ h [])
 \/ (∃v r,vs=v::r /\ a=⟨1,v⟩ /\ ((o.aj=2 /\ sQ h r) \/ (o.aj=3 /\ sQ h vs)))
theorem jP {w:W} (e:w.af=0):(w.af==0)=true:=by rw [e];rfl
theorem gp {w:W} (e:1<=w.af):(w.af==0)=false:=by
 cases hb:w.af==0 with
 | false=>rfl
 | true=>have:=QC hb;omega
theorem yI (k:Int) (key val bO:Int) (w:W) {b:Bool} (hb:(w.af==0)=b) (hk:k=2 \/ k=3):(dU.dZ ⟨1,aW,⟨k,key,val,bO⟩,ao,ao,0⟩).next ⟨w,true⟩ =
 cond b (jx 2 0,.dZ ⟨-1,jx 2 0,⟨k,key,val,bO⟩,ao,w,0⟩) (cond (k==3) (br (ay w 1),.dZ ⟨4,aW,⟨k,key,val,bO⟩,ao,w,0⟩) (br (ay w 2),.dZ ⟨2,aW,⟨k,key,val,bO⟩,ao,w,0⟩)):=by
 subst hb
 rcases hk with rfl | rfl<;>(unfold dU.next oe GK;dsimp only;cases w.af==0<;>rfl)
theorem RO {h:AH} {vs:List Int} (hi:sQ h vs) {o:O} (ho:o.aj=1 \/ o.aj=2 \/ o.aj=3):lg (anR o vs) 120 h ((uF 1 o).next ⟨ao,true⟩):=by
 obtain⟨l,hp,hn,rfl⟩:=hi
 obtain⟨kd,key,val,bO⟩:=o
 dsimp only at ho
 rcases ho with rfl | rfl | rfl
 ·refine zm (qX (cK rfl (.inl ⟨rfl,.inr ⟨rfl,l,hp,hn,rfl⟩⟩)) fun n h1 hf=>?_)
  have zG:(h.new n.af n.gen).lv n.af n.gen:=by show if n.af=n.af then n.gen=n.gen else _;rw [if_pos rfl]
  have hs:∀x∈l,x.s≠n.af:=fun x hx e=>hf x.g (e▸Ab hp x hx)
  show lg _ _ _ (cO (ay n 1) (dX val),.dZ ⟨2,aW,⟨1,key,val,bO⟩,n,ao,0⟩)
  refine bB (gS (aZ h1 zG (by decide) (by decide)) ?_)
  generalize e1:(h.new n.af n.gen).wr (ay n 1) (dX val)=h2
  have b2:h2.bd 0=h.bd 0:=by subst e1;rw [tj h1];rfl
  show lg _ _ _ (br (aV 0),.dZ ⟨3,aW,⟨1,key,val,bO⟩,n,ao,0⟩)
  refine bB (dm (bU (by decide) (by decide)) ?_)
  show lg _ _ _ (cO (ay n 2) (dv (h2.bd 0)),.dZ ⟨4,aW,⟨1,key,val,bO⟩,n,h2.bd 0,0⟩)
  rw [b2]
  refine bB (gS (aZ h1 (by subst e1;rw [de];exact zG) (by decide) (by decide)) ?_)
  generalize e3:h2.wr (ay n 2) (dv (h.bd 0))=h3
  show lg _ _ _ (b5 (aV 0) (h.bd 0) (iC (h.bd 0) n),.dZ ⟨5,aW,⟨1,key,val,bO⟩,n,h.bd 0,0⟩)
  refine bB (gG (bU (by decide) (by decide)) (by subst e3;show (h2.wr _ _).bd 0=_;rw [tj h1,b2]) ?_)
  refine cK rfl (.inl ⟨rfl,.inl ⟨rfl,⟨n.af,n.gen,val⟩::l,?_,?_,rfl⟩⟩)
  ·rw [QS,if_pos rfl]
   have c3:∀x k,x≠n.af->h3.cl x k=h.cl x k:=fun x k hx=>by subst e3;rw [gb h1,if_neg fun e=>hx e.1];subst e1;rw [gb h1,if_neg fun e=>hx e.1,AH.mH,if_neg hx]
   refine⟨rfl,rfl,h1,?_,?_,?_⟩
   ·subst e3 e1;rw [de,de,de];exact zG
   ·subst e3 e1;rw [Mt,gb h1,if_neg (by rintro ⟨_,e⟩;cases e),gb h1,if_pos ⟨rfl,rfl⟩];rfl
   ·rw [Mt,show h3.cl n.af 2=dv (h.bd 0) by subst e3;rw [gb h1,if_pos ⟨rfl,rfl⟩]]
    have hp2:kI h (dv (h.bd 0)) l:=by cases l<;>exact hp
    refine oY hp2 fun x hx hl=>⟨?_,by rw [Mt];exact c3 _ _ (hs x hx),by rw [Mt];exact c3 _ _ (hs x hx)⟩
    subst e3 e1
    rw [de,de,de,Aw,if_neg (hs x hx)];exact hl
  ·rw [abv,aem]
   refine⟨fun hm=>?_,hn⟩
   obtain⟨x,hx,e⟩:=adK.1 hm
   exact hs x hx e
 ·refine zj (gj (bU (by decide) (by decide)) ?_)
  cases l with
  | nil =>
    have hp:(h.bd 0).af=0:=hp
    show lg _ _ h ((dU.dZ ⟨1,aW,⟨2,key,val,bO⟩,ao,ao,0⟩).next ⟨h.bd 0,true⟩)
    rw [yI 2 key val bO _ (jP hp) (by decide)]
    exact cK rfl (.inr (.inl ⟨by show (2:Int)≠1;decide,rfl,rfl,[],hp,hn,rfl⟩))
  | cons x l =>
    obtain⟨a,b,c,d,e,f⟩:=hp
    have ha:1<=(h.bd 0).af:=by omega
    show lg _ _ h ((dU.dZ ⟨1,aW,⟨2,key,val,bO⟩,ao,ao,0⟩).next ⟨h.bd 0,true⟩)
    rw [yI 2 key val bO _ (gp ha) (by decide)]
    have hl:h.lv (h.bd 0).af (h.bd 0).gen:=by rw [a,b];exact d
    show lg _ _ h (br (ay (h.bd 0) 2),.dZ ⟨2,aW,⟨2,key,val,bO⟩,ao,h.bd 0,0⟩)
    refine bB (dm (aZ ha hl (by decide) (by decide)) ?_)
    generalize e2:h.rd (ay (h.bd 0) 2)=nx
    have hnx:nx=h.cl x.s 2:=by rw [<- e2];unfold rd;rw [if_neg (by show ¬(h.bd 0).af=0;omega)];show h.cl (h.bd 0).af 2=_;rw [a]
    show lg _ _ h (b5 (aV 0) (h.bd 0) (iC (h.bd 0) nx),.dZ ⟨3,aW,⟨2,key,val,bO⟩,ao,h.bd 0,0⟩)
    refine bB (gG (bU (by decide) (by decide)) rfl ?_)
    generalize e3:h.bd 0=tp at *
    generalize e4:h.wr (aV 0) (iC tp nx)=h4
    have c4:h4.cl=h.cl:=by subst e4;rfl
    have l4:h4.lv=h.lv:=by subst e4;rfl
    show lg _ _ h4 (br (ay tp 1),.dZ ⟨4,aW,⟨2,key,val,bO⟩,ao,tp,0⟩)
    refine bB (dm (aZ ha (by rw [l4];exact hl) (by decide) (by decide)) ?_)
    have hv:(h4.rd (ay tp 1)).bS=x.v:=by unfold rd;rw [if_neg (by show ¬tp.af=0;omega)];show (h4.cl tp.af 1).bS=_;rw [c4,a];exact e
    show lg _ _ h4 (jT tp,.dZ ⟨5,aW,⟨2,key,val,bO⟩,ao,tp,(h4.rd (ay tp 1)).bS⟩)
    rw [hv]
    refine zi (vo ha (by rw [l4];exact hl) ?_)
    rw [abv,aem] at hn
    refine cK rfl (.inr (.inr ⟨x.v,l.map Nd.v,rfl,rfl,.inl ⟨rfl,l,?_,hn.2,rfl⟩⟩))
    show kI (h4.JM tp.af) (h4.bd 0) l
    have hb:h4.bd 0=iC tp nx:=by subst e4;rfl
    rw [hb]
    have f2:kI h (iC tp nx) l:=by rw [hnx];cases l<;>exact f
    refine oY f2 fun y hy hly=>⟨⟨fun ey=>hn.1 (adK.2 ⟨y,hy,by rw [ey,a]⟩),by rw [l4];exact hly⟩,by show h4.cl _ _=_;rw [c4],by show h4.cl _ _=_;rw [c4]⟩
 ·refine zj (gj (bU (by decide) (by decide)) ?_)
  cases l with
  | nil =>
    have hp:(h.bd 0).af=0:=hp
    show lg _ _ h ((dU.dZ ⟨1,aW,⟨3,key,val,bO⟩,ao,ao,0⟩).next ⟨h.bd 0,true⟩)
    rw [yI 3 key val bO _ (jP hp) (by decide)]
    exact cK rfl (.inr (.inl ⟨by show (3:Int)≠1;decide,rfl,rfl,[],hp,hn,rfl⟩))
  | cons x l =>
    have hp0:=hp
    obtain⟨a,b,c,d,e,f⟩:=hp
    have ha:1<=(h.bd 0).af:=by omega
    show lg _ _ h ((dU.dZ ⟨1,aW,⟨3,key,val,bO⟩,ao,ao,0⟩).next ⟨h.bd 0,true⟩)
    rw [yI 3 key val bO _ (gp ha) (by decide)]
    have hl:h.lv (h.bd 0).af (h.bd 0).gen:=by rw [a,b];exact d
    show lg _ _ h (br (ay (h.bd 0) 1),.dZ ⟨4,aW,⟨3,key,val,bO⟩,ao,h.bd 0,0⟩)
    refine bB (dm (aZ ha hl (by decide) (by decide)) ?_)
    have hv:(h.rd (ay (h.bd 0) 1)).bS=x.v:=by unfold rd;rw [if_neg (by show ¬(h.bd 0).af=0;omega)];show (h.cl (h.bd 0).af 1).bS=_;rw [a];exact e
    show lg _ _ h (jx 1 (h.rd (ay (h.bd 0) 1)).bS,_)
    rw [hv]
    exact cK rfl (.inr (.inr ⟨x.v,l.map Nd.v,rfl,rfl,.inr ⟨rfl,x::l,hp0,hn,rfl⟩⟩))
end
section
open Go Go.Sx Go.Proofs AH
theorem dJ {h:AH} {w:W} {f:Int} (h1:1<=w.af):h.rd (ay w f)=h.cl w.af f:=by
 unfold rd;rw [if_neg (by show ¬w.af=0;omega)];rfl
theorem wV {h:AH} {x:Nd}:∀{l:List Nd} {w:W},kI h w (l++[x])->(h.cl x.s 2).af=0 /\ 1<=x.s /\ h.lv x.s x.g
 | [],w,⟨a,b,c,d,e,f⟩=>⟨f,c,d⟩
 | y::l,w,⟨a,b,c,d,e,f⟩=>wV f
theorem Bw {h h':AH} {x y:Nd} (hy:kI h' (h'.cl x.s 2) [y]) (hl:h'.lv x.s x.g) (h1:h'.cl x.s 1=h.cl x.s 1):∀{l:List Nd} {w:W},kI h w (l++[x])->(∀z∈l,h.lv z.s z.g->h'.lv z.s z.g /\ h'.cl z.s 1=h.cl z.s 1 /\ h'.cl z.s 2=h.cl z.s 2)->kI h' w (l++[x]++[y])
 | [],w,⟨a,b,c,d,e,f⟩,hf=>⟨a,b,c,hl,by rw [h1];exact e,hy⟩
 | z::l,w,⟨a,b,c,d,e,f⟩,hf=>by
   obtain⟨f1,f2,f3⟩:=hf z abw d
   exact⟨a,b,c,f1,by rw [f2];exact e,by rw [f3];exact Bw hy hl h1 f fun u hu=>hf u (aby _ hu)⟩
def wy (h:AH) (vs:List Int):Prop:=∃d l p x,d::l=p++[x] /\ kI h (h.bd 0) (d::l) /\ ((d::l).map Nd.s).Nodup /\ (h.bd 1).af=x.s /\ (h.bd 1).gen=x.g /\ l.map Nd.v=vs
def anX (o:O) (vs:List Int) (a:An) (h:AH):Prop :=
 (o.aj=4 /\ ((a=⟨1,0⟩ /\ wy h (vs++[o.val])) \/ (a=⟨4,0⟩ /\ wy h vs)))
 \/ (o.aj=5 /\ ((vs=[] /\ a=⟨2,0⟩ /\ wy h []) \/ (∃v r,vs=v::r /\ a=⟨1,v⟩ /\ wy h r)))
theorem S0 (key val bO:Int) (nd t n:W) {b:Bool} (hb:(n.af==0)=b):(dU.dH ⟨5,aW,⟨4,key,val,bO⟩,nd,ao,t,n,0⟩).next ⟨t,true⟩ =
 cond (!b) (b5 (aV 1) t (iC t n),.dH ⟨6,aW,⟨4,key,val,bO⟩,nd,ao,t,n,0⟩) (b5 (ay t 2) n (iC n nd),.dH ⟨7,aW,⟨4,key,val,bO⟩,nd,ao,t,n,0⟩):=by
 subst hb
 unfold dU.next mF EV;dsimp only
 rw [m6]
 cases n.af==0<;>rfl
theorem HZ (key val bO:Int) (h t n:W) {b c:Bool} (hb:(n.af==0)=b) (hc:(h.af==t.af)=c):(dU.dH ⟨4,aW,⟨5,key,val,bO⟩,ao,h,t,n,0⟩).next ⟨h,true⟩ =
 cond b (jx 2 0,.dH ⟨-1,jx 2 0,⟨5,key,val,bO⟩,ao,h,t,n,0⟩) (cond c (b5 (aV 1) t (iC t n),.dH ⟨5,aW,⟨5,key,val,bO⟩,ao,h,t,n,0⟩) (br (ay n 1),.dH ⟨6,aW,⟨5,key,val,bO⟩,ao,h,t,n,0⟩)):=by
 subst hb;subst hc
 unfold dU.next mF EV;dsimp only
 rw [m6]
 cases n.af==0<;>cases h.af==t.af<;>rfl
theorem S5 {h:AH} {vs:List Int} (hi:wy h vs) {o:O} (ho:o.aj=4 \/ o.aj=5):lg (anX o vs) 120 h ((uF 2 o).next ⟨ao,true⟩):=by
 obtain⟨d,l,p,x,SC,hp,hn,ht,htg,rfl⟩:=hi
 obtain⟨kd,key,val,bO⟩:=o
 dsimp only at ho
 rcases ho with rfl | rfl
 ·refine zm (qX (cK rfl (.inl ⟨rfl,.inr ⟨rfl,d,l,p,x,SC,hp,hn,ht,htg,rfl⟩⟩)) fun n h1 hf=>?_)
  have zG:(h.new n.af n.gen).lv n.af n.gen:=by show if n.af=n.af then n.gen=n.gen else _;rw [if_pos rfl]
  have hs:∀y∈d::l,y.s≠n.af:=fun y hy e=>hf y.g (e▸Ab hp y hy)
  rw [SC] at hp hn hs
  obtain⟨x0,x1,xl⟩:=wV hp
  have za:x.s≠n.af:=hs x (by simp)
  show lg _ _ _ (cO (ay n 1) (dX val),.dH ⟨2,aW,⟨4,key,val,bO⟩,n,ao,ao,ao,0⟩)
  refine bB (gS (aZ h1 zG (by decide) (by decide)) ?_)
  generalize e1:(h.new n.af n.gen).wr (ay n 1) (dX val)=h2
  have b2:h2.bd=h.bd:=by subst e1;rw [tj h1];rfl
  have c2:∀y k,y≠n.af->h2.cl y k=h.cl y k:=fun y k hy=>by subst e1;rw [gb h1,if_neg fun e=>hy e.1,AH.mH,if_neg hy]
  have l2:∀y g,y≠n.af->h.lv y g->h2.lv y g:=fun y g hy hl=>by subst e1;rw [de,Aw,if_neg hy];exact hl
  have Tw:h2.lv n.af n.gen:=by subst e1;rw [de];exact zG
  have n1:(h2.cl n.af 1).bS=val:=by subst e1;rw [gb h1,if_pos ⟨rfl,rfl⟩];rfl
  have n2:(h2.cl n.af 2).af=0:=by subst e1;rw [gb h1,if_neg (by rintro ⟨_,e⟩;cases e),AH.mH,if_pos rfl];rfl
  clear e1
  show lg _ _ h2 (bF (aV 1) 0,.dH ⟨3,aW,⟨4,key,val,bO⟩,n,ao,ao,ao,0⟩)
  refine zj (gj (bU (by decide) (by decide)) ?_)
  have et:h2.rd (aV 1)=h.bd 1:=congrFun b2 1
  rw [et]
  generalize e3:h.bd 1=t at *
  have t1:1<=t.af:=by omega
  have tl:h2.lv t.af t.gen:=by rw [ht,htg];exact l2 _ _ za xl
  show lg _ _ h2 (br (ay t 2),.dH ⟨4,aW,⟨4,key,val,bO⟩,n,ao,t,ao,0⟩)
  refine bB (dm (aZ t1 tl (by decide) (by decide)) ?_)
  have en:h2.rd (ay t 2)=h.cl x.s 2:=by rw [dJ t1,ht,c2 _ _ za]
  show lg _ _ h2 (br (aV 1),.dH ⟨5,aW,⟨4,key,val,bO⟩,n,ao,t,h2.rd (ay t 2),0⟩)
  refine bB (dm (bU (by decide) (by decide)) ?_)
  rw [et]
  show lg _ _ h2 ((dU.dH ⟨5,aW,⟨4,key,val,bO⟩,n,ao,t,h2.rd (ay t 2),0⟩).next ⟨t,true⟩)
  rw [S0 key val bO n t _ (jP (by rw [en];exact x0))]
  show lg _ _ h2 (b5 (ay t 2) (h2.rd (ay t 2)) (iC (h2.rd (ay t 2)) n),.dH ⟨7,aW,⟨4,key,val,bO⟩,n,ao,t,h2.rd (ay t 2),0⟩)
  refine bB (gG (aZ t1 tl (by decide) (by decide)) rfl ?_)
  generalize (iC (h2.rd (ay t 2)) n)=w3,(show (iC (h2.rd (ay t 2)) n).af=n.af /\ (iC (h2.rd (ay t 2)) n).gen=n.gen from⟨rfl,rfl⟩)=hw3
  show lg _ _ _ (b5 (aV 1) t (iC t n),.dH ⟨8,aW,⟨4,key,val,bO⟩,n,ao,t,h2.rd (ay t 2),0⟩)
  refine bB (gG (bU (by decide) (by decide)) ?_ ?_)
  ·show (h2.wr _ _).bd 1=_
   rw [tj t1];exact et
  ·refine cK rfl (.inl ⟨rfl,.inl ⟨rfl,d,l++[⟨n.af,n.gen,val⟩],p++[x],⟨n.af,n.gen,val⟩,?_,?_,?_,rfl,rfl,?_⟩⟩)
   ·rw [<- SC];rfl
   ·rw [<- adF,SC]
    have l3:((h2.wr (ay t 2) w3).wr (aV 1) (iC t n)).lv=h2.lv:=by rw [de,de]
    have c3:∀y k,((h2.wr (ay t 2) w3).wr (aV 1) (iC t n)).cl y k=if y=x.s /\ k=2 then w3 else h2.cl y k:=fun y k=>by rw [Mt,gb t1,ht]
    have b3:((h2.wr (ay t 2) w3).wr (aV 1) (iC t n)).bd 0=h.bd 0:=by
     show (h2.wr (ay t 2) w3).bd 0=_
     rw [tj t1,b2]
    show kI _ (((h2.wr (ay t 2) w3).wr (aV 1) (iC t n)).bd 0) _
    rw [b3]
    generalize (h2.wr (ay t 2) w3).wr (aV 1) (iC t n)=h3 at *
    rw [aen,agd] at hn
    obtain⟨_,_,hn⟩:=hn
    refine Bw (h:=h) ⟨?_,?_,h1,by rw [l3];exact Tw,?_,?_⟩ (by rw [l3];exact l2 _ _ za xl) ?_ hp fun z hz B8=>?_
    ·rw [c3,if_pos ⟨rfl,rfl⟩];exact hw3.1
    ·rw [c3,if_pos ⟨rfl,rfl⟩];exact hw3.2
    ·show (h3.cl n.af 1).bS=val
     rw [c3,if_neg fun e=>za e.1.symm];exact n1
    ·show (h3.cl n.af 2).af=0
     rw [c3,if_neg fun e=>za e.1.symm];exact n2
    ·rw [c3,if_neg (by rintro ⟨_,e⟩;cases e),c2 _ _ za]
    ·have Jr:z.s≠n.af:=hs z (by simp [hz])
     have hzx:z.s≠x.s:=hn _ (ad9 hz) _ (by simp)
     refine⟨by rw [l3];exact l2 _ _ Jr B8,?_,?_⟩
     ·rw [c3,if_neg fun e=>hzx e.1,c2 _ _ Jr]
     ·rw [c3,if_neg fun e=>hzx e.1,c2 _ _ Jr]
   ·show ((d::l++[_]).map Nd.s).Nodup
    rw [SC,aen,agd]
    refine⟨hn,by simp,fun a ha b hb e=>?_⟩
    obtain⟨y,hy,rfl⟩:=adK.1 ha
    have hb:b=n.af:=by simpa using hb
    exact hs y hy (e.trans hb)
   ·rw [aen];rfl
 ·refine zj (gj (bU (by decide) (by decide)) ?_)
  have hp0:=hp
  obtain⟨a,b,c,dl,e,f⟩:=hp
  generalize e3:h.bd 0=hd at *
  have hd1:1<=hd.af:=by omega
  have hdl:h.lv hd.af hd.gen:=by rw [a,b];exact dl
  show lg _ _ h (br (aV 1),.dH ⟨2,aW,⟨5,key,val,bO⟩,ao,h.rd (aV 0),ao,ao,0⟩)
  rw [show h.rd (aV 0)=hd from e3]
  refine bB (dm (bU (by decide) (by decide)) ?_)
  show lg _ _ h (bF (ay hd 2) 1,.dH ⟨3,aW,⟨5,key,val,bO⟩,ao,hd,h.bd 1,ao,0⟩)
  generalize e4:h.bd 1=t at *
  refine zj (gj (aZ hd1 hdl (by decide) (by decide)) ?_)
  have en:h.rd (ay hd 2)=h.cl d.s 2:=by rw [dJ hd1,a]
  rw [en]
  generalize e5:h.cl d.s 2=nx at *
  show lg _ _ h (br (aV 0),.dH ⟨4,aW,⟨5,key,val,bO⟩,ao,hd,t,nx,0⟩)
  refine bB (dm (bU (by decide) (by decide)) ?_)
  rw [show h.rd (aV 0)=hd from e3]
  show lg _ _ h ((dU.dH ⟨4,aW,⟨5,key,val,bO⟩,ao,hd,t,nx,0⟩).next ⟨hd,true⟩)
  cases l with
  | nil =>
    rw [HZ key val bO hd t nx (jP f) rfl]
    exact cK rfl (.inr ⟨rfl,.inl ⟨rfl,rfl,d,[],p,x,SC,by rw [e3];exact hp0,hn,by rw [e4];exact ht,by rw [e4];exact htg,rfl⟩⟩)
  | cons y l =>
    obtain⟨a2,b2,c2,dl2,ee2,f2⟩:=f
    have nx1:1<=nx.af:=by omega
    have nxl:h.lv nx.af nx.gen:=by rw [a2,b2];exact dl2
    obtain⟨p',hp'⟩:∃p',p=d::p' /\ y::l=p'++[x]:=by
     cases p with
     | nil=>cases SC
     | cons q p'=>rw [adF] at SC;injection SC with q1 q2;subst q1;exact⟨p',rfl,q2⟩
    obtain⟨rfl,F0⟩:=hp'
    have hn0:=hn
    rw [abv,aem] at hn
    have aqy:(hd.af==t.af)=false:=by
     cases hb:hd.af==t.af with
     | false=>rfl
     | true =>
       have hb:=QC hb
       exact absurd (adK.2 ⟨x,by rw [F0];simp,by omega⟩) hn.1
    rw [HZ key val bO hd t nx (gp nx1) aqy]
    show lg _ _ h (br (ay nx 1),.dH ⟨6,aW,⟨5,key,val,bO⟩,ao,hd,t,nx,0⟩)
    refine bB (dm (aZ nx1 nxl (by decide) (by decide)) ?_)
    have hv:(h.rd (ay nx 1)).bS=y.v:=by rw [dJ nx1,a2];exact ee2
    show lg _ _ h (b5 (aV 0) hd (iC hd nx),.dH ⟨7,aW,⟨5,key,val,bO⟩,ao,hd,t,nx,(h.rd (ay nx 1)).bS⟩)
    rw [hv]
    refine bB (gG (bU (by decide) (by decide)) e3 ?_)
    show lg _ _ _ (jT hd,.dH ⟨8,aW,⟨5,key,val,bO⟩,ao,hd,t,nx,y.v⟩)
    refine zi (vo hd1 (by rw [de];exact hdl) ?_)
    refine cK rfl (.inr ⟨rfl,.inr ⟨y.v,l.map Nd.v,rfl,rfl,y,l,p',x,F0,?_,hn.2,?_,?_,rfl⟩⟩)
    ·show kI ((h.wr (aV 0) (iC hd nx)).JM hd.af) (iC hd nx) (y::l)
     have f3:kI h (iC hd nx) (y::l):=⟨a2,b2,c2,dl2,ee2,f2⟩
     refine oY f3 fun z hz B8=>⟨⟨fun ez=>hn.1 (adK.2 ⟨z,hz,by rw [ez,a]⟩),by rw [de];exact B8⟩,rfl,rfl⟩
    ·show (h.bd 1).af=_
     rw [e4];exact ht
    ·show (h.bd 1).gen=_
     rw [e4];exact htg
end
section
open Go Go.Sx Go.Proofs AH
structure Kn where
 s:Int
 g:Int
 k:Int
 v:Int
def Kn.cW (x:Kn):Ad:=⟨x.s,x.g,2⟩
def kC (h:AH):W->List Kn->Prop
 | w,[]=>w.af=0 /\ w.mark=false
 | w,x::l=>w.af=x.s /\ w.gen=x.g /\ w.mark=false /\ 1<=x.s /\ h.lv x.s x.g /\ (h.cl x.s 0).bS=x.k /\ (h.cl x.s 1).bS=x.v /\ kC h (h.cl x.s 2) l
def kY (h:AH) (key:Int):Ad->List Kn->bm->Prop
 | a,[],w=>w.prev=a /\ w.cur=h.rd a /\ w.found=false
 | a,x::l,w=>if key<=x.k then w.prev=a /\ w.cur=h.rd a /\ w.next=h.cl x.s 2 /\ w.found=(x.k==key) else kY h key x.cW l w
def Fy (Q:bm->Prop) (h:AH):Nat->Nat->(Cl×Bool)×bm->Prop
 | 0,_,_=>False
 | f+1,k,r=>(r.1.2=false /\ Q r.2) \/ (r.1.2=true /\ tq r.1.1.aj<=k /\ r.1.1.aj≠10 /\ h.Wp r.1.1 fun x h'=>h'=h /\ Fy Q h f (k - tq r.1.1.aj) (aY r.2 x))
def oS (Q:bm->Prop) (h:AH) (k:Nat) (r:(Cl×Bool)×bm):Prop:=Fy Q h (k+1) k r
theorem tM {Q Q':bm->Prop} {h:AH} (hq:∀w,Q w->Q' w):∀{f f' k k':Nat} {r:(Cl×Bool)×bm},f<=f'->k<=k'->Fy Q h f k r->Fy Q' h f' k' r
 | 0,_,_,_,_,_,_,hh=>hh.elim
 | f+1,0,_,_,_,hle,_,_=>by omega
 | f+1,f'+1,k,k',r,hle,hk,hh=>by
   rcases hh with⟨e,q⟩ | ⟨e,hn,ht,hw⟩
   ·exact .inl ⟨e,hq _ q⟩
   ·exact .inr ⟨e,abL hn hk,ht,AH.wp_mono (fun x h' hx=>⟨hx.1,tM hq (by omega) (by omega) hx.2⟩) hw⟩
theorem CR {Q Q':bm->Prop} {h:AH} (hq:∀w,Q w->Q' w) {k k':Nat} {r:(Cl×Bool)×bm} (hk:k<=k') (hh:oS Q h k r):oS Q' h k' r:=tM hq (by omega) hk hh
theorem Pc {Q:bm->Prop} {h:AH} {k w:Nat} {r:(Cl×Bool)×bm} (ht:r.1.1.aj≠10) (e:r.1.2=true) (ew:tq r.1.1.aj<=w) (hw:h.Wp r.1.1 fun x h'=>h'=h /\ oS Q h k (aY r.2 x)):oS Q h (k+w) r:=by
 have:=Cm r.1.1.aj
 exact .inr ⟨e,by omega,ht,AH.wp_mono (fun x h' hx=>⟨hx.1,tM (fun _ h=>h) (by omega) (by omega) hx.2⟩) hw⟩
theorem yd {Q:bm->Prop} {h:AH} {k:Nat} {r:(Cl×Bool)×bm} (e:r.1.2=true) (hw:h.Wp r.1.1 fun x h'=>h'=h /\ oS Q h k (aY r.2 x)) (ew:tq r.1.1.aj=1:=by rfl):oS Q h (k+1) r:=Pc (xk (by omega)) e (by omega) hw
theorem Kf {Q:bm->Prop} {h:AH} {k:Nat} {r:(Cl×Bool)×bm} (e:r.1.2=true) (hw:h.Wp r.1.1 fun x h'=>h'=h /\ oS Q h k (aY r.2 x)) (ew:tq r.1.1.aj=5:=by rfl):oS Q h (k+5) r:=Pc (xk (by omega)) e (by omega) hw
theorem xm {Q:bm->Prop} {h:AH} {k:Nat} {r:(Cl×Bool)×bm} (e:r.1.2=false) (q:Q r.2):oS Q h k r:=.inl ⟨e,q⟩
theorem Cn {α:Type} {na:α->cr->Cl×α} {Q:An->AH->Prop} {Qw:bm->Prop} {h:AH} {J:bm->α} {co:bm->Cl×α} {K:Nat} (hJ:∀w x,na (J w) x=cond (aY w x).1.2 ((aY w x).1.1,J (aY w x).2) (co (aY w x).2)) (hc:∀w,Qw w->b9 na Q K h (co w))
 {k:Nat} {w:bm} {x:cr} (hw:oS Qw h k (aY w x)):b9 na Q (k+K) h (na (J w) x):=by
 have go:∀{f k:Nat} {w:bm} {x:cr},Fy Qw h f k (aY w x)->oT na Q true (f+K+1) (k+K) h (na (J w) x):=fun {f}=>by
  induction f with
  | zero=>exact fun hw=>hw.elim
  | succ f ih =>
    intro k w x hw
    rw [hJ]
    rcases hw with⟨e,q⟩ | ⟨e,hn,ht,hw⟩
    ·rw [e];exact eK (fun _ _ h=>h) (by omega) (by omega) id (hc _ q)
    ·rw [e,show f+1+K+1=(f+K+1)+1 by omega]
     refine xS ht (abL hn (by omega)) (AH.wp_mono (fun x h' hx=>?_) hw)
     obtain⟨rfl,hx⟩:=hx
     exact eK (fun _ _ h=>h) (abV _) (by show _<=k+K - tq (aY w _).1.1.aj;omega) id (ih hx)
 exact pX (go hw)
section
variable {h:AH} {la:Cl} {st:Ad} {key:Int}
theorem acW (pv:Ad) (cu nx:W) (k:Int) (fd:Bool) {w:W} (hm:w.mark=false) {b:Bool} (hb:(w.af==0)=b):aY ⟨1,la,st,key,pv,cu,nx,k,fd⟩ ⟨w,true⟩=cond b ((aW,false),⟨-1,la,st,key,pv,w,nx,k,false⟩) ((bF (ay w 2) 0,true),⟨2,la,st,key,pv,w,nx,k,fd⟩):=by
 subst hb;unfold aY Bm;dsimp only;rw [hm];cases w.af==0<;>rfl
theorem acV (pv:Ad) (cu nx:W) (k:Int) (fd:Bool) (hm:nx.mark=false) {b:Bool} (hb:decide (k>=key)=b):aY ⟨4,la,st,key,pv,cu,nx,k,fd⟩ ⟨cu,true⟩=cond b ((aW,false),⟨-1,la,st,key,pv,cu,nx,k,k==key⟩) ((oL 2 1,true),⟨7,la,st,key,ay cu 2,cu,nx,k,fd⟩):=by
 subst hb;unfold aY Bm;dsimp only;rw [m6,hm];cases decide (k>=key)<;>rfl
theorem acT (pv:Ad) (cu nx:W) (k:Int) (fd:Bool) {b:Bool} (hb:(nx.af==0)=b):aY ⟨7,la,st,key,pv,cu,nx,k,fd⟩ ⟨ao,true⟩=cond b ((aW,false),⟨-1,la,st,key,pv,nx,nx,k,false⟩) ((oL 1 0,true),⟨8,la,st,key,pv,nx,nx,k,fd⟩):=by
 subst hb;unfold aY Bm;dsimp only;cases nx.af==0<;>rfl
theorem Pd:∀{l:List Kn} {x:Kn} {pv:Ad} {cu nx:W} {k:Int} {fd:Bool},kC h cu (x::l)->h.bG pv->h.rd pv=cu ->
 oS (kY h key pv (x::l)) h (10 * (l.length+1)) ((bF (ay cu 2) 0,true),⟨2,la,st,key,pv,cu,nx,k,fd⟩)
 | l,x,pv,cu,nx,k,fd,⟨a,b,m,c,d,e0,e1,f⟩,hv,hr=>by
   have QK:1<=cu.af:=by omega
   have cul:h.lv cu.af cu.gen:=by rw [a,b];exact d
   rw [show 10 * (l.length+1)=(10 * l.length+2)+1+1+1+5 by omega]
   have n2:h.rd (ay cu 2)=h.cl x.s 2:=by rw [dJ QK,a]
   have n0:(h.rd (ay cu 0)).bS=x.k:=by rw [dJ QK,a];exact e0
   refine Kf rfl (gj (aZ QK cul (by decide) (by decide)) ⟨rfl,?_⟩)
   rw [n2]
   generalize en:h.cl x.s 2=w2 at *
   have m2:w2.mark=false:=by cases l with
    | nil=>exact f.2
    | cons y l=>exact f.2.2.1
   refine yd rfl (dm (aZ QK cul (by decide) (by decide)) ⟨rfl,?_⟩)
   refine yd rfl (dm hv ⟨rfl,?_⟩)
   show oS _ h _ (aY ⟨4,la,st,key,pv,cu,w2,(h.rd (ay cu 0)).bS,fd⟩ ⟨h.rd pv,true⟩)
   rw [hr,n0]
   by_cases hk:x.k>=key
   ·rw [acV pv cu w2 x.k fd m2 (aaS hk)]
    refine xm rfl ?_
    unfold kY
    rw [if_pos hk]
    exact⟨rfl,hr.symm,en.symm,rfl⟩
   ·rw [acV pv cu w2 x.k fd m2 (aaZ hk)]
    refine yd rfl (mb ⟨rfl,?_⟩)
    show oS _ h (10 * l.length+2) (aY ⟨7,la,st,key,ay cu 2,cu,w2,x.k,fd⟩ ⟨ao,true⟩)
    have ea:ay cu 2=x.cW:=by unfold ay Kn.cW;rw [a,b]
    have BF:∀w,kY h key x.cW l w->kY h key pv (x::l) w:=fun w hw=>by
     unfold kY;rw [if_neg hk];exact hw
    cases l with
    | nil =>
      rw [acT _ cu w2 x.k fd (jP f.1)]
      refine xm rfl (BF _ ?_)
      exact⟨ea,by rw [<- ea];exact n2.symm,rfl⟩
    | cons y l =>
      rw [acT _ cu w2 x.k fd (gp (by have:=f.1;have:=f.2.2.2.1;omega))]
      refine yd rfl (mb ⟨rfl,?_⟩)
      show oS _ h (10 * (l.length+1)+1) ((bF (ay w2 2) 0,true),⟨2,la,st,key,ay cu 2,w2,w2,x.k,fd⟩)
      rw [ea]
      exact CR BF (by omega) (Pd f (.inr ⟨c,d,by show (0:Int)<=2;decide,by show (2:Int) < 8;decide⟩) (by rw [<- ea];exact n2))
theorem ye {l:List Kn} (hv:h.bG st) (hl:kC h (h.rd st) l) {x:cr}:oS (kY h key st l) h (10 * l.length+6) (aY (gZ (st,key)) x):=by
 show oS _ h (10 * l.length+1+5) ((bF st 1,true),⟨1,aW,st,key,st,ao,ao,0,false⟩)
 refine Kf rfl (gj hv ⟨rfl,?_⟩)
 cases l with
 | nil =>
   rw [acW _ _ _ _ _ hl.2 (jP hl.1)]
   exact xm rfl ⟨rfl,rfl,rfl⟩
 | cons y l =>
   rw [acW _ _ _ _ _ hl.2.2.1 (gp (by have:=hl.1;have:=hl.2.2.2.1;omega))]
   exact CR (fun _ h=>h) (by rw [abn];omega) (Pd hl hv rfl)
end
theorem lC {h:AH} {key:Int}:∀{l:List Kn} {a:Ad} {w:bm},kY h key a l w->w.prev=a \/ ∃y∈l,w.prev=y.cW
 | [],a,w,hw=>.inl hw.1
 | x::l,a,w,hw=>by
   unfold kY at hw
   by_cases hk:key<=x.k
   ·rw [if_pos hk] at hw;exact .inl hw.1
   ·rw [if_neg hk] at hw
    rcases lC hw with h1 | ⟨y,hy,h1⟩
    ·exact .inr ⟨x,abw,h1⟩
    ·exact .inr ⟨y,aby _ hy,h1⟩
theorem vn {h:AH} {key:Int}:∀{l:List Kn} {a:Ad} {w:bm},kY h key a l w->w.cur=h.rd w.prev
 | [],a,w,hw=>by rw [hw.1];exact hw.2.1
 | x::l,a,w,hw=>by
   unfold kY at hw
   by_cases hk:key<=x.k
   ·rw [if_pos hk] at hw;rw [hw.1];exact hw.2.1
   ·rw [if_neg hk] at hw;exact vn hw
theorem fO {h:AH}:∀{l:List Kn} {w:W},kC h w l->∀x∈l,1<=x.s /\ h.lv x.s x.g
 | x::l,w,⟨a,b,m,c,d,e0,e1,f⟩,y,hy=>by
   rcases abk.1 hy with rfl | hy
   ·exact⟨c,d⟩
   ·exact fO f y hy
theorem tK {h:AH} {key:Int} {l:List Kn} {a:Ad} {w:bm} (hv:h.bG a) (hl:kC h (h.rd a) l) (hw:kY h key a l w):h.bG w.prev:=by
 rcases lC hw with e | ⟨y,hy,e⟩
 ·rw [e];exact hv
 ·rw [e];exact .inr ⟨(fO hl y hy).1,(fO hl y hy).2,by show (0:Int)<=2;decide,by show (2:Int) < 8;decide⟩
def At (key:Int):List Kn->Option Kn
 | []=>none
 | x::l=>if key<=x.k then(if x.k=key then some x else none) else At key l
theorem Fg {key:Int}:∀{l:List Kn} {x:Kn},At key l=some x->x∈l /\ x.k=key
 | y::l,x,hx=>by
   unfold At at hx
   split at hx
   ·split at hx
    ·cases hx;exact⟨abw,by assumption⟩
    ·cases hx
   ·exact⟨aby _ (Fg hx).1,(Fg hx).2⟩
theorem nZ {h:AH} {key:Int}:∀{l:List Kn} {a:Ad} {w:bm},kC h (h.rd a) l->kY h key a l w->match At key l with
  | none=>w.found=false
  | some x=>w.found=true /\ w.cur.af=x.s /\ w.cur.gen=x.g /\ w.next=h.cl x.s 2 /\ 1<=x.s /\ h.lv x.s x.g /\ (h.cl x.s 1).bS=x.v
 | [],a,w,hl,hw=>hw.2.2
 | x::l,a,w,⟨q1,q2,m,c,d,e0,e1,f⟩,hw=>by
   unfold kY at hw
   unfold At
   by_cases hk:key<=x.k
   ·rw [if_pos hk] at hw ⊢
    obtain⟨w1,w2,w3,w4⟩:=hw
    by_cases he:x.k=key
    ·rw [if_pos he]
     exact⟨by rw [w4,he];simp,by rw [w2];exact q1,by rw [w2];exact q2,w3,c,d,e1⟩
    ·rw [if_neg he]
     show w.found=false
     rw [w4];simpa using he
   ·rw [if_neg hk] at hw ⊢
    exact nZ (a:=x.cW) (by rw [show h.rd x.cW=h.cl x.s 2 from by unfold rd;rw [if_neg (by show ¬x.s=0;omega)];rfl];exact f) hw
