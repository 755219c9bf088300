import Derived.Test.YtadmfaohjnjajaaGreatDoorRd
set_option linter.unusedVariables false
set_option linter.unusedSimpArgs false
set_option maxHeartbeats 4000000
namespace Go.Proofs.YtadmfaohjnjajaaGreatDoor
section
open Go Go.Sx Go.Proofs
set_option maxRecDepth 100000
def oL (c:Cl):Acc :=
 if c.kind=3 \/ c.kind=6 then⟨1,c.adr.s,c.adr.g,c.adr.f,wNil,wNil⟩
 else if c.kind=4 then⟨2,c.adr.s,c.adr.g,c.adr.f,c.old,c.new⟩
 else if c.kind=5 then⟨3,c.adr.s,c.adr.g,c.adr.f,c.old,c.new⟩
 else if c.kind=8 then⟨4,0,0,0,wNil,wNil⟩
 else⟨5,0,0,0,c.old,wNil⟩
def OM (c:Cl) (r:Rp1):Rp1:=if c.kind=6 then⟨r.w,true⟩ else if c.kind=9 then⟨wNil,true⟩ else r
def st1 (c:Cl):Int:=if c.kind=6 then 5 else if c.kind=9 then 2 else 1
def eF (c:Cl):Prop:=c.kind=3 \/ c.kind=4 \/ c.kind=5 \/ c.kind=6 \/ c.kind=8 \/ c.kind=9
structure Idle1 (m:RiteM):Prop where
 en:m.engine=1
 no:m.notes=[]
 st:m.step=0
structure Pend1 (c:Cl) (m:RiteM):Prop where
 en:m.engine=1
 no:m.notes=[]
 cl:m.call=c
 ac:m.acc=oL c
 st:m.step=st1 c
theorem Fw {m:RiteM} (h:Idle1 m) {c:Cl} (hc:eF c):Pend1 c (bS m c):=by
 obtain⟨h1,h2,h3⟩:=h
 obtain⟨k,adr,old,new,i,j,ans⟩:=c
 unfold eF at hc
 dsimp only at hc
 unfold bS mL uD
 rcases hc with rfl | rfl | rfl | rfl | rfl | rfl<;>refine⟨?_,?_,?_,?_,?_⟩<;>simp [qi,rOf,iG,iF,h1,h2,oL,st1]
theorem qK {m:RiteM} (h:Idle1 m) {c:Cl} (hc:c.kind=1 \/ c.kind=2 \/ c.kind=7 \/ c.kind=10):Idle1 (bS m c) /\ (bS m c).reply=⟨wNil,true⟩:=by
 obtain⟨h1,h2,h3⟩:=h
 obtain⟨k,adr,old,new,i,j,ans⟩:=c
 dsimp only at hc
 unfold bS mL uD
 rcases hc with rfl | rfl | rfl | rfl<;>refine⟨⟨?_,?_,?_⟩,?_⟩<;>simp [qi,rOf,nT,ju,eM,h1,h2]
theorem U9 {m:RiteM} {c:Cl} (h:Pend1 c m) (hc:eF c) (x:Rp1):Idle1 (eE m x) /\ (eE m x).reply=OM c x:=by
 obtain⟨h1,h2,h3,h4,h5⟩:=h
 unfold eF at hc
 unfold eE ll ib
 rcases hc with e | e | e | e | e | e<;>(unfold st1 at h5;simp only [e] at h5)<;>refine⟨⟨?_,?_,?_⟩,?_⟩<;>simp [rOf,ju,eM,h1,h2,h5,OM,e]
noncomputable def tM:Nat->JobM->Rp1->Option (Cl×JobM)
 | 0,_,_=>none
 | f+1,j,x=>if (j.next x).1.kind=7 \/ (j.next x).1.kind=10 then tM f (j.next x).2 ⟨wNil,true⟩ else some (j.next x)
structure Free1 (v:VerM):Prop where
 dg:v.doing=0
 en:v.engine=1
 id:Idle1 v.rite
structure Run1 (v:VerM) (c:Cl) (j:JobM):Prop where
 dg:v.doing=2
 en:v.engine=1
 cl:v.call=c
 jb:v.job=some j
 pd:Pend1 c v.rite
 ac:eF c
theorem zO {k:Nat} {v v':VerM} {e:Ex} (h:dj bW k v=some (e,v')) (hs:(bW v).val=some (.exit 0,v)):v'=v:=by
 cases k with
 | zero=>cases h
 | succ k=>simp only [dj,hs] at h;cases h;rfl
theorem o9 {k:Nat} {v v1 v':VerM} {e:Ex} (h:dj bW k v=some (e,v')) (hs:∀r,(bW v).val=some r->r=(.normal,v1)):∃k',dj bW k' v1=some (e,v'):=by
 cases k with
 | zero=>cases h
 | succ k =>
   simp only [dj] at h
   split at h
   ·rename_i m hm
    have:=hs _ hm
    cases this
    exact⟨k,h⟩
   ·rename_i i m hm
    have:=hs _ hm
    cases this
   ·rename_i m hm
    have:=hs _ hm
    cases this
   ·cases h
theorem tP {m:RiteM} (h:Idle1 m):fZ m=false:=by unfold fZ;rw [h.st];rfl
theorem zo {m:RiteM} {c:Cl} (h:Pend1 c m):fZ m=true:=by
 unfold fZ;rw [h.st];unfold st1
 split
 ·rfl
 ·split<;>rfl
theorem Uh {c':Cl} {j':JobM} (hc:c'.kind=12 \/ eF c'):∀{f:Nat} {k:Nat} {v v':VerM} {j:JobM},v.doing=1 \/ v.doing=2->v.engine=1->Idle1 v.rite->v.job=some j->tM f j v.rite.reply=some (c',j')->dj bW k v=some (.exit 0,v') ->
 v'.sort=v.sort /\ (c'.kind=12->Free1 v') /\ (eF c'->Run1 v' c' j')
 | 0,_,_,_,_,_,_,_,_,hj,_=>by cases hj
 | f+1,k,v,v',j,hd,he,hi,hjb,hj,hit=>by
   have hr:(bW v).val=(tN j.ok (eC tI tN tLf adF v (j.next v.rite.reply))).val:=by
    unfold bW dI
    rw [hjb,tP hi]
    rcases hd with hd | hd<;>rw [hd]<;>rfl
   unfold tM at hj
   by_cases hk:(j.next v.rite.reply).1.kind=7 \/ (j.next v.rite.reply).1.kind=10
   ·rw [if_pos hk] at hj
    have hb:=qK hi (c:=(j.next v.rite.reply).1) (by omega)
    obtain⟨k',h'⟩:=o9 (v1:={v with doing:=2,call:=(j.next v.rite.reply).1,rite:=bS v.rite (j.next v.rite.reply).1,job:=some (j.next v.rite.reply).2}) hit fun r hr2=>by
     rw [hr] at hr2
     obtain⟨_,hr2⟩:=aj hr2
     unfold eC at hr2
     rw [show ((j.next v.rite.reply).1.kind != 12)=true by simp;omega] at hr2
     obtain⟨_,hr2⟩:=aj (hr2:(T.need _ _).val=_)
     cases hr2;rfl
    exact Uh hc (f:=f) (k:=k') (v:={v with doing:=2,call:=(j.next v.rite.reply).1,rite:=bS v.rite (j.next v.rite.reply).1,job:=some (j.next v.rite.reply).2}) (.inr rfl) he hb.1 rfl (by show tM f _ (bS v.rite _).reply=_;rw [hb.2];exact hj) h'
   ·rw [if_neg hk] at hj
    have hj:=Option.some.inj hj
    rcases hc with h12 | hac
    ·obtain⟨k',h'⟩:=o9 (v1:={v with answer:=c'.ans,doing:=3,call:=fC,rite:=bS v.rite fC,job:=some j'}) hit fun r hr2=>by
      rw [hr,hj] at hr2
      obtain⟨_,hr2⟩:=aj hr2
      unfold eC at hr2
      rw [show (c'.kind != 12)=false by simp [h12]] at hr2
      obtain⟨_,hr2⟩:=aj (hr2:(T.need _ _).val=_)
      cases hr2;rfl
     have hb:=qK hi (c:=fC) (.inr (.inl rfl))
     obtain⟨k'',h''⟩:=o9 (v1:={v with answer:=c'.ans,doing:=0,call:=fC,rite:=bS v.rite fC,job:=some j'}) h' fun r hr2=>by
      unfold bW dI at hr2
      rw [tP hb.1] at hr2
      cases hr2;rfl
     have e:=zO h'' (by unfold bW dI;rfl)
     subst e
     exact⟨rfl,fun _=>⟨rfl,he,hb.1⟩,fun h=>by unfold eF at h;omega⟩
    ·have hb:=Fw hi hac
     obtain⟨k',h'⟩:=o9 (v1:={v with doing:=2,call:=c',rite:=bS v.rite c',job:=some j'}) hit fun r hr2=>by
      rw [hr,hj] at hr2
      obtain⟨_,hr2⟩:=aj hr2
      unfold eC at hr2
      rw [show (c'.kind != 12)=true by unfold eF at hac;simp;omega] at hr2
      obtain⟨_,hr2⟩:=aj (hr2:(T.need _ _).val=_)
      cases hr2;rfl
     have e:=zO h' (by unfold bW dI;rw [zo hb];rfl)
     subst e
     exact⟨rfl,fun h=>by unfold eF at hac;omega,fun _=>⟨rfl,he,rfl,rfl,hb,hac⟩⟩
theorem hZ {v:VerM} {c c':Cl} {j j':JobM} {p:PlotM} {f:Nat} (h:Run1 v c j) (hok:pN (hN v p)=true) (hj:tM f j (OM c (p.access (oL c)).1)=some (c',j')) (hc:c'.kind=12 \/ eF c') :
 (cD v p).1.real=0 /\ (cD v p).2.2=(p.access (oL c)).2 /\ (cD v p).2.1.sort=v.sort /\ (c'.kind=12->Free1 (cD v p).2.1) /\ (eF c'->Run1 (cD v p).2.1 c' j'):=by
 have ea:(gS v.rite).1=oL c:=by unfold gS;rw [zo h.pd];exact h.pd.ac
 obtain⟨t1,t2⟩:=U9 h.pd h.ac (p.access (oL c)).1
 have ev:hN v p={v with rite:=eE v.rite (p.access (oL c)).1}:=by unfold hN;rw [ea]
 have hadv:=Uh hc (f:=f) (v:=hN v p) (j:=j) (by rw [ev];exact .inr h.dg) (by rw [ev];exact h.en) (by rw [ev];exact t1) (by rw [ev];exact h.jb) (by rw [ev];show tM f j (eE _ _).reply=_;rw [t2];exact hj) (o7 hok)
 have fin:∀r,(mI cond (fun _ t=>t) (fun s v'=>(s,v',(p.access (oL c)).2)) (fun _=>true) g6 (hN v p) r).1.real=r /\ (mI cond (fun _ t=>t) (fun s v'=>(s,v',(p.access (oL c)).2)) (fun _=>true) g6 (hN v p) r).2=(g6 (hN v p),(p.access (oL c)).2):=fun r=>by
  unfold mI
  cases ((g6 (hN v p)).doing==0)<;>exact⟨rfl,rfl⟩
 have key:cD v p=mI cond (fun _ t=>t) (fun s v'=>(s,v',(p.access (oL c)).2)) (fun _=>true) g6 (hN v p) 0:=by
  unfold cD mH
  rw [ea,h.cl,h.en,show fZ (hN v p).rite=false by rw [ev];exact tP t1]
  have hac:=h.ac
  unfold eF at hac
  rcases hac with e | e | e | e | e | e<;>simp only [e,oL]<;>rfl
 obtain⟨f1,f2⟩:=fin 0
 rw [key]
 refine⟨f1,by rw [f2],by rw [f2];exact hadv.1.trans (by rw [ev]),fun e=>?_,fun e=>?_⟩
 ·rw [f2];exact hadv.2.1 e
 ·rw [f2];exact hadv.2.2 e
theorem WS {v:VerM} {o:O} {c':Cl} {j':JobM} {f:Nat} (h:Free1 v) (hok:pN (u6 bS v.sort.toNat v o)=true) (hj:tM f (p5 v.sort.toNat o) ⟨wNil,true⟩=some (c',j')) (hc:c'.kind=12 \/ eF c') :
 (fB v o).sort=v.sort /\ (c'.kind=12->Free1 (fB v o)) /\ (eF c'->Run1 (fB v o) c' j'):=by
 obtain⟨b1,b2⟩:=qK h.id (c:=ke) (.inl rfl)
 exact Uh hc (f:=f) (v:=u6 bS v.sort.toNat v o) (j:=p5 v.sort.toNat o) (.inl rfl) h.en b1 rfl (by show tM f _ (bS v.rite ke).reply=_;rw [b2];exact hj) (o7 hok)
end
section
open Go Go.Sx Go.Proofs
set_option maxRecDepth 100000
structure AH where
 bd:Int->W
 cl:Int->Int->W
 lv:Int->Int->Prop
namespace AH
def valid (h:AH) (a:Ad):Prop:=(a.s=0 /\ a.g=0 /\ 0<=a.f /\ a.f < 18) \/ (1<=a.s /\ h.lv a.s a.g /\ 0<=a.f /\ a.f < 8)
def rd (h:AH) (a:Ad):W:=if a.s=0 then h.bd a.f else h.cl a.s a.f
def wr (h:AH) (a:Ad) (w:W):AH:=if a.s=0 then {h with bd:=fun f=>if f=a.f then w else h.bd f} else {h with cl:=fun s f=>if s=a.s /\ f=a.f then w else h.cl s f}
def new (h:AH) (s g:Int):AH:={h with cl:=fun t f=>if t=s then wNil else h.cl t f,lv:=fun t g'=>if t=s then g'=g else h.lv t g'}
def del (h:AH) (s:Int):AH:={h with lv:=fun t g=>t≠s /\ h.lv t g}
def Wp (h:AH) (c:Cl) (K:Rp1->AH->Prop):Prop :=
 if c.kind=3 \/ c.kind=6 then h.valid c.adr /\ K ⟨h.rd c.adr,true⟩ h
 else if c.kind=4 then h.valid c.adr /\ K ⟨wNil,true⟩ (h.wr c.adr c.new)
 else if c.kind=5 then h.valid c.adr /\ cond (ia (h.rd c.adr) c.old) (K ⟨h.rd c.adr,true⟩ (h.wr c.adr c.new)) (K ⟨h.rd c.adr,false⟩ h)
 else if c.kind=7 then K ⟨wNil,true⟩ h
 else if c.kind=8 then K ⟨wNil,false⟩ h /\ ∀s g,1<=s->(∀g',¬h.lv s g')->K ⟨⟨s,g,0,0,false⟩,true⟩ (h.new s g)
 else if c.kind=9 \/ c.kind=10 then 1<=c.old.slot /\ h.lv c.old.slot c.old.gen /\ K ⟨wNil,true⟩ (h.del c.old.slot)
 else False
variable {h:AH} {K:Rp1->AH->Prop} {a:Ad} {w o:W} {i j:Int}
theorem bI (hv:h.valid a) (k:K ⟨h.rd a,true⟩ h):h.Wp (aM a) K:=⟨hv,k⟩
theorem dy (hv:h.valid a) (k:K ⟨h.rd a,true⟩ h):h.Wp (aS a i) K:=⟨hv,k⟩
theorem dO (hv:h.valid a) (k:K ⟨wNil,true⟩ (h.wr a w)):h.Wp (bz a w) K:=⟨hv,k⟩
theorem iN (w:W):ia w w=true:=by unfold ia;simp
theorem dH (hv:h.valid a) (ho:h.rd a=o) (k:K ⟨o,true⟩ (h.wr a w)):h.Wp (bf a o w) K:=by
 refine⟨hv,?_⟩
 show cond (ia (h.rd a) o) (K ⟨h.rd a,true⟩ (h.wr a w)) (K ⟨h.rd a,false⟩ h)
 rw [ho,iN]
 exact k
theorem g8 (k:K ⟨wNil,true⟩ h):h.Wp (jQ i j) K:=k
theorem lR (k0:K ⟨wNil,false⟩ h) (k:∀n:W,1<=n.slot->(∀g',¬h.lv n.slot g')->K ⟨n,true⟩ (h.new n.slot n.gen)):h.Wp fV K:=⟨k0,fun s g=>k ⟨s,g,0,0,false⟩⟩
theorem AL (h1:1<=w.slot) (hl:h.lv w.slot w.gen) (k:K ⟨wNil,true⟩ (h.del w.slot)):h.Wp (kS w) K:=⟨h1,hl,k⟩
theorem oP (h1:1<=w.slot) (hl:h.lv w.slot w.gen) (k:K ⟨wNil,true⟩ (h.del w.slot)):h.Wp (fP w) K:=⟨h1,hl,k⟩
theorem wp_mono {c:Cl} {K':Rp1->AH->Prop} (hk:∀x h',K x h'->K' x h') (hw:h.Wp c K):h.Wp c K':=by
 unfold Wp at hw ⊢
 split
 ·rename_i e;rw [if_pos e] at hw;exact⟨hw.1,hk _ _ hw.2⟩
 rename_i e;rw [if_neg e] at hw;clear e
 split
 ·rename_i e;rw [if_pos e] at hw;exact⟨hw.1,hk _ _ hw.2⟩
 rename_i e;rw [if_neg e] at hw;clear e
 split
 ·rename_i e;rw [if_pos e] at hw
  refine⟨hw.1,?_⟩
  have:=hw.2
  cases hs:ia (h.rd c.adr) c.old with
  | true=>rw [hs] at this;exact hk _ _ this
  | false=>rw [hs] at this;exact hk _ _ this
 rename_i e;rw [if_neg e] at hw;clear e
 split
 ·rename_i e;rw [if_pos e] at hw;exact hk _ _ hw
 rename_i e;rw [if_neg e] at hw;clear e
 split
 ·rename_i e;rw [if_pos e] at hw;exact⟨hk _ _ hw.1,fun s g h1 h2=>hk _ _ (hw.2 s g h1 h2)⟩
 rename_i e;rw [if_neg e] at hw;clear e
 split
 ·rename_i e;rw [if_pos e] at hw;exact⟨hw.1,hw.2.1,hk _ _ hw.2.2⟩
 rename_i e;rw [if_neg e] at hw
 exact hw
theorem gP {b:Ad}:(h.wr a w).rd b=if b.s=a.s /\ b.f=a.f then w else h.rd b:=by
 unfold wr rd
 by_cases e:a.s=0
 ·rw [if_pos e,e]
  dsimp only
  by_cases eb:b.s=0
  ·rw [if_pos eb,if_pos eb]
   by_cases ef:b.f=a.f
   ·rw [if_pos ef,if_pos ⟨eb,ef⟩]
   ·rw [if_neg ef,if_neg fun x=>ef x.2]
  ·rw [if_neg eb,if_neg eb,if_neg fun x=>eb x.1]
 ·rw [if_neg e]
  dsimp only
  by_cases eb:b.s=0
  ·rw [if_pos eb,if_pos eb,if_neg fun x:b.s=a.s /\ b.f=a.f=>e (x.1▸eb)]
  ·rw [if_neg eb,if_neg eb]
theorem bJ:(h.wr a w).lv=h.lv:=by unfold wr;split<;>rfl
theorem qS {b:Ad}:(h.wr a w).valid b↔h.valid b:=by unfold valid;rw [bJ]
theorem SM {s:Int} {b:Ad}:(h.del s).rd b=h.rd b:=rfl
theorem xv {s g t g':Int}:(h.new s g).lv t g'↔if t=s then g'=g else h.lv t g':=Iff.rfl
theorem aY {f:Int} (h0:0<=f) (h1:f < 18):h.valid (aC f):=.inl ⟨rfl,rfl,h0,h1⟩
theorem aE {f:Int} (h1:1<=w.slot) (hl:h.lv w.slot w.gen) (h0:0<=f) (h8:f < 8):h.valid (af w f):=.inr ⟨h1,hl,h0,h8⟩
end AH
def aT {α:Type} (nx:α->Rp1->Cl×α) (Q:An->AH->Prop):Nat->AH->Cl×α->Prop
 | 0,_,_=>False
 | k+1,h,r=>(r.1.kind=12 /\ Q r.1.ans h) \/ h.Wp r.1 fun x h'=>aT nx Q k h' (nx r.2 x)
noncomputable abbrev eZ:=aT JobM.next
section
variable {α:Type} {nx:α->Rp1->Cl×α}
theorem aA {Q:An->AH->Prop} {k:Nat} {h:AH} {r:Cl×α} (hw:h.Wp r.1 fun x h'=>aT nx Q k h' (nx r.2 x)):aT nx Q (k+1) h r:=.inr hw
theorem bq {Q:An->AH->Prop} {k:Nat} {h:AH} {r:Cl×α} (e:r.1.kind=12) (hq:Q r.1.ans h):aT nx Q (k+1) h r:=.inl ⟨e,hq⟩
theorem aP {Q Q':An->AH->Prop} (hQ:∀a h,Q a h->Q' a h):∀{k k':Nat} {h:AH} {r:Cl×α},k<=k'->aT nx Q k h r->aT nx Q' k' h r
 | 0,_,_,_,_,hh=>hh.elim
 | k+1,0,_,_,hle,_=>by omega
 | k+1,k'+1,h,r,hle,hh=>by
   rcases hh with⟨e,q⟩ | hw
   ·exact .inl ⟨e,hQ _ _ q⟩
   ·exact .inr (AH.wp_mono (fun x h' hx=>aP hQ (by omega) hx) hw)
theorem pq {β:Type} {nb:β->Rp1->Cl×β} {f:α->β} (hf:∀a x,nb (f a) x=((nx a x).1,f (nx a x).2)) {Q:An->AH->Prop}:∀{k:Nat} {h:AH} {r:Cl×α},aT nx Q k h r->aT nb Q k h (r.1,f r.2)
 | 0,_,_,hh=>hh.elim
 | k+1,h,r,hh=>by
   rcases hh with q | hw
   ·exact .inl q
   ·exact .inr (AH.wp_mono (fun x h' hx=>by rw [hf];exact pq hf hx) hw)
end
end
section
open Go Go.Sx Go.Proofs AH
set_option maxRecDepth 100000
namespace AH
variable {h:AH} {w v:W} {f k s g:Int}
theorem dq (h1:1<=w.slot):(h.wr (af w f) v).cl s k=if s=w.slot /\ k=f then v else h.cl s k:=by
 unfold wr
 rw [if_neg (show ¬(af w f).s=0 by show ¬w.slot=0;omega)]
 rfl
theorem nD (h1:1<=w.slot):(h.wr (af w f) v).bd=h.bd:=by
 unfold wr
 rw [if_neg (show ¬(af w f).s=0 by show ¬w.slot=0;omega)]
theorem Dv:(h.wr (aC f) v).cl=h.cl:=rfl
theorem He:(h.wr (aC f) v).bd k=if k=f then v else h.bd k:=rfl
theorem cl_new {t:Int}:(h.new s g).cl t k=if t=s then wNil else h.cl t k:=rfl
end AH
structure Nd where
 s:Int
 g:Int
 v:Int
def gf (h:AH):W->List Nd->Prop
 | w,[]=>w.slot=0
 | w,x::l=>w.slot=x.s /\ w.gen=x.g /\ 1<=x.s /\ h.lv x.s x.g /\ (h.cl x.s 1).num=x.v /\ gf h (h.cl x.s 2) l
theorem jY {h h':AH}:∀{l:List Nd} {w:W},gf h w l->(∀x∈l,h.lv x.s x.g->h'.lv x.s x.g /\ h'.cl x.s 1=h.cl x.s 1 /\ h'.cl x.s 2=h.cl x.s 2)->gf h' w l
 | [],_,hp,_=>hp
 | x::l,w,⟨a,b,c,d,e,f⟩,hf=>by
   obtain⟨f1,f2,f3⟩:=hf x List.mem_cons_self d
   exact⟨a,b,c,f1,by rw [f2];exact e,by rw [f3];exact jY f fun y hy=>hf y (List.mem_cons_of_mem _ hy)⟩
theorem sZ {h:AH}:∀{l:List Nd} {w:W},gf h w l->∀x∈l,h.lv x.s x.g
 | x::l,w,⟨a,b,c,d,e,f⟩,y,hy=>by
   rcases List.mem_cons.1 hy with rfl | hy
   ·exact d
   ·exact sZ f y hy
def ng (h:AH) (vs:List Int):Prop:=∃l,gf h (h.bd 0) l /\ (l.map Nd.s).Nodup /\ l.map Nd.v=vs
def XA (o:O) (vs:List Int) (a:An) (h:AH):Prop :=
 (o.kind=1 /\ ((a=⟨1,0⟩ /\ ng h (o.val::vs)) \/ (a=⟨4,0⟩ /\ ng h vs)))
 \/ (o.kind≠1 /\ vs=[] /\ a=⟨2,0⟩ /\ ng h [])
 \/ (∃v r,vs=v::r /\ a=⟨1,v⟩ /\ ((o.kind=2 /\ ng h r) \/ (o.kind=3 /\ ng h vs)))
theorem fK {w:W} (e:w.slot=0):(w.slot==0)=true:=by rw [e];rfl
theorem dz {w:W} (e:1<=w.slot):(w.slot==0)=false:=by
 cases hb:w.slot==0 with
 | false=>rfl
 | true=>have:=eqI hb;omega
theorem rA (k:Int) (key val tall:Int) (w:W) {b:Bool} (hb:(w.slot==0)=b) (hk:k=2 \/ k=3):(JobM.pile ⟨1,aD,⟨k,key,val,tall⟩,wNil,wNil,0⟩).next ⟨w,true⟩ =
 cond b (fx 2 0,.pile ⟨-1,fx 2 0,⟨k,key,val,tall⟩,wNil,w,0⟩) (cond (k==3) (aM (af w 1),.pile ⟨4,aD,⟨k,key,val,tall⟩,wNil,w,0⟩) (aM (af w 2),.pile ⟨2,aD,⟨k,key,val,tall⟩,wNil,w,0⟩)):=by
 subst hb
 rcases hk with rfl | rfl<;>(unfold JobM.next jv zm;dsimp only;cases w.slot==0<;>rfl)
theorem H8 {h:AH} {vs:List Int} (hi:ng h vs) {o:O} (ho:o.kind=1 \/ o.kind=2 \/ o.kind=3):eZ (XA o vs) 12 h ((p5 1 o).next ⟨wNil,true⟩):=by
 obtain⟨l,hp,hn,rfl⟩:=hi
 obtain⟨kd,key,val,tall⟩:=o
 dsimp only at ho
 rcases ho with rfl | rfl | rfl
 ·refine aA (lR (bq rfl (.inl ⟨rfl,.inr ⟨rfl,l,hp,hn,rfl⟩⟩)) fun n h1 hf=>?_)
  have lvn:(h.new n.slot n.gen).lv n.slot n.gen:=by show if n.slot=n.slot then n.gen=n.gen else _;rw [if_pos rfl]
  have hs:∀x∈l,x.s≠n.slot:=fun x hx e=>hf x.g (e▸sZ hp x hx)
  show eZ _ 11 _ (bz (af n 1) (dt val),.pile ⟨2,aD,⟨1,key,val,tall⟩,n,wNil,0⟩)
  refine aA (dO (aE h1 lvn (by decide) (by decide)) ?_)
  generalize e1:(h.new n.slot n.gen).wr (af n 1) (dt val)=h2
  have b2:h2.bd 0=h.bd 0:=by subst e1;rw [nD h1];rfl
  show eZ _ 10 _ (aM (aC 0),.pile ⟨3,aD,⟨1,key,val,tall⟩,n,wNil,0⟩)
  refine aA (bI (aY (by decide) (by decide)) ?_)
  show eZ _ 9 _ (bz (af n 2) (bP (h2.bd 0)),.pile ⟨4,aD,⟨1,key,val,tall⟩,n,h2.bd 0,0⟩)
  rw [b2]
  refine aA (dO (aE h1 (by subst e1;rw [bJ];exact lvn) (by decide) (by decide)) ?_)
  generalize e3:h2.wr (af n 2) (bP (h.bd 0))=h3
  show eZ _ 8 _ (bf (aC 0) (h.bd 0) (wTo (h.bd 0) n),.pile ⟨5,aD,⟨1,key,val,tall⟩,n,h.bd 0,0⟩)
  refine aA (dH (aY (by decide) (by decide)) (by subst e3;show (h2.wr _ _).bd 0=_;rw [nD h1,b2]) ?_)
  refine bq rfl (.inl ⟨rfl,.inl ⟨rfl,⟨n.slot,n.gen,val⟩::l,?_,?_,rfl⟩⟩)
  ·rw [He,if_pos rfl]
   have c3:∀x k,x≠n.slot->h3.cl x k=h.cl x k:=fun x k hx=>by subst e3;rw [dq h1,if_neg fun e=>hx e.1];subst e1;rw [dq h1,if_neg fun e=>hx e.1,AH.cl_new,if_neg hx]
   refine⟨rfl,rfl,h1,?_,?_,?_⟩
   ·subst e3 e1;rw [bJ,bJ,bJ];exact lvn
   ·subst e3 e1;rw [Dv,dq h1,if_neg (by rintro ⟨_,e⟩;cases e),dq h1,if_pos ⟨rfl,rfl⟩];rfl
   ·rw [Dv,show h3.cl n.slot 2=bP (h.bd 0) by subst e3;rw [dq h1,if_pos ⟨rfl,rfl⟩]]
    have hp2:gf h (bP (h.bd 0)) l:=by cases l<;>exact hp
    refine jY hp2 fun x hx hl=>⟨?_,by rw [Dv];exact c3 _ _ (hs x hx),by rw [Dv];exact c3 _ _ (hs x hx)⟩
    subst e3 e1
    rw [bJ,bJ,bJ,xv,if_neg (hs x hx)];exact hl
  ·rw [List.map_cons,List.nodup_cons]
   refine⟨fun hm=>?_,hn⟩
   obtain⟨x,hx,e⟩:=List.mem_map.1 hm
   exact hs x hx e
 ·refine aA (dy (aY (by decide) (by decide)) ?_)
  cases l with
  | nil =>
    have hp:(h.bd 0).slot=0:=hp
    show eZ _ 11 h ((JobM.pile ⟨1,aD,⟨2,key,val,tall⟩,wNil,wNil,0⟩).next ⟨h.bd 0,true⟩)
    rw [rA 2 key val tall _ (fK hp) (by decide)]
    exact bq rfl (.inr (.inl ⟨by show (2:Int)≠1;decide,rfl,rfl,[],hp,hn,rfl⟩))
  | cons x l =>
    obtain⟨a,b,c,d,e,f⟩:=hp
    have ha:1<=(h.bd 0).slot:=by omega
    show eZ _ 11 h ((JobM.pile ⟨1,aD,⟨2,key,val,tall⟩,wNil,wNil,0⟩).next ⟨h.bd 0,true⟩)
    rw [rA 2 key val tall _ (dz ha) (by decide)]
    have hl:h.lv (h.bd 0).slot (h.bd 0).gen:=by rw [a,b];exact d
    show eZ _ 11 h (aM (af (h.bd 0) 2),.pile ⟨2,aD,⟨2,key,val,tall⟩,wNil,h.bd 0,0⟩)
    refine aA (bI (aE ha hl (by decide) (by decide)) ?_)
    generalize e2:h.rd (af (h.bd 0) 2)=nx
    have hnx:nx=h.cl x.s 2:=by rw [<- e2];unfold rd;rw [if_neg (by show ¬(h.bd 0).slot=0;omega)];show h.cl (h.bd 0).slot 2=_;rw [a]
    show eZ _ 10 h (bf (aC 0) (h.bd 0) (wTo (h.bd 0) nx),.pile ⟨3,aD,⟨2,key,val,tall⟩,wNil,h.bd 0,0⟩)
    refine aA (dH (aY (by decide) (by decide)) rfl ?_)
    generalize e3:h.bd 0=tp at *
    generalize e4:h.wr (aC 0) (wTo tp nx)=h4
    have c4:h4.cl=h.cl:=by subst e4;rfl
    have l4:h4.lv=h.lv:=by subst e4;rfl
    show eZ _ 9 h4 (aM (af tp 1),.pile ⟨4,aD,⟨2,key,val,tall⟩,wNil,tp,0⟩)
    refine aA (bI (aE ha (by rw [l4];exact hl) (by decide) (by decide)) ?_)
    have hv:(h4.rd (af tp 1)).num=x.v:=by unfold rd;rw [if_neg (by show ¬tp.slot=0;omega)];show (h4.cl tp.slot 1).num=_;rw [c4,a];exact e
    show eZ _ 8 h4 (fP tp,.pile ⟨5,aD,⟨2,key,val,tall⟩,wNil,tp,(h4.rd (af tp 1)).num⟩)
    rw [hv]
    refine aA (oP ha (by rw [l4];exact hl) ?_)
    rw [List.map_cons,List.nodup_cons] at hn
    refine bq rfl (.inr (.inr ⟨x.v,l.map Nd.v,rfl,rfl,.inl ⟨rfl,l,?_,hn.2,rfl⟩⟩))
    show gf (h4.del tp.slot) (h4.bd 0) l
    have hb:h4.bd 0=wTo tp nx:=by subst e4;rfl
    rw [hb]
    have f2:gf h (wTo tp nx) l:=by rw [hnx];cases l<;>exact f
    refine jY f2 fun y hy hly=>⟨⟨fun ey=>hn.1 (List.mem_map.2 ⟨y,hy,by rw [ey,a]⟩),by rw [l4];exact hly⟩,by show h4.cl _ _=_;rw [c4],by show h4.cl _ _=_;rw [c4]⟩
 ·refine aA (dy (aY (by decide) (by decide)) ?_)
  cases l with
  | nil =>
    have hp:(h.bd 0).slot=0:=hp
    show eZ _ 11 h ((JobM.pile ⟨1,aD,⟨3,key,val,tall⟩,wNil,wNil,0⟩).next ⟨h.bd 0,true⟩)
    rw [rA 3 key val tall _ (fK hp) (by decide)]
    exact bq rfl (.inr (.inl ⟨by show (3:Int)≠1;decide,rfl,rfl,[],hp,hn,rfl⟩))
  | cons x l =>
    have hp0:=hp
    obtain⟨a,b,c,d,e,f⟩:=hp
    have ha:1<=(h.bd 0).slot:=by omega
    show eZ _ 11 h ((JobM.pile ⟨1,aD,⟨3,key,val,tall⟩,wNil,wNil,0⟩).next ⟨h.bd 0,true⟩)
    rw [rA 3 key val tall _ (dz ha) (by decide)]
    have hl:h.lv (h.bd 0).slot (h.bd 0).gen:=by rw [a,b];exact d
    show eZ _ 11 h (aM (af (h.bd 0) 1),.pile ⟨4,aD,⟨3,key,val,tall⟩,wNil,h.bd 0,0⟩)
    refine aA (bI (aE ha hl (by decide) (by decide)) ?_)
    have hv:(h.rd (af (h.bd 0) 1)).num=x.v:=by unfold rd;rw [if_neg (by show ¬(h.bd 0).slot=0;omega)];show (h.cl (h.bd 0).slot 1).num=_;rw [a];exact e
    show eZ _ 10 h (fx 1 (h.rd (af (h.bd 0) 1)).num,_)
    rw [hv]
    exact bq rfl (.inr (.inr ⟨x.v,l.map Nd.v,rfl,rfl,.inr ⟨rfl,x::l,hp0,hn,rfl⟩⟩))
end
section
open Go Go.Sx Go.Proofs AH
set_option maxRecDepth 100000
theorem bQ {h:AH} {w:W} {f:Int} (h1:1<=w.slot):h.rd (af w f)=h.cl w.slot f:=by
 unfold rd;rw [if_neg (by show ¬w.slot=0;omega)];rfl
theorem pY {h:AH} {x:Nd}:∀{l:List Nd} {w:W},gf h w (l++[x])->(h.cl x.s 2).slot=0 /\ 1<=x.s /\ h.lv x.s x.g
 | [],w,⟨a,b,c,d,e,f⟩=>⟨f,c,d⟩
 | y::l,w,⟨a,b,c,d,e,f⟩=>pY f
theorem uF {h h':AH} {x y:Nd} (hy:gf h' (h'.cl x.s 2) [y]) (hl:h'.lv x.s x.g) (h1:h'.cl x.s 1=h.cl x.s 1):∀{l:List Nd} {w:W},gf h w (l++[x])->(∀z∈l,h.lv z.s z.g->h'.lv z.s z.g /\ h'.cl z.s 1=h.cl z.s 1 /\ h'.cl z.s 2=h.cl z.s 2)->gf h' w (l++[x]++[y])
 | [],w,⟨a,b,c,d,e,f⟩,hf=>⟨a,b,c,hl,by rw [h1];exact e,hy⟩
 | z::l,w,⟨a,b,c,d,e,f⟩,hf=>by
   obtain⟨f1,f2,f3⟩:=hf z List.mem_cons_self d
   exact⟨a,b,c,f1,by rw [f2];exact e,by rw [f3];exact uF hy hl h1 f fun u hu=>hf u (List.mem_cons_of_mem _ hu)⟩
def pI (h:AH) (vs:List Int):Prop:=∃d l p x,d::l=p++[x] /\ gf h (h.bd 0) (d::l) /\ ((d::l).map Nd.s).Nodup /\ (h.bd 1).slot=x.s /\ (h.bd 1).gen=x.g /\ l.map Nd.v=vs
def XE (o:O) (vs:List Int) (a:An) (h:AH):Prop :=
 (o.kind=4 /\ ((a=⟨1,0⟩ /\ pI h (vs++[o.val])) \/ (a=⟨4,0⟩ /\ pI h vs)))
 \/ (o.kind=5 /\ ((vs=[] /\ a=⟨2,0⟩ /\ pI h []) \/ (∃v r,vs=v::r /\ a=⟨1,v⟩ /\ pI h r)))
theorem IZ (key val tall:Int) (nd t n:W) {b:Bool} (hb:(n.slot==0)=b):(JobM.cort ⟨5,aD,⟨4,key,val,tall⟩,nd,wNil,t,n,0⟩).next ⟨t,true⟩ =
 cond (!b) (bf (aC 1) t (wTo t n),.cort ⟨6,aD,⟨4,key,val,tall⟩,nd,wNil,t,n,0⟩) (bf (af t 2) n (wTo n nd),.cort ⟨7,aD,⟨4,key,val,tall⟩,nd,wNil,t,n,0⟩):=by
 subst hb
 unfold JobM.next iy yj;dsimp only
 rw [iN]
 cases n.slot==0<;>rfl
theorem Ao (key val tall:Int) (h t n:W) {b c:Bool} (hb:(n.slot==0)=b) (hc:(h.slot==t.slot)=c):(JobM.cort ⟨4,aD,⟨5,key,val,tall⟩,wNil,h,t,n,0⟩).next ⟨h,true⟩ =
 cond b (fx 2 0,.cort ⟨-1,fx 2 0,⟨5,key,val,tall⟩,wNil,h,t,n,0⟩) (cond c (bf (aC 1) t (wTo t n),.cort ⟨5,aD,⟨5,key,val,tall⟩,wNil,h,t,n,0⟩) (aM (af n 1),.cort ⟨6,aD,⟨5,key,val,tall⟩,wNil,h,t,n,0⟩)):=by
 subst hb;subst hc
 unfold JobM.next iy yj;dsimp only
 rw [iN]
 cases n.slot==0<;>cases h.slot==t.slot<;>rfl
theorem I0 {h:AH} {vs:List Int} (hi:pI h vs) {o:O} (ho:o.kind=4 \/ o.kind=5):eZ (XE o vs) 12 h ((p5 2 o).next ⟨wNil,true⟩):=by
 obtain⟨d,l,p,x,hpx,hp,hn,ht,htg,rfl⟩:=hi
 obtain⟨kd,key,val,tall⟩:=o
 dsimp only at ho
 rcases ho with rfl | rfl
 ·refine aA (lR (bq rfl (.inl ⟨rfl,.inr ⟨rfl,d,l,p,x,hpx,hp,hn,ht,htg,rfl⟩⟩)) fun n h1 hf=>?_)
  have lvn:(h.new n.slot n.gen).lv n.slot n.gen:=by show if n.slot=n.slot then n.gen=n.gen else _;rw [if_pos rfl]
  have hs:∀y∈d::l,y.s≠n.slot:=fun y hy e=>hf y.g (e▸sZ hp y hy)
  rw [hpx] at hp hn hs
  obtain⟨x0,x1,xl⟩:=pY hp
  have hxn:x.s≠n.slot:=hs x (by simp)
  show eZ _ 11 _ (bz (af n 1) (dt val),.cort ⟨2,aD,⟨4,key,val,tall⟩,n,wNil,wNil,wNil,0⟩)
  refine aA (dO (aE h1 lvn (by decide) (by decide)) ?_)
  generalize e1:(h.new n.slot n.gen).wr (af n 1) (dt val)=h2
  have b2:h2.bd=h.bd:=by subst e1;rw [nD h1];rfl
  have c2:∀y k,y≠n.slot->h2.cl y k=h.cl y k:=fun y k hy=>by subst e1;rw [dq h1,if_neg fun e=>hy e.1,AH.cl_new,if_neg hy]
  have l2:∀y g,y≠n.slot->h.lv y g->h2.lv y g:=fun y g hy hl=>by subst e1;rw [bJ,xv,if_neg hy];exact hl
  have l2n:h2.lv n.slot n.gen:=by subst e1;rw [bJ];exact lvn
  have n1:(h2.cl n.slot 1).num=val:=by subst e1;rw [dq h1,if_pos ⟨rfl,rfl⟩];rfl
  have n2:(h2.cl n.slot 2).slot=0:=by subst e1;rw [dq h1,if_neg (by rintro ⟨_,e⟩;cases e),AH.cl_new,if_pos rfl];rfl
  clear e1
  show eZ _ 10 h2 (aS (aC 1) 0,.cort ⟨3,aD,⟨4,key,val,tall⟩,n,wNil,wNil,wNil,0⟩)
  refine aA (dy (aY (by decide) (by decide)) ?_)
  have et:h2.rd (aC 1)=h.bd 1:=congrFun b2 1
  rw [et]
  generalize e3:h.bd 1=t at *
  have t1:1<=t.slot:=by omega
  have tl:h2.lv t.slot t.gen:=by rw [ht,htg];exact l2 _ _ hxn xl
  show eZ _ 9 h2 (aM (af t 2),.cort ⟨4,aD,⟨4,key,val,tall⟩,n,wNil,t,wNil,0⟩)
  refine aA (bI (aE t1 tl (by decide) (by decide)) ?_)
  have en:h2.rd (af t 2)=h.cl x.s 2:=by rw [bQ t1,ht,c2 _ _ hxn]
  show eZ _ 8 h2 (aM (aC 1),.cort ⟨5,aD,⟨4,key,val,tall⟩,n,wNil,t,h2.rd (af t 2),0⟩)
  refine aA (bI (aY (by decide) (by decide)) ?_)
  rw [et]
  show eZ _ 7 h2 ((JobM.cort ⟨5,aD,⟨4,key,val,tall⟩,n,wNil,t,h2.rd (af t 2),0⟩).next ⟨t,true⟩)
  rw [IZ key val tall n t _ (fK (by rw [en];exact x0))]
  show eZ _ 7 h2 (bf (af t 2) (h2.rd (af t 2)) (wTo (h2.rd (af t 2)) n),.cort ⟨7,aD,⟨4,key,val,tall⟩,n,wNil,t,h2.rd (af t 2),0⟩)
  refine aA (dH (aE t1 tl (by decide) (by decide)) rfl ?_)
  generalize (wTo (h2.rd (af t 2)) n)=w3,(show (wTo (h2.rd (af t 2)) n).slot=n.slot /\ (wTo (h2.rd (af t 2)) n).gen=n.gen from⟨rfl,rfl⟩)=hw3
  show eZ _ 6 _ (bf (aC 1) t (wTo t n),.cort ⟨8,aD,⟨4,key,val,tall⟩,n,wNil,t,h2.rd (af t 2),0⟩)
  refine aA (dH (aY (by decide) (by decide)) ?_ ?_)
  ·show (h2.wr _ _).bd 1=_
   rw [nD t1];exact et
  ·refine bq rfl (.inl ⟨rfl,.inl ⟨rfl,d,l++[⟨n.slot,n.gen,val⟩],p++[x],⟨n.slot,n.gen,val⟩,?_,?_,?_,rfl,rfl,?_⟩⟩)
   ·rw [<- hpx];rfl
   ·rw [<- List.cons_append,hpx]
    have l3:((h2.wr (af t 2) w3).wr (aC 1) (wTo t n)).lv=h2.lv:=by rw [bJ,bJ]
    have c3:∀y k,((h2.wr (af t 2) w3).wr (aC 1) (wTo t n)).cl y k=if y=x.s /\ k=2 then w3 else h2.cl y k:=fun y k=>by rw [Dv,dq t1,ht]
    have b3:((h2.wr (af t 2) w3).wr (aC 1) (wTo t n)).bd 0=h.bd 0:=by
     show (h2.wr (af t 2) w3).bd 0=_
     rw [nD t1,b2]
    show gf _ (((h2.wr (af t 2) w3).wr (aC 1) (wTo t n)).bd 0) _
    rw [b3]
    generalize (h2.wr (af t 2) w3).wr (aC 1) (wTo t n)=h3 at *
    rw [List.map_append,List.nodup_append] at hn
    obtain⟨_,_,hn⟩:=hn
    refine uF (h:=h) ⟨?_,?_,h1,by rw [l3];exact l2n,?_,?_⟩ (by rw [l3];exact l2 _ _ hxn xl) ?_ hp fun z hz hzl=>?_
    ·rw [c3,if_pos ⟨rfl,rfl⟩];exact hw3.1
    ·rw [c3,if_pos ⟨rfl,rfl⟩];exact hw3.2
    ·show (h3.cl n.slot 1).num=val
     rw [c3,if_neg fun e=>hxn e.1.symm];exact n1
    ·show (h3.cl n.slot 2).slot=0
     rw [c3,if_neg fun e=>hxn e.1.symm];exact n2
    ·rw [c3,if_neg (by rintro ⟨_,e⟩;cases e),c2 _ _ hxn]
    ·have hzn:z.s≠n.slot:=hs z (by simp [hz])
     have hzx:z.s≠x.s:=hn _ (List.mem_map_of_mem hz) _ (by simp)
     refine⟨by rw [l3];exact l2 _ _ hzn hzl,?_,?_⟩
     ·rw [c3,if_neg fun e=>hzx e.1,c2 _ _ hzn]
     ·rw [c3,if_neg fun e=>hzx e.1,c2 _ _ hzn]
   ·show ((d::l++[_]).map Nd.s).Nodup
    rw [hpx,List.map_append,List.nodup_append]
    refine⟨hn,by simp,fun a ha b hb e=>?_⟩
    obtain⟨y,hy,rfl⟩:=List.mem_map.1 ha
    have hb:b=n.slot:=by simpa using hb
    exact hs y hy (e.trans hb)
   ·rw [List.map_append];rfl
 ·refine aA (dy (aY (by decide) (by decide)) ?_)
  have hp0:=hp
  obtain⟨a,b,c,dl,e,f⟩:=hp
  generalize e3:h.bd 0=hd at *
  have hd1:1<=hd.slot:=by omega
  have hdl:h.lv hd.slot hd.gen:=by rw [a,b];exact dl
  show eZ _ 11 h (aM (aC 1),.cort ⟨2,aD,⟨5,key,val,tall⟩,wNil,h.rd (aC 0),wNil,wNil,0⟩)
  rw [show h.rd (aC 0)=hd from e3]
  refine aA (bI (aY (by decide) (by decide)) ?_)
  show eZ _ 10 h (aS (af hd 2) 1,.cort ⟨3,aD,⟨5,key,val,tall⟩,wNil,hd,h.bd 1,wNil,0⟩)
  generalize e4:h.bd 1=t at *
  refine aA (dy (aE hd1 hdl (by decide) (by decide)) ?_)
  have en:h.rd (af hd 2)=h.cl d.s 2:=by rw [bQ hd1,a]
  rw [en]
  generalize e5:h.cl d.s 2=nx at *
  show eZ _ 9 h (aM (aC 0),.cort ⟨4,aD,⟨5,key,val,tall⟩,wNil,hd,t,nx,0⟩)
  refine aA (bI (aY (by decide) (by decide)) ?_)
  rw [show h.rd (aC 0)=hd from e3]
  show eZ _ 8 h ((JobM.cort ⟨4,aD,⟨5,key,val,tall⟩,wNil,hd,t,nx,0⟩).next ⟨hd,true⟩)
  cases l with
  | nil =>
    rw [Ao key val tall hd t nx (fK f) rfl]
    exact bq rfl (.inr ⟨rfl,.inl ⟨rfl,rfl,d,[],p,x,hpx,by rw [e3];exact hp0,hn,by rw [e4];exact ht,by rw [e4];exact htg,rfl⟩⟩)
  | cons y l =>
    obtain⟨a2,b2,c2,dl2,ee2,f2⟩:=f
    have nx1:1<=nx.slot:=by omega
    have nxl:h.lv nx.slot nx.gen:=by rw [a2,b2];exact dl2
    obtain⟨p',hp'⟩:∃p',p=d::p' /\ y::l=p'++[x]:=by
     cases p with
     | nil=>cases hpx
     | cons q p'=>rw [List.cons_append] at hpx;injection hpx with q1 q2;subst q1;exact⟨p',rfl,q2⟩
    obtain⟨rfl,hyl⟩:=hp'
    have hn0:=hn
    rw [List.map_cons,List.nodup_cons] at hn
    have htne:(hd.slot==t.slot)=false:=by
     cases hb:hd.slot==t.slot with
     | false=>rfl
     | true =>
       have hb:=eqI hb
       exact absurd (List.mem_map.2 ⟨x,by rw [hyl];simp,by omega⟩) hn.1
    rw [Ao key val tall hd t nx (dz nx1) htne]
    show eZ _ 8 h (aM (af nx 1),.cort ⟨6,aD,⟨5,key,val,tall⟩,wNil,hd,t,nx,0⟩)
    refine aA (bI (aE nx1 nxl (by decide) (by decide)) ?_)
    have hv:(h.rd (af nx 1)).num=y.v:=by rw [bQ nx1,a2];exact ee2
    show eZ _ 7 h (bf (aC 0) hd (wTo hd nx),.cort ⟨7,aD,⟨5,key,val,tall⟩,wNil,hd,t,nx,(h.rd (af nx 1)).num⟩)
    rw [hv]
    refine aA (dH (aY (by decide) (by decide)) e3 ?_)
    show eZ _ 6 _ (fP hd,.cort ⟨8,aD,⟨5,key,val,tall⟩,wNil,hd,t,nx,y.v⟩)
    refine aA (oP hd1 (by rw [bJ];exact hdl) ?_)
    refine bq rfl (.inr ⟨rfl,.inr ⟨y.v,l.map Nd.v,rfl,rfl,y,l,p',x,hyl,?_,hn.2,?_,?_,rfl⟩⟩)
    ·show gf ((h.wr (aC 0) (wTo hd nx)).del hd.slot) (wTo hd nx) (y::l)
     have f3:gf h (wTo hd nx) (y::l):=⟨a2,b2,c2,dl2,ee2,f2⟩
     refine jY f3 fun z hz hzl=>⟨⟨fun ez=>hn.1 (List.mem_map.2 ⟨z,hz,by rw [ez,a]⟩),by rw [bJ];exact hzl⟩,rfl,rfl⟩
    ·show (h.bd 1).slot=_
     rw [e4];exact ht
    ·show (h.bd 1).gen=_
     rw [e4];exact htg
end
section
open Go Go.Sx Go.Proofs AH
set_option maxRecDepth 100000
structure Kn where
 s:Int
 g:Int
 k:Int
 v:Int
def Kn.adr (x:Kn):Ad:=⟨x.s,x.g,2⟩
def gb (h:AH):W->List Kn->Prop
 | w,[]=>w.slot=0 /\ w.mark=false
 | w,x::l=>w.slot=x.s /\ w.gen=x.g /\ w.mark=false /\ 1<=x.s /\ h.lv x.s x.g /\ (h.cl x.s 0).num=x.k /\ (h.cl x.s 1).num=x.v /\ gb h (h.cl x.s 2) l
def gr (h:AH) (key:Int):Ad->List Kn->WalkM->Prop
 | a,[],w=>w.prev=a /\ w.cur=h.rd a /\ w.found=false
 | a,x::l,w=>if key<=x.k then w.prev=a /\ w.cur=h.rd a /\ w.next=h.cl x.s 2 /\ w.found=(x.k==key) else gr h key x.adr l w
def mG (Q:WalkM->Prop) (h:AH):Nat->(Cl×Bool)×WalkM->Prop
 | 0,_=>False
 | k+1,r=>(r.1.2=false /\ Q r.2) \/ (r.1.2=true /\ h.Wp r.1.1 fun x h'=>h'=h /\ mG Q h k (aG r.2 x))
theorem lU {Q:WalkM->Prop} {h:AH} {k:Nat} {r:(Cl×Bool)×WalkM} (e:r.1.2=true) (hw:h.Wp r.1.1 fun x h'=>h'=h /\ mG Q h k (aG r.2 x)):mG Q h (k+1) r:=.inr ⟨e,hw⟩
theorem qd {Q:WalkM->Prop} {h:AH} {k:Nat} {r:(Cl×Bool)×WalkM} (e:r.1.2=false) (q:Q r.2):mG Q h (k+1) r:=.inl ⟨e,q⟩
theorem qc {Q Q':WalkM->Prop} {h:AH} (hq:∀w,Q w->Q' w):∀{k k':Nat} {r:(Cl×Bool)×WalkM},k<=k'->mG Q h k r->mG Q' h k' r
 | 0,_,_,_,hh=>hh.elim
 | k+1,0,_,hle,_=>by omega
 | k+1,k'+1,r,hle,hh=>by
   rcases hh with⟨e,q⟩ | ⟨e,hw⟩
   ·exact .inl ⟨e,hq _ q⟩
   ·exact .inr ⟨e,AH.wp_mono (fun x h' hx=>⟨hx.1,qc hq (by omega) hx.2⟩) hw⟩
theorem qM {α:Type} {na:α->Rp1->Cl×α} {Q:An->AH->Prop} {Qw:WalkM->Prop} {h:AH} {J:WalkM->α} {co:WalkM->Cl×α} {K:Nat} (hJ:∀w x,na (J w) x=cond (aG w x).1.2 ((aG w x).1.1,J (aG w x).2) (co (aG w x).2)) (hc:∀w,Qw w->aT na Q K h (co w)) :
 ∀{k:Nat} {w:WalkM} {x:Rp1},mG Qw h k (aG w x)->aT na Q (k+K) h (na (J w) x)
 | 0,_,_,hw=>hw.elim
 | k+1,w,x,hw=>by
   rw [hJ]
   rcases hw with⟨e,q⟩ | ⟨e,hw⟩
   ·rw [e];exact aP (fun _ _ h=>h) (by omega) (hc _ q)
   ·rw [e,show k+1+K=(k+K)+1 by omega]
    refine aA (AH.wp_mono (fun x h' hx=>?_) hw)
    obtain⟨rfl,hx⟩:=hx
    exact qM hJ hc hx
section
variable {h:AH} {la:Cl} {st:Ad} {key:Int}
theorem QI (pv:Ad) (cu nx:W) (k:Int) (fd:Bool) {w:W} (hm:w.mark=false) {b:Bool} (hb:(w.slot==0)=b):aG ⟨1,la,st,key,pv,cu,nx,k,fd⟩ ⟨w,true⟩=cond b ((aD,false),⟨-1,la,st,key,pv,w,nx,k,false⟩) ((aS (af w 2) 0,true),⟨2,la,st,key,pv,w,nx,k,fd⟩):=by
 subst hb;unfold aG uu;dsimp only;rw [hm];cases w.slot==0<;>rfl
theorem QH (pv:Ad) (cu nx:W) (k:Int) (fd:Bool) (hm:nx.mark=false) {b:Bool} (hb:decide (k>=key)=b):aG ⟨4,la,st,key,pv,cu,nx,k,fd⟩ ⟨cu,true⟩=cond b ((aD,false),⟨-1,la,st,key,pv,cu,nx,k,k==key⟩) ((jQ 2 1,true),⟨7,la,st,key,af cu 2,cu,nx,k,fd⟩):=by
 subst hb;unfold aG uu;dsimp only;rw [iN,hm];cases decide (k>=key)<;>rfl
theorem QG (pv:Ad) (cu nx:W) (k:Int) (fd:Bool) {b:Bool} (hb:(nx.slot==0)=b):aG ⟨7,la,st,key,pv,cu,nx,k,fd⟩ ⟨wNil,true⟩=cond b ((aD,false),⟨-1,la,st,key,pv,nx,nx,k,false⟩) ((jQ 1 0,true),⟨8,la,st,key,pv,nx,nx,k,fd⟩):=by
 subst hb;unfold aG uu;dsimp only;cases nx.slot==0<;>rfl
theorem FL:∀{l:List Kn} {x:Kn} {pv:Ad} {cu nx:W} {k:Int} {fd:Bool},gb h cu (x::l)->h.valid pv->h.rd pv=cu ->
 mG (gr h key pv (x::l)) h (6 * (l.length+1)) ((aS (af cu 2) 0,true),⟨2,la,st,key,pv,cu,nx,k,fd⟩)
 | l,x,pv,cu,nx,k,fd,⟨a,b,m,c,d,e0,e1,f⟩,hv,hr=>by
   have cu1:1<=cu.slot:=by omega
   have cul:h.lv cu.slot cu.gen:=by rw [a,b];exact d
   rw [show 6 * (l.length+1)=(6 * l.length+2)+1+1+1+1 by omega]
   have n2:h.rd (af cu 2)=h.cl x.s 2:=by rw [bQ cu1,a]
   have n0:(h.rd (af cu 0)).num=x.k:=by rw [bQ cu1,a];exact e0
   refine lU rfl (dy (aE cu1 cul (by decide) (by decide)) ⟨rfl,?_⟩)
   rw [n2]
   generalize en:h.cl x.s 2=w2 at *
   have m2:w2.mark=false:=by cases l with
    | nil=>exact f.2
    | cons y l=>exact f.2.2.1
   refine lU rfl (bI (aE cu1 cul (by decide) (by decide)) ⟨rfl,?_⟩)
   refine lU rfl (bI hv ⟨rfl,?_⟩)
   show mG _ h _ (aG ⟨4,la,st,key,pv,cu,w2,(h.rd (af cu 0)).num,fd⟩ ⟨h.rd pv,true⟩)
   rw [hr,n0]
   by_cases hk:x.k>=key
   ·rw [QH pv cu w2 x.k fd m2 (decide_eq_true hk)]
    refine qd rfl ?_
    unfold gr
    rw [if_pos hk]
    exact⟨rfl,hr.symm,en.symm,rfl⟩
   ·rw [QH pv cu w2 x.k fd m2 (decide_eq_false hk)]
    refine lU rfl (g8 ⟨rfl,?_⟩)
    show mG _ h (6 * l.length+2) (aG ⟨7,la,st,key,af cu 2,cu,w2,x.k,fd⟩ ⟨wNil,true⟩)
    have ea:af cu 2=x.adr:=by unfold af Kn.adr;rw [a,b]
    have hstep:∀w,gr h key x.adr l w->gr h key pv (x::l) w:=fun w hw=>by
     unfold gr;rw [if_neg hk];exact hw
    cases l with
    | nil =>
      rw [QG _ cu w2 x.k fd (fK f.1)]
      refine qd rfl (hstep _ ?_)
      exact⟨ea,by rw [<- ea];exact n2.symm,rfl⟩
    | cons y l =>
      rw [QG _ cu w2 x.k fd (dz (by have:=f.1;have:=f.2.2.2.1;omega))]
      refine lU rfl (g8 ⟨rfl,?_⟩)
      show mG _ h (6 * (l.length+1)+1) ((aS (af w2 2) 0,true),⟨2,la,st,key,af cu 2,w2,w2,x.k,fd⟩)
      rw [ea]
      exact qc hstep (by omega) (FL f (.inr ⟨c,d,by show (0:Int)<=2;decide,by show (2:Int) < 8;decide⟩) (by rw [<- ea];exact n2))
theorem qN {l:List Kn} (hv:h.valid st) (hl:gb h (h.rd st) l) {x:Rp1}:mG (gr h key st l) h (6 * l.length+2) (aG (dS (st,key)) x):=by
 show mG _ h (6 * l.length+2) ((aS st 1,true),⟨1,aD,st,key,st,wNil,wNil,0,false⟩)
 refine lU rfl (dy hv ⟨rfl,?_⟩)
 cases l with
 | nil =>
   rw [QI _ _ _ _ _ hl.2 (fK hl.1)]
   exact qd rfl ⟨rfl,rfl,rfl⟩
 | cons y l =>
   rw [QI _ _ _ _ _ hl.2.2.1 (dz (by have:=hl.1;have:=hl.2.2.2.1;omega))]
   exact qc (fun _ h=>h) (by rw [List.length_cons];omega) (FL hl hv rfl)
end
theorem gD {h:AH} {key:Int}:∀{l:List Kn} {a:Ad} {w:WalkM},gr h key a l w->w.prev=a \/ ∃y∈l,w.prev=y.adr
 | [],a,w,hw=>.inl hw.1
 | x::l,a,w,hw=>by
   unfold gr at hw
   by_cases hk:key<=x.k
   ·rw [if_pos hk] at hw;exact .inl hw.1
   ·rw [if_neg hk] at hw
    rcases gD hw with h1 | ⟨y,hy,h1⟩
    ·exact .inr ⟨x,List.mem_cons_self,h1⟩
    ·exact .inr ⟨y,List.mem_cons_of_mem _ hy,h1⟩
theorem oO {h:AH} {key:Int}:∀{l:List Kn} {a:Ad} {w:WalkM},gr h key a l w->w.cur=h.rd w.prev
 | [],a,w,hw=>by rw [hw.1];exact hw.2.1
 | x::l,a,w,hw=>by
   unfold gr at hw
   by_cases hk:key<=x.k
   ·rw [if_pos hk] at hw;rw [hw.1];exact hw.2.1
   ·rw [if_neg hk] at hw;exact oO hw
theorem de {h:AH}:∀{l:List Kn} {w:W},gb h w l->∀x∈l,1<=x.s /\ h.lv x.s x.g
 | x::l,w,⟨a,b,m,c,d,e0,e1,f⟩,y,hy=>by
   rcases List.mem_cons.1 hy with rfl | hy
   ·exact⟨c,d⟩
   ·exact de f y hy
theorem nG {h:AH} {key:Int} {l:List Kn} {a:Ad} {w:WalkM} (hv:h.valid a) (hl:gb h (h.rd a) l) (hw:gr h key a l w):h.valid w.prev:=by
 rcases gD hw with e | ⟨y,hy,e⟩
 ·rw [e];exact hv
 ·rw [e];exact .inr ⟨(de hl y hy).1,(de hl y hy).2,by show (0:Int)<=2;decide,by show (2:Int) < 8;decide⟩
def At (key:Int):List Kn->Option Kn
 | []=>none
 | x::l=>if key<=x.k then(if x.k=key then some x else none) else At key l
theorem yz {key:Int}:∀{l:List Kn} {x:Kn},At key l=some x->x∈l /\ x.k=key
 | y::l,x,hx=>by
   unfold At at hx
   split at hx
   ·split at hx
    ·cases hx;exact⟨List.mem_cons_self,by assumption⟩
    ·cases hx
   ·exact⟨List.mem_cons_of_mem _ (yz hx).1,(yz hx).2⟩
theorem jm {h:AH} {key:Int}:∀{l:List Kn} {a:Ad} {w:WalkM},gb h (h.rd a) l->gr h key a l w->match At key l with
  | none=>w.found=false
  | some x=>w.found=true /\ w.cur.slot=x.s /\ w.cur.gen=x.g /\ w.next=h.cl x.s 2 /\ 1<=x.s /\ h.lv x.s x.g /\ (h.cl x.s 1).num=x.v
 | [],a,w,hl,hw=>hw.2.2
 | x::l,a,w,⟨q1,q2,m,c,d,e0,e1,f⟩,hw=>by
   unfold gr at hw
   unfold At
   by_cases hk:key<=x.k
   ·rw [if_pos hk] at hw ⊢
    obtain⟨w1,w2,w3,w4⟩:=hw
    by_cases he:x.k=key
    ·rw [if_pos he]
     exact⟨by rw [w4,he];simp,by rw [w2];exact q1,by rw [w2];exact q2,w3,c,d,e1⟩
    ·rw [if_neg he]
     show w.found=false
     rw [w4];simpa using he
   ·rw [if_neg hk] at hw ⊢
    exact jm (a:=x.adr) (by rw [show h.rd x.adr=h.cl x.s 2 from by unfold rd;rw [if_neg (by show ¬x.s=0;omega)];rfl];exact f) hw
end
section
open Go Go.Sx Go.Proofs AH
set_option maxRecDepth 100000
theorem fM {h h':AH}:∀{l:List Kn} {w:W},gb h w l->(∀x∈l,h.lv x.s x.g->h'.lv x.s x.g /\ h'.cl x.s 0=h.cl x.s 0 /\ h'.cl x.s 1=h.cl x.s 1 /\ h'.cl x.s 2=h.cl x.s 2)->gb h' w l
 | [],_,hp,_=>hp
 | x::l,w,⟨a,b,m,c,d,e0,e1,f⟩,hf=>by
   obtain⟨f1,f0,f2,f3⟩:=hf x List.mem_cons_self d
   exact⟨a,b,m,c,f1,by rw [f0];exact e0,by rw [f2];exact e1,by rw [f3];exact fM f fun y hy=>hf y (List.mem_cons_of_mem _ hy)⟩
theorem xE {h:AH} {l:List Kn} {w w':W} (hl:gb h w l) (e1:w'.slot=w.slot) (e2:w'.gen=w.gen) (e3:w'.mark=false):gb h w' l:=by
 cases l with
 | nil=>exact⟨e1.trans hl.1,e3⟩
 | cons x l=>exact⟨e1.trans hl.1,e2.trans hl.2.1,e3,hl.2.2.2⟩
def jO (n:Kn):List Kn->List Kn
 | []=>[n]
 | x::l=>if n.k<=x.k then n::x::l else x::jO n l
def nF (key:Int):List Kn->List Kn
 | []=>[]
 | x::l=>if key<=x.k then l else x::nF key l
theorem Bc {h:AH} {x:Kn} (h1:1<=x.s):h.rd x.adr=h.cl x.s 2:=by unfold rd;rw [if_neg (by show ¬x.s=0;omega)];rfl
theorem EX {h h':AH} {n:Kn} {w:WalkM} (n1:1<=n.s) (nl:h'.lv n.s n.g) (n0:(h'.cl n.s 0).num=n.k) (nv:(h'.cl n.s 1).num=n.v) (n2:h'.cl n.s 2=bP w.cur)
 (to:(h'.rd w.prev).slot=n.s /\ (h'.rd w.prev).gen=n.g /\ (h'.rd w.prev).mark=false) (hc:∀b:Ad,¬(b.s=w.prev.s /\ b.f=w.prev.f)->b.s≠n.s->h'.rd b=h.rd b) (hlv:∀s g,s≠n.s->h.lv s g->h'.lv s g) :
 ∀{l:List Kn} {a:Ad},a.f=2 \/ a.s=0->gb h (h.rd a) l->gr h n.k a l w->a.s ∉ l.map Kn.s->a.s≠n.s->n.s ∉ l.map Kn.s->(l.map Kn.s).Nodup->gb h' (h'.rd a) (jO n l)
 | [],a,hf,hl,hw,ha,han,hn,hd=>by
   obtain⟨w1,w2,w3⟩:=hw
   rw [w1] at to
   refine⟨to.1,to.2.1,to.2.2,n1,nl,n0,nv,?_⟩
   rw [n2,w2]
   exact⟨hl.1,rfl⟩
 | x::l,a,hf,hl,hw,ha,han,hn,hd=>by
   unfold gr at hw
   unfold jO
   rw [List.map_cons,List.mem_cons,not_or] at ha hn
   rw [List.map_cons,List.nodup_cons] at hd
   have cell:∀{y:Kn} {f:Int},1<=y.s->y.s≠n.s->¬(y.s=w.prev.s /\ f=w.prev.f)->h'.cl y.s f=h.cl y.s f:=fun {y f} hy1 hyn hne=>by
    have:=hc ⟨y.s,y.g,f⟩ hne hyn
    unfold rd at this
    rwa [if_neg (by show ¬y.s=0;omega),if_neg (by show ¬y.s=0;omega)] at this
   by_cases hk:n.k<=x.k
   ·rw [if_pos hk] at hw ⊢
    obtain⟨w1,w2,w3,w4⟩:=hw
    rw [w1] at to
    refine⟨to.1,to.2.1,to.2.2,n1,nl,n0,nv,?_⟩
    rw [n2,w2]
    refine fM (xE hl rfl rfl rfl) fun y hy hyl=>?_
    have hyn:y.s≠n.s:=fun e=>(not_or.2 hn) (List.mem_cons.1 (e▸List.mem_map_of_mem (f:=Kn.s) hy))
    have hya:y.s≠a.s:=fun e=>(not_or.2 ha) (List.mem_cons.1 (e▸List.mem_map_of_mem (f:=Kn.s) hy))
    have hy1:=(de hl y hy).1
    rw [w1] at cell
    exact⟨hlv _ _ hyn hyl,cell hy1 hyn fun e=>hya e.1,cell hy1 hyn fun e=>hya e.1,cell hy1 hyn fun e=>hya e.1⟩
   ·rw [if_neg hk] at hw ⊢
    have hp:w.prev.f=2 /\ w.prev.s≠a.s:=by
     rcases gD hw with e | ⟨y,hy,e⟩
     ·rw [e];exact⟨rfl,fun e=>ha.1 e.symm⟩
     ·rw [e];exact⟨rfl,fun e=>ha.2 (List.mem_map.2 ⟨y,hy,e⟩)⟩
    obtain⟨q1,q2,m,c,d,e0,e1,f⟩:=hl
    rw [hc a (fun e=>hp.2 e.1.symm) han]
    have hxn:x.s≠n.s:=fun e=>hn.1 e.symm
    refine⟨q1,q2,m,c,hlv _ _ hxn d,?_,?_,?_⟩
    ·rw [cell c hxn fun e=>by have:=e.2;omega];exact e0
    ·rw [cell c hxn fun e=>by have:=e.2;omega];exact e1
    ·rw [<- Bc c] at f ⊢
     exact EX n1 nl n0 nv n2 to hc hlv (.inl rfl) f hw hd.1 hxn hn.2 hd.2
theorem KT {h h':AH} {key:Int} {w:WalkM} {x0:Kn}
 (to:(h'.rd w.prev).slot=w.next.slot /\ (h'.rd w.prev).gen=w.next.gen /\ (h'.rd w.prev).mark=false) (hc:∀b:Ad,¬(b.s=w.prev.s /\ b.f=w.prev.f)->b.s≠x0.s->h'.rd b=h.rd b) (hlv:∀s g,s≠x0.s->h.lv s g->h'.lv s g) :
 ∀{l:List Kn} {a:Ad},a.f=2 \/ a.s=0->gb h (h.rd a) l->gr h key a l w->At key l=some x0->a.s ∉ l.map Kn.s->(l.map Kn.s).Nodup->gb h' (h'.rd a) (nF key l)
 | [],a,hf,hl,hw,hx,ha,hd=>by cases hx
 | x::l,a,hf,hl,hw,hx,ha,hd=>by
   unfold gr at hw
   unfold nF
   unfold At at hx
   rw [List.map_cons,List.mem_cons,not_or] at ha
   rw [List.map_cons,List.nodup_cons] at hd
   have cell:∀{y:Kn} {f:Int},1<=y.s->y.s≠x0.s->¬(y.s=w.prev.s /\ f=w.prev.f)->h'.cl y.s f=h.cl y.s f:=fun {y f} hy1 hyn hne=>by
    have:=hc ⟨y.s,y.g,f⟩ hne hyn
    unfold rd at this
    rwa [if_neg (by show ¬y.s=0;omega),if_neg (by show ¬y.s=0;omega)] at this
   obtain⟨q1,q2,m,c,d,e0,e1,f⟩:=hl
   by_cases hk:key<=x.k
   ·rw [if_pos hk] at hw hx ⊢
    obtain⟨w1,w2,w3,w4⟩:=hw
    split at hx
    ·cases hx
     rw [w1,w3] at to
     refine fM (xE f to.1 to.2.1 to.2.2) fun y hy hyl=>?_
     have hyn:y.s≠x0.s:=fun e=>hd.1 (e▸List.mem_map_of_mem (f:=Kn.s) hy)
     have hya:y.s≠a.s:=fun e=>ha.2 (e▸List.mem_map_of_mem (f:=Kn.s) hy)
     have hy1:=(de f y hy).1
     rw [w1] at cell
     exact⟨hlv _ _ hyn hyl,cell hy1 hyn fun e=>hya e.1,cell hy1 hyn fun e=>hya e.1,cell hy1 hyn fun e=>hya e.1⟩
    ·cases hx
   ·rw [if_neg hk] at hw hx ⊢
    have hp:w.prev.f=2 /\ w.prev.s≠a.s:=by
     rcases gD hw with e | ⟨y,hy,e⟩
     ·rw [e];exact⟨rfl,fun e=>ha.1 e.symm⟩
     ·rw [e];exact⟨rfl,fun e=>ha.2 (List.mem_map.2 ⟨y,hy,e⟩)⟩
    have hx0:=List.mem_map_of_mem (f:=Kn.s) (yz hx).1
    have hxn:x.s≠x0.s:=fun e=>hd.1 (e▸hx0)
    rw [hc a (fun e=>hp.2 e.1.symm) (fun e=>ha.2 (e▸hx0))]
    refine⟨q1,q2,m,c,hlv _ _ hxn d,?_,?_,?_⟩
    ·rw [cell c hxn fun e=>by have:=e.2;omega];exact e0
    ·rw [cell c hxn fun e=>by have:=e.2;omega];exact e1
    ·rw [<- Bc c] at f ⊢
     exact KT to hc hlv (.inl rfl) f hw hx hd.1 hd.2
theorem dU {n y:Kn}:∀{l:List Kn},y∈jO n l↔y=n \/ y∈l
 | []=>by simp [jO]
 | x::l=>by
   unfold jO
   split
   ·simp
   ·rw [List.mem_cons,dU,List.mem_cons];exact⟨fun h=>by rcases h with h | h | h<;>simp [h],fun h=>by rcases h with h | h | h<;>simp [h]⟩
theorem remK_sub {key:Int}:∀{l:List Kn},(nF key l).Sublist l
 | []=>.slnil
 | x::l=>by
   unfold nF
   split
   ·exact List.sublist_cons_self _ _
   ·exact remK_sub.cons_cons _
theorem qx {n:Kn}:∀{l:List Kn},(l.map Kn.s).Nodup->n.s ∉ l.map Kn.s->((jO n l).map Kn.s).Nodup
 | [],_,_=>by simp [jO]
 | x::l,hd,hn=>by
   unfold jO
   split
   ·rw [List.map_cons,List.nodup_cons];exact⟨hn,hd⟩
   ·rw [List.map_cons,List.nodup_cons] at hd ⊢
    rw [List.map_cons,List.mem_cons,not_or] at hn
    refine⟨fun hm=>?_,qx hd.2 hn.2⟩
    obtain⟨y,hy,e⟩:=List.mem_map.1 hm
    rcases dU.1 hy with rfl | hy
    ·exact hn.1 e
    ·exact hd.1 (List.mem_map.2 ⟨y,hy,e⟩)
end
end Go.Proofs.YtadmfaohjnjajaaGreatDoor
