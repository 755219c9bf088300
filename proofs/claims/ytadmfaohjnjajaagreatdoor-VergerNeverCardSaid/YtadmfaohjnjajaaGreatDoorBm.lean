import Derived.Test.YtadmfaohjnjajaaGreatDoorBg
set_option linter.unusedVariables false
set_option linter.unusedSimpArgs false
set_option maxHeartbeats 4000000
namespace Go.Proofs.YtadmfaohjnjajaaGreatDoor
section
open Go Go.Sx Go.Proofs AH
set_option maxRecDepth 100000
structure Sn where
 s:Int
 g:Int
 k:Int
 v:Int
 t:Int
def Sn.adr (x:Sn) (f:Int):Ad:=⟨x.s,x.g,f⟩
def lj (h:AH) (f:Int):W->List Sn->Prop
 | w,[]=>w.slot=0 /\ w.mark=false
 | w,x::l=>w.slot=x.s /\ w.gen=x.g /\ w.mark=false /\ 1<=x.s /\ h.lv x.s x.g /\ (h.cl x.s 0).num=x.k /\ lj h f (h.cl x.s f) l
def cH (h:AH) (f bound:Int):Ad->List Sn->Ad->W->Int->Prop
 | a,[],p,c,k=>p=a /\ c=h.rd a
 | a,x::l,p,c,k=>if bound<=x.k then p=a /\ c=h.rd a /\ k=x.k else cH h f bound (x.adr f) l p c k
def ct (Q:ClimbM->AH->Prop):Nat->AH->(Cl×Bool)×ClimbM->Prop
 | 0,_,_=>False
 | k+1,h,r=>(r.1.2=false /\ Q r.2 h) \/ (r.1.2=true /\ h.Wp r.1.1 fun x h'=>ct Q k h' (ao r.2 x))
theorem cG {Q:ClimbM->AH->Prop} {h:AH} {k:Nat} {r:(Cl×Bool)×ClimbM} (e:r.1.2=true) (hw:h.Wp r.1.1 fun x h'=>ct Q k h' (ao r.2 x)):ct Q (k+1) h r:=.inr ⟨e,hw⟩
theorem qJ {Q:ClimbM->AH->Prop} {h:AH} {k:Nat} {r:(Cl×Bool)×ClimbM} (e:r.1.2=false) (q:Q r.2 h):ct Q (k+1) h r:=.inl ⟨e,q⟩
theorem bD {Q Q':ClimbM->AH->Prop} (hq:∀w h,Q w h->Q' w h):∀{k k':Nat} {h:AH} {r:(Cl×Bool)×ClimbM},k<=k'->ct Q k h r->ct Q' k' h r
 | 0,_,_,_,_,hh=>hh.elim
 | k+1,0,_,_,hle,_=>by omega
 | k+1,k'+1,h,r,hle,hh=>by
   rcases hh with⟨e,q⟩ | ⟨e,hw⟩
   ·exact .inl ⟨e,hq _ _ q⟩
   ·exact .inr ⟨e,AH.wp_mono (fun x h' hx=>bD hq (by omega) hx) hw⟩
theorem mC {α:Type} {na:α->Rp1->Cl×α} {Q:An->AH->Prop} {Qw:ClimbM->AH->Prop} {J:ClimbM->α} {co:ClimbM->Cl×α} {K:Nat} (hJ:∀w x,na (J w) x=cond (ao w x).1.2 ((ao w x).1.1,J (ao w x).2) (co (ao w x).2)) (hc:∀w h,Qw w h->aT na Q K h (co w)) :
 ∀{k:Nat} {h:AH} {w:ClimbM} {x:Rp1},ct Qw k h (ao w x)->aT na Q (k+K) h (na (J w) x)
 | 0,_,_,_,hw=>hw.elim
 | k+1,h,w,x,hw=>by
   rw [hJ]
   rcases hw with⟨e,q⟩ | ⟨e,hw⟩
   ·rw [e];exact aP (fun _ _ h=>h) (by omega) (hc _ _ q)
   ·rw [e,show k+1+K=(k+K)+1 by omega]
    exact aA (AH.wp_mono (fun x h' hx=>mC hJ hc hx) hw)
def iq (c:ClimbM):(Cl×Bool)×ClimbM :=
 if c.level=0 then cond (eB (!(c.cur.slot==0)) (c.k==c.bound)) ((aD,false),{c with spots:=S3.put c.spots c.level c.prev c.cur,pc:=-1,found:=bP c.cur}) ((aD,false),{c with spots:=S3.put c.spots c.level c.prev c.cur,pc:=-1})
 else cond (c.prev.s==0) ((aS (aC (c.level - 1)) (3 * (c.level - 1)+1),true),{c with spots:=S3.put c.spots c.level c.prev c.cur,level:=c.level - 1,prev:=aC (c.level - 1),pc:=2})
  ((jQ (3 * (c.level - 1)+2) (3 * (c.level - 1)+5),true),{c with spots:=S3.put c.spots c.level c.prev c.cur,level:=c.level - 1,prev:={c.prev with f:=2+(c.level - 1)},pc:=9})
def onC (c:ClimbM):(Cl×Bool)×ClimbM:=cond (c.cur.slot==0) (iq c) ((jQ (3 * c.level+1) (3 * c.level),true),{c with pc:=8})
section
variable {la:Cl} {pv:Ad} {cu nx:W} {bd lv k:Int} {sp:S3} {fd:W}
theorem Xx {w:W} (hm:w.mark=false):ao ⟨2,la,pv,cu,bd,lv,nx,k,sp,fd⟩ ⟨w,true⟩=cond (w.slot==0) (iq ⟨2,la,pv,w,bd,lv,nx,k,sp,fd⟩) ((aS (af w (2+lv)) (3 * lv),true),⟨3,la,pv,w,bd,lv,nx,k,sp,fd⟩):=by
 unfold ao iz;dsimp only;rw [hm];rfl
theorem Xw (x:Rp1):ao ⟨3,la,pv,cu,bd,lv,nx,k,sp,fd⟩ x=((aM (af cu 0),true),⟨4,la,pv,cu,bd,lv,x.w,k,sp,fd⟩):=rfl
theorem Xv (x:Rp1):ao ⟨4,la,pv,cu,bd,lv,nx,k,sp,fd⟩ x=((aM pv,true),⟨5,la,pv,cu,bd,lv,nx,x.w.num,sp,fd⟩):=rfl
theorem Xu (hm:nx.mark=false):ao ⟨5,la,pv,cu,bd,lv,nx,k,sp,fd⟩ ⟨cu,true⟩=cond (decide (k>=bd)) (iq ⟨5,la,pv,cu,bd,lv,nx,k,sp,fd⟩) ((jQ (3 * lv+2) (3 * lv+1),true),⟨7,la,af cu (2+lv),cu,bd,lv,nx,k,sp,fd⟩):=by
 unfold ao iz;dsimp only;rw [iN,hm];rfl
theorem Xt (hm:nx.mark=true):ao ⟨5,la,pv,cu,bd,lv,nx,k,sp,fd⟩ ⟨cu,true⟩=((bf pv cu (wTo cu nx),true),⟨6,la,pv,cu,bd,lv,nx,k,sp,fd⟩):=by
 unfold ao iz;dsimp only;rw [iN,hm];rfl
theorem Yi (w:W):ao ⟨6,la,pv,cu,bd,lv,nx,k,sp,fd⟩ ⟨w,true⟩=onC ⟨6,la,pv,wTo cu nx,bd,lv,nx,k,sp,fd⟩:=rfl
theorem Xs (x:Rp1):ao ⟨7,la,pv,cu,bd,lv,nx,k,sp,fd⟩ x=onC ⟨7,la,pv,nx,bd,lv,nx,k,sp,fd⟩:=rfl
theorem Ua (x:Rp1):ao ⟨8,la,pv,cu,bd,lv,nx,k,sp,fd⟩ x=((aS (af cu (2+lv)) (3 * lv),true),⟨3,la,pv,cu,bd,lv,nx,k,sp,fd⟩):=rfl
end
theorem oW {h:AH} {f:Int} {l:List Sn} {w w':W} (hl:lj h f w l) (e1:w'.slot=w.slot) (e2:w'.gen=w.gen) (e3:w'.mark=false):lj h f w' l:=by
 cases l with
 | nil=>exact⟨e1.trans hl.1,e3⟩
 | cons x l=>exact⟨e1.trans hl.1,e2.trans hl.2.1,e3,hl.2.2.2⟩
theorem sS {h:AH} {f:Int} {l:List Sn} {w:W} (hl:lj h f w l):w.mark=false:=by
 cases l with
 | nil=>exact hl.2
 | cons x l=>exact hl.2.2.1
section
variable {Q:ClimbM->AH->Prop} {K:Nat} {h:AH} {la:Cl} {bd lv:Int} {sp:S3} {fd:W}
theorem EU (l0:0<=lv) (l2:lv<=2):∀{l:List Sn} {x:Sn} {pv:Ad} {cu nx:W} {k:Int},lj h (2+lv) cu (x::l)->h.valid pv->h.rd pv=cu ->
 (∀pc p c nx k,cH h (2+lv) bd pv (x::l) p c k->ct Q K h (iq ⟨pc,la,p,c,bd,lv,nx,k,sp,fd⟩)) ->
 ct Q (6 * (l.length+1)+K) h ((aS (af cu (2+lv)) (3 * lv),true),⟨3,la,pv,cu,bd,lv,nx,k,sp,fd⟩)
 | l,x,pv,cu,nx,k,⟨a,b,m,c,d,e0,f⟩,hv,hr,hK=>by
   have cu1:1<=cu.slot:=by omega
   have cul:h.lv cu.slot cu.gen:=by rw [a,b];exact d
   rw [show 6 * (l.length+1)+K=(6 * l.length+2+K)+1+1+1+1 by omega]
   have n2:h.rd (af cu (2+lv))=h.cl x.s (2+lv):=by rw [bQ cu1,a]
   have n0:(h.rd (af cu 0)).num=x.k:=by rw [bQ cu1,a];exact e0
   refine cG rfl (dy (aE cu1 cul (by omega) (by omega)) ?_)
   rw [n2]
   generalize en:h.cl x.s (2+lv)=w2 at *
   have m2:=sS f
   show ct Q _ h (ao ⟨3,la,pv,cu,bd,lv,nx,k,sp,fd⟩ ⟨w2,true⟩)
   rw [Xw]
   refine cG rfl (bI (aE cu1 cul (by decide) (by decide)) ?_)
   show ct Q _ h (ao ⟨4,la,pv,cu,bd,lv,w2,k,sp,fd⟩ ⟨h.rd (af cu 0),true⟩)
   rw [Xv]
   refine cG rfl (bI hv ?_)
   show ct Q _ h (ao ⟨5,la,pv,cu,bd,lv,w2,(h.rd (af cu 0)).num,sp,fd⟩ ⟨h.rd pv,true⟩)
   rw [hr,n0,Xu m2]
   by_cases hk:x.k>=bd
   ·rw [decide_eq_true hk]
    refine bD (fun _ _ h=>h) (by omega:K<=_) (hK _ _ _ _ _ ?_)
    unfold cH
    rw [if_pos hk]
    exact⟨rfl,hr.symm,rfl⟩
   ·rw [decide_eq_false hk]
    have ea:af cu (2+lv)=x.adr (2+lv):=by unfold af Sn.adr;rw [a,b]
    have hstep:∀p c k,cH h (2+lv) bd (x.adr (2+lv)) l p c k->cH h (2+lv) bd pv (x::l) p c k:=fun p c k hw=>by
     unfold cH;rw [if_neg hk];exact hw
    refine cG rfl (g8 ?_)
    show ct Q (6 * l.length+2+K) h (ao ⟨7,la,af cu (2+lv),cu,bd,lv,w2,x.k,sp,fd⟩ ⟨wNil,true⟩)
    rw [Xs,ea]
    unfold onC
    dsimp only
    cases l with
    | nil =>
      rw [fK f.1]
      exact bD (fun _ _ h=>h) (by omega:K<=_) (hK _ _ _ _ _ (hstep _ _ _ ⟨rfl,by rw [<- ea];exact n2.symm⟩))
    | cons y l =>
      rw [dz (by have:=f.1;have:=f.2.2.2.1;omega)]
      refine bD (fun _ _ h=>h) (by rw [List.length_cons];omega:(6 * (l.length+1)+K)+1<=_) (cG rfl (g8 ?_))
      show ct Q _ h (ao ⟨8,la,x.adr (2+lv),w2,bd,lv,w2,x.k,sp,fd⟩ ⟨wNil,true⟩)
      rw [Ua]
      exact EU l0 l2 f (.inr ⟨c,d,by show 0<=2+lv;omega,by show 2+lv < 8;omega⟩) (by rw [<- ea];exact n2) fun pc p c nx k hp=>hK _ _ _ _ _ (hstep _ _ _ hp)
theorem vz (l0:0<=lv) (l2:lv<=2) {l:List Sn} {pv:Ad} {cu nx:W} {k i:Int} (hv:h.valid pv) (hl:lj h (2+lv) (h.rd pv) l)
 (hK:∀pc p c nx k,cH h (2+lv) bd pv l p c k->ct Q K h (iq ⟨pc,la,p,c,bd,lv,nx,k,sp,fd⟩)):ct Q (6 * l.length+1+K) h ((aS pv i,true),⟨2,la,pv,cu,bd,lv,nx,k,sp,fd⟩):=by
 rw [show 6 * l.length+1+K=(6 * l.length+K)+1 by omega]
 refine cG rfl (dy hv ?_)
 show ct Q _ h (ao ⟨2,la,pv,cu,bd,lv,nx,k,sp,fd⟩ ⟨h.rd pv,true⟩)
 rw [Xx (sS hl)]
 cases l with
 | nil =>
   rw [fK hl.1]
   exact bD (fun _ _ h=>h) (by omega:K<=_) (hK _ _ _ _ _ ⟨rfl,rfl⟩)
 | cons y l =>
   rw [dz (by have:=hl.1;have:=hl.2.2.2.1;omega)]
   exact EU l0 l2 hl hv rfl hK
end
end
section
open Go Go.Sx Go.Proofs AH
set_option maxRecDepth 100000
def lvl (m:Int) (L:List Sn):List Sn:=L.filter fun x=>decide (m < x.t)
def Sst (l:List Sn):Prop:=l.Pairwise fun a b=>a.k < b.k
theorem Bv {m:Int} {L:List Sn} (h:Sst L):Sst (lvl m L):=List.Pairwise.sublist List.filter_sublist h
theorem cq {m:Int} {L:List Sn} {x:Sn}:x∈lvl m L↔x∈L /\ m < x.t:=by unfold lvl;rw [List.mem_filter,decide_eq_true_eq]
theorem vv {m:Int} {L:List Sn}:(lvl m L).length<=L.length:=List.length_filter_le _ _
structure SInv (h:AH) (L:List Sn):Prop where
 at_:∀m,0<=m->m<=2->lj h (2+m) (h.bd m) (lvl m L)
 nd:(L.map Sn.s).Nodup
 sr:Sst L
 da:∀x∈L,(h.cl x.s 1).num=x.v /\ (h.cl x.s 6).num=x.t /\ (h.cl x.s 7).num≠0 /\ 1<=x.t /\ x.t<=3
 rg:∀x∈L,0<=x.k /\ x.k < 256
theorem LU {h:AH} {L:List Sn} (hi:SInv h L):lvl 0 L=L:=List.filter_eq_self.2 fun x hx=>decide_eq_true (by have:=hi.da x hx;omega)
theorem nP {h:AH} {f:Int} {y:Sn} {B:List Sn}:∀{A:List Sn} {w:W},lj h f w (A++y::B)->lj h f (h.cl y.s f) B /\ 1<=y.s /\ h.lv y.s y.g
 | [],w,⟨a,b,m,c,d,e0,fo⟩=>⟨fo,c,d⟩
 | x::A,w,⟨a,b,m,c,d,e0,fo⟩=>nP fo
theorem rf {h:AH} {f:Int} {l:List Sn} {w:W} (hl:lj h f w l) {x:Sn} (hx:x∈l):1<=x.s /\ h.lv x.s x.g:=by
 obtain⟨A,B,rfl⟩:=List.append_of_mem hx
 exact(nP hl).2
theorem ug {h:AH} {f bd:Int} {y:Sn} {B:List Sn} {p:Ad} {c:W} {k:Int} (hy:y.k < bd) (hw:cH h f bd (y.adr f) B p c k):∀{A:List Sn} {a:Ad},Sst (A++y::B)->cH h f bd a (A++y::B) p c k
 | [],a,_=>by show cH h f bd a (y::B) p c k;unfold cH;rw [if_neg (by omega)];exact hw
 | x::A,a,hs=>by
   rw [List.cons_append] at hs ⊢
   unfold Sst at hs
   rw [List.pairwise_cons] at hs
   have:=hs.1 y (by simp)
   unfold cH
   rw [if_neg (by omega)]
   exact ug hy hw hs.2
theorem dD {h:AH} {f bd:Int} {p:Ad} {c:W} {k:Int}:∀{l:List Sn} {a:Ad},cH h f bd a l p c k->(p=a \/ ∃x∈l,x.k < bd /\ p=x.adr f) /\ c=h.rd p
 | [],a,hw=>⟨.inl hw.1,by rw [hw.1];exact hw.2⟩
 | x::l,a,hw=>by
   unfold cH at hw
   by_cases hk:bd<=x.k
   ·rw [if_pos hk] at hw;exact⟨.inl hw.1,by rw [hw.1];exact hw.2.1⟩
   ·rw [if_neg hk] at hw
    obtain⟨h1,h2⟩:=dD hw
    refine⟨?_,h2⟩
    rcases h1 with h1 | ⟨y,hy,h1⟩
    ·exact .inr ⟨x,List.mem_cons_self,by omega,h1⟩
    ·exact .inr ⟨y,List.mem_cons_of_mem _ hy,h1⟩
def SAt (key:Int):List Sn->Option Sn
 | []=>none
 | x::l=>if key<=x.k then(if x.k=key then some x else none) else SAt key l
theorem uP {h:AH} {f bd:Int} {p:Ad} {c:W} {k:Int}:∀{l:List Sn} {a:Ad},lj h f (h.rd a) l->f=2->cH h f bd a l p c k->match SAt bd l with
  | none=>eB (!(c.slot==0)) (k==bd)=false
  | some x=>eB (!(c.slot==0)) (k==bd)=true /\ c.slot=x.s /\ c.gen=x.g
 | [],a,hl,hf,hw=>by
   show eB (!(c.slot==0)) (k==bd)=false
   rw [hw.2,fK hl.1];rfl
 | x::l,a,⟨q1,q2,m,cc,d,e0,fo⟩,hf,hw=>by
   unfold cH at hw
   unfold SAt
   by_cases hk:bd<=x.k
   ·rw [if_pos hk] at hw ⊢
    obtain⟨w1,w2,w3⟩:=hw
    have hc:c.slot=x.s:=by rw [w2];exact q1
    rw [dz (by omega:1<=c.slot),w3]
    by_cases he:x.k=bd
    ·rw [if_pos he]
     exact⟨by rw [he];show (bd==bd)=true;simp,hc,by rw [w2];exact q2⟩
    ·rw [if_neg he]
     show (x.k==bd)=false
     simpa using he
   ·rw [if_neg hk] at hw ⊢
    exact uP (a:=x.adr f) (by unfold rd;rw [if_neg (by show ¬x.s=0;omega)];exact fo) hf hw
def kV (h:AH) (bd:Int) (L:List Sn) (m:Int) (p:Ad) (c:W):Prop:=∃k,cH h (2+m) bd (aC m) (lvl m L) p c k
structure ClPost (h:AH) (bd:Int) (L:List Sn) (c:ClimbM):Prop where
 s0:kV h bd L 0 c.spots.p0 c.spots.c0
 s1:kV h bd L 1 c.spots.p1 c.spots.c1
 s2:kV h bd L 2 c.spots.p2 c.spots.c2
 fo:match SAt bd L with
  | none=>c.found=wNil
  | some x=>c.found=⟨x.s,x.g,0,0,false⟩
def Start (bd:Int) (L:List Sn) (m:Int) (pv:Ad) (l:List Sn):Prop:=(pv=aC m /\ l=lvl m L) \/ ∃x A,lvl m L=A++x::l /\ pv=x.adr (2+m) /\ x.k < bd
section
variable {h:AH} {L:List Sn} {bd m:Int} {pv:Ad} {l:List Sn}
theorem wA (hi:SInv h L) (m0:0<=m) (m2:m<=2) (hs:Start bd L m pv l):h.valid pv /\ lj h (2+m) (h.rd pv) l /\ l.length<=L.length /\ ∀p c k,cH h (2+m) bd pv l p c k->cH h (2+m) bd (aC m) (lvl m L) p c k:=by
 rcases hs with⟨rfl,rfl⟩ | ⟨x,A,e,rfl,hk⟩
 ·exact⟨aY m0 (by omega),hi.at_ m m0 m2,vv,fun _ _ _ h=>h⟩
 ·have h1:=hi.at_ m m0 m2
  rw [e] at h1
  obtain⟨s1,s2,s3⟩:=nP h1
  refine⟨.inr ⟨s2,s3,by show 0<=2+m;omega,by show 2+m < 8;omega⟩,?_,?_,fun p c k hp=>?_⟩
  ·unfold rd;rw [if_neg (by show ¬x.s=0;omega)];exact s1
  ·have:=vv (m:=m) (L:=L);rw [e,List.length_append,List.length_cons] at this;omega
  ·rw [e];exact ug hk hp (e▸Bv hi.sr)
theorem wB (hi:SInv h L) (m0:0<=m) (m2:m < 2) {p:Ad} {c:W} {k:Int} (hp:cH h (2+(m+1)) bd (aC (m+1)) (lvl (m+1) L) p c k):(p.s=0 /\ Start bd L m (aC m) (lvl m L)) \/ (1<=p.s /\ ∃l,Start bd L m {p with f:=2+m} l):=by
 rcases (dD hp).1 with rfl | ⟨x,hx,hk,rfl⟩
 ·exact .inl ⟨rfl,.inl ⟨rfl,rfl⟩⟩
 ·have hxs:=rf (hi.at_ (m+1) (by omega) (by omega)) hx
  obtain⟨x1,x2⟩:=cq.1 hx
  obtain⟨A,B,e⟩:=List.append_of_mem (cq.2 ⟨x1,(by omega:m < x.t)⟩)
  exact .inr ⟨hxs.1,B,.inr ⟨x,A,e,rfl,hk⟩⟩
variable {la:Cl} {cu nx:W} {k i:Int} {sp:S3}
theorem Ha (hi:SInv h L) (hs:Start bd L 0 pv l) (h1:kV h bd L 1 sp.p1 sp.c1) (h2:kV h bd L 2 sp.p2 sp.c2):ct (fun c h'=>h'=h /\ ClPost h bd L c) (6 * L.length+2) h ((aS pv i,true),⟨2,la,pv,cu,bd,0,nx,k,sp,wNil⟩):=by
 obtain⟨v,sk,len,up⟩:=wA hi (by decide) (by decide) hs
 refine bD (fun _ _ h=>h) (by omega:6 * l.length+1+1<=_) (vz (lv:=0) (by decide) (by decide) v sk fun pc p c nx k hp=>?_)
 have hp:=up _ _ _ hp
 have hfd:=uP (a:=aC 0) (hi.at_ 0 (by decide) (by decide)) rfl hp
 rw [LU hi] at hfd
 unfold iq
 dsimp only
 rw [if_pos rfl]
 cases hat:SAt bd L with
 | none =>
   rw [hat] at hfd
   have hfd:eB (!(c.slot==0)) (k==bd)=false:=hfd
   rw [hfd]
   exact qJ rfl ⟨rfl,⟨k,hp⟩,h1,h2,by rw [hat];rfl⟩
 | some x =>
   rw [hat] at hfd
   obtain⟨f1,f2,f3⟩:=hfd
   rw [f1]
   exact qJ rfl ⟨rfl,⟨k,hp⟩,h1,h2,by rw [hat];show bP c=_;unfold bP;rw [f2,f3]⟩
theorem G9 (hi:SInv h L) (hs:Start bd L 1 pv l) (h2:kV h bd L 2 sp.p2 sp.c2):ct (fun c h'=>h'=h /\ ClPost h bd L c) (12 * L.length+6) h ((aS pv i,true),⟨2,la,pv,cu,bd,1,nx,k,sp,wNil⟩):=by
 obtain⟨v,sk,len,up⟩:=wA hi (by decide) (by decide) hs
 refine bD (fun _ _ h=>h) (by omega:6 * l.length+1+(6 * L.length+2+1)<=_) (vz (lv:=1) (by decide) (by decide) v sk fun pc p c nx k hp=>?_)
 have hp:=up _ _ _ hp
 have hn:=wB (m:=0) hi (by decide) (by decide) hp
 unfold iq
 dsimp only
 rw [if_neg (by decide)]
 rcases hn with⟨e,hn⟩ | ⟨e,l',hn⟩
 ·rw [e]
  exact bD (fun _ _ h=>h) (by omega:6 * L.length+2<=_) (Ha (sp:=S3.put sp 1 p c) hi hn ⟨k,hp⟩ h2)
 ·rw [show (p.s==0)=false by cases hb:p.s==0 with | false=>rfl | true=>have:=eqI hb;omega]
  refine cG rfl (g8 ?_)
  exact Ha (sp:=S3.put sp 1 p c) hi hn ⟨k,hp⟩ h2
theorem Qe (hi:SInv h L) (hs:Start bd L 2 pv l):ct (fun c h'=>h'=h /\ ClPost h bd L c) (18 * L.length+10) h ((aS pv i,true),⟨2,la,pv,cu,bd,2,nx,k,sp,wNil⟩):=by
 obtain⟨v,sk,len,up⟩:=wA hi (by decide) (by decide) hs
 refine bD (fun _ _ h=>h) (by omega:6 * l.length+1+(12 * L.length+6+1)<=_) (vz (lv:=2) (by decide) (by decide) v sk fun pc p c nx k hp=>?_)
 have hp:=up _ _ _ hp
 have hn:=wB (m:=1) hi (by decide) (by decide) hp
 unfold iq
 dsimp only
 rw [if_neg (by decide)]
 rcases hn with⟨e,hn⟩ | ⟨e,l',hn⟩
 ·rw [e]
  exact bD (fun _ _ h=>h) (by omega:12 * L.length+6<=_) (G9 (sp:=S3.put sp 2 p c) hi hn ⟨k,hp⟩)
 ·rw [show (p.s==0)=false by cases hb:p.s==0 with | false=>rfl | true=>have:=eqI hb;omega]
  refine cG rfl (g8 ?_)
  exact G9 (sp:=S3.put sp 2 p c) hi hn ⟨k,hp⟩
theorem pA (hi:SInv h L) (x:Rp1):ct (fun c h'=>h'=h /\ ClPost h bd L c) (18 * L.length+10) h (ao (cE bd) x):=Qe hi (.inl ⟨rfl,rfl⟩)
end
end
section
open Go Go.Sx Go.Proofs AH
set_option maxRecDepth 100000
def kZ (n:Sn):List Sn->List Sn
 | []=>[n]
 | x::l=>if n.k<=x.k then n::x::l else x::kZ n l
def mK (key:Int):List Sn->List Sn
 | []=>[]
 | x::l=>if key<=x.k then l else x::mK key l
theorem cX {h h':AH} {f:Int}:∀{l:List Sn} {w:W},lj h f w l->(∀x∈l,1<=x.s->h.lv x.s x.g->h'.lv x.s x.g /\ h'.cl x.s 0=h.cl x.s 0 /\ h'.cl x.s f=h.cl x.s f)->lj h' f w l
 | [],_,hp,_=>hp
 | x::l,w,⟨a,b,m,c,d,e0,fo⟩,hf=>by
   obtain⟨f1,f0,f3⟩:=hf x List.mem_cons_self c d
   exact⟨a,b,m,c,f1,by rw [f0];exact e0,by rw [f3];exact cX fo fun y hy=>hf y (List.mem_cons_of_mem _ hy)⟩
theorem WQ {h h':AH} {n:Sn} {f:Int} {p:Ad} {c:W} {k:Int} (n1:1<=n.s) (nl:h'.lv n.s n.g) (n0:(h'.cl n.s 0).num=n.k) (nf:h'.cl n.s f=bP c)
 (to:(h'.rd p).slot=n.s /\ (h'.rd p).gen=n.g /\ (h'.rd p).mark=false) (hlv:∀s g,s≠n.s->h.lv s g->h'.lv s g) (h0:∀s,1<=s->s≠n.s->h'.cl s 0=h.cl s 0) (hf:∀s,1<=s->s≠n.s->¬(s=p.s /\ f=p.f)->h'.cl s f=h.cl s f) :
 ∀{l:List Sn} {a:Ad},(¬(a.s=p.s /\ a.f=p.f)->h'.rd a=h.rd a)->(a.f=f \/ a.s=0)->lj h f (h.rd a) l->cH h f n.k a l p c k->a.s ∉ l.map Sn.s->n.s ∉ l.map Sn.s->(l.map Sn.s).Nodup->lj h' f (h'.rd a) (kZ n l)
 | [],a,ha,hfa,hl,hw,has,hn,hd=>by
   obtain⟨w1,w2⟩:=hw
   rw [w1] at to
   refine⟨to.1,to.2.1,to.2.2,n1,nl,n0,?_⟩
   rw [nf,w2]
   exact⟨hl.1,rfl⟩
 | x::l,a,ha,hfa,hl,hw,has,hn,hd=>by
   unfold cH at hw
   unfold kZ
   rw [List.map_cons,List.mem_cons,not_or] at has hn
   rw [List.map_cons,List.nodup_cons] at hd
   by_cases hk:n.k<=x.k
   ·rw [if_pos hk] at hw ⊢
    obtain⟨w1,w2,w3⟩:=hw
    rw [w1] at to
    refine⟨to.1,to.2.1,to.2.2,n1,nl,n0,?_⟩
    rw [nf,w2]
    refine cX (oW hl rfl rfl rfl) fun y hy y1 hyl=>?_
    have hyn:y.s≠n.s:=fun e=>(not_or.2 hn) (List.mem_cons.1 (e▸List.mem_map_of_mem (f:=Sn.s) hy))
    have hya:y.s≠a.s:=fun e=>(not_or.2 has) (List.mem_cons.1 (e▸List.mem_map_of_mem (f:=Sn.s) hy))
    exact⟨hlv _ _ hyn hyl,h0 _ y1 hyn,hf _ y1 hyn fun e=>hya (e.1.trans (congrArg Ad.s w1))⟩
   ·rw [if_neg hk] at hw ⊢
    have hp:p.s≠a.s:=by
     rcases (dD hw).1 with e | ⟨y,hy,_,e⟩
     ·rw [e];exact fun e=>has.1 e.symm
     ·rw [e];exact fun e=>has.2 (List.mem_map.2 ⟨y,hy,e⟩)
    obtain⟨q1,q2,m,cc,d,e0,fo⟩:=hl
    rw [ha fun e=>hp e.1.symm]
    have hxn:x.s≠n.s:=fun e=>hn.1 e.symm
    have rx:∀H:AH,H.rd (x.adr f)=H.cl x.s f:=fun H=>by unfold rd;rw [if_neg (by show ¬x.s=0;omega)];rfl
    refine⟨q1,q2,m,cc,hlv _ _ hxn d,by rw [h0 _ cc hxn];exact e0,?_⟩
    rw [<- rx] at fo ⊢
    exact WQ n1 nl n0 nf to hlv h0 hf (fun e=>by rw [rx,rx];exact hf _ cc hxn e) (.inl rfl) fo hw hd.1 hn.2 hd.2
theorem oz {n y:Sn}:∀{l:List Sn},y∈kZ n l↔y=n \/ y∈l
 | []=>by simp [kZ]
 | x::l=>by
   unfold kZ
   split
   ·simp
   ·rw [List.mem_cons,oz,List.mem_cons];exact⟨fun h=>by rcases h with h | h | h<;>simp [h],fun h=>by rcases h with h | h | h<;>simp [h]⟩
theorem remS_sub {key:Int}:∀{l:List Sn},(mK key l).Sublist l
 | []=>.slnil
 | x::l=>by
   unfold mK
   split
   ·exact List.sublist_cons_self _ _
   ·exact remS_sub.cons_cons _
theorem xV {n:Sn}:∀{l:List Sn},(l.map Sn.s).Nodup->n.s ∉ l.map Sn.s->((kZ n l).map Sn.s).Nodup
 | [],_,_=>by simp [kZ]
 | x::l,hd,hn=>by
   unfold kZ
   split
   ·rw [List.map_cons,List.nodup_cons];exact⟨hn,hd⟩
   ·rw [List.map_cons,List.nodup_cons] at hd ⊢
    rw [List.map_cons,List.mem_cons,not_or] at hn
    refine⟨fun hm=>?_,xV hd.2 hn.2⟩
    obtain⟨y,hy,e⟩:=List.mem_map.1 hm
    rcases oz.1 hy with rfl | hy
    ·exact hn.1 e
    ·exact hd.1 (List.mem_map.2 ⟨y,hy,e⟩)
theorem C9 {n:Sn}:∀{l:List Sn},Sst l->SAt n.k l=none->Sst (kZ n l)
 | [],_,_=>by simp [kZ,Sst]
 | x::l,hs,ha=>by
   unfold kZ
   unfold SAt at ha
   have hs0:=hs
   unfold Sst at hs
   rw [List.pairwise_cons] at hs
   by_cases hk:n.k<=x.k
   ·rw [if_pos hk] at ha ⊢
    have hne:x.k≠n.k:=fun e=>by rw [if_pos e] at ha;cases ha
    unfold Sst
    rw [List.pairwise_cons]
    refine⟨fun y hy=>?_,hs0⟩
    rcases List.mem_cons.1 hy with rfl | hy
    ·omega
    ·have:=hs.1 y hy;omega
   ·rw [if_neg hk] at ha ⊢
    unfold Sst
    rw [List.pairwise_cons]
    refine⟨fun y hy=>?_,C9 hs.2 ha⟩
    rcases oz.1 hy with rfl | hy
    ·omega
    ·exact hs.1 y hy
theorem GH {m:Int} {n:Sn}:∀{l:List Sn},Sst l->lvl m (kZ n l)=if m < n.t then kZ n (lvl m l) else lvl m l
 | [],_=>by
   show lvl m [n]=_
   unfold lvl
   by_cases h:m < n.t
   ·rw [if_pos h,List.filter_cons,if_pos (decide_eq_true h)];rfl
   ·rw [if_neg h,List.filter_cons,if_neg (by simpa using h)]
 | x::l,hs=>by
   have hs0:=hs
   unfold Sst at hs
   rw [List.pairwise_cons] at hs
   have ih:=GH (m:=m) (n:=n) (l:=l) hs.2
   rw [show kZ n (x::l)=if n.k<=x.k then n::x::l else x::kZ n l from rfl]
   by_cases hk:n.k<=x.k
   ·rw [if_pos hk]
    have hins:∀{r:List Sn},(∀y∈r,n.k<=y.k)->kZ n r=n::r:=fun {r} hr=>by
     cases r with
     | nil=>rfl
     | cons y r=>unfold kZ;rw [if_pos (hr y List.mem_cons_self)]
    show List.filter _ (n::x::l)=_
    rw [List.filter_cons]
    by_cases h:m < n.t
    ·rw [if_pos h,if_pos (decide_eq_true h)]
     refine(hins fun y hy=>?_).symm
     rcases List.mem_cons.1 (cq.1 hy).1 with rfl | hy
     ·exact hk
     ·have:=hs.1 y hy;omega
    ·rw [if_neg h,if_neg (by simpa using h)];rfl
   ·rw [if_neg hk]
    unfold lvl at ih ⊢
    rw [List.filter_cons,List.filter_cons (xs:=l),ih]
    by_cases hx:m < x.t
    ·rw [if_pos (decide_eq_true hx),if_pos (decide_eq_true hx)]
     split
     ·show _=kZ n (x::_)
      rw [kZ,if_neg hk]
     ·rfl
    ·simp only [if_neg (show ¬decide (m < x.t)=true by simpa using hx)]
end
section
open Go Go.Sx Go.Proofs AH
set_option maxRecDepth 100000
theorem l8 {h:AH} {bd:Int} {L:List Sn} (hi:SInv h L) {m:Int} (m0:0<=m) (m2:m<=2) {p:Ad} {c:W} (hs:kV h bd L m p c):(p=aC m \/ ∃x∈L,1<=x.s /\ h.lv x.s x.g /\ p=x.adr (2+m)) /\ c=h.rd p /\ h.valid p:=by
 obtain⟨k,hp⟩:=hs
 obtain⟨h1,h2⟩:=dD hp
 rcases h1 with rfl | ⟨x,hx,_,rfl⟩
 ·exact⟨.inl rfl,h2,aY m0 (by omega)⟩
 ·have:=rf (hi.at_ m m0 m2) hx
  exact⟨.inr ⟨x,(cq.1 hx).1,this.1,this.2,rfl⟩,h2,.inr ⟨this.1,this.2,by show 0<=2+m;omega,by show 2+m < 8;omega⟩⟩
theorem OC {h:AH} {bd:Int} {L:List Sn} (hi:SInv h L) {m j:Int} (m0:0<=m) (m2:m<=2) (j0:0<=j) (j2:j<=2) (hne:j≠m) {p q:Ad} {c d:W} (hp:kV h bd L m p c) (hq:kV h bd L j q d):¬(p.s=q.s /\ p.f=q.f):=by
 rintro ⟨e1,e2⟩
 rcases (l8 hi m0 m2 hp).1 with rfl | ⟨x,hx,x1,_,rfl⟩<;>rcases (l8 hi j0 j2 hq).1 with rfl | ⟨y,hy,y1,_,rfl⟩
 ·have e2:m=j:=e2;omega
 ·have e1:(0:Int)=y.s:=e1;omega
 ·have e1:x.s=(0:Int):=e1;omega
 ·have e2:2+m=2+j:=e2;omega
theorem Kv {h H:AH} {L:List Sn} (hi:SInv h L) {n:Sn} {pm:Int->Ad} {cm:Int->W} (n1:1<=n.s) (fr:∀x∈L,x.s≠n.s) (t1:1<=n.t) (t3:n.t<=3) (k0:0<=n.k) (k1:n.k < 256) (hat:SAt n.k L=none)
 (sp:∀m,0<=m->m<=2->kV h n.k L m (pm m) (cm m)) (lvn:H.lv n.s n.g) (lvo:∀s g,s≠n.s->h.lv s g->H.lv s g)
 (c0:(H.cl n.s 0).num=n.k) (cv:(H.cl n.s 1).num=n.v) (c6:(H.cl n.s 6).num=n.t) (c7:(H.cl n.s 7).num≠0) (cf:∀m,0<=m->m < n.t->H.cl n.s (2+m)=bP (cm m))
 (to:∀m,0<=m->m < n.t->(H.rd (pm m)).slot=n.s /\ (H.rd (pm m)).gen=n.g /\ (H.rd (pm m)).mark=false)
 (un:∀b:Ad,b.s≠n.s->(∀m,0<=m->m < n.t->¬(b.s=(pm m).s /\ b.f=(pm m).f))->H.rd b=h.rd b):SInv H (kZ n L):=by
 have form:=fun m m0 m2=>(l8 hi m0 m2 (sp m m0 m2)).1
 have ci:∀(K:AH) (s f:Int),1<=s->K.rd ⟨s,0,f⟩=K.cl s f:=fun K s f hs=>by unfold rd;rw [if_neg (by show ¬s=0;omega)]
 have cell:∀s f,1<=s->s≠n.s->(∀m,0<=m->m < n.t->f=2+m->s≠(pm m).s)->H.cl s f=h.cl s f:=fun s f hs hsn hf=>by
  rw [<- ci H s f hs,<- ci h s f hs]
  refine un _ hsn fun m m0 mt=>?_
  rintro ⟨e1,e2⟩
  have e1:s=(pm m).s:=e1
  have e2:f=(pm m).f:=e2
  rcases form m m0 (by omega) with e | ⟨x,hx,x1,_,e⟩
  ·rw [e] at e1;have e1:s=0:=e1;omega
  ·rw [e] at e2;exact hf m m0 mt e2 e1
 have root:∀m,0<=m->m<=2->(m < n.t->¬(0=(pm m).s /\ m=(pm m).f))->H.rd (aC m)=h.rd (aC m):=fun m m0 m2 hm=>by
  refine un _ (by show (0:Int)≠n.s;omega) fun j j0 jt=>?_
  rintro ⟨e1,e2⟩
  have e1:0=(pm j).s:=e1
  have e2:m=(pm j).f:=e2
  rcases form j j0 (by omega) with e | ⟨x,hx,x1,_,e⟩
  ·rw [e] at e2
   have e2:m=j:=e2
   subst e2
   exact hm jt ⟨e1,by rw [e];rfl⟩
  ·rw [e] at e1;have e1:(0:Int)=x.s:=e1;omega
 have nin:∀m,n.s ∉ (lvl m L).map Sn.s:=fun m hm=>by
  obtain⟨y,hy,e⟩:=List.mem_map.1 hm
  exact fr y (cq.1 hy).1 e
 refine⟨fun m m0 m2=>?_,xV hi.nd fun hm=>?_,C9 hi.sr hat,fun x hx=>?_,fun x hx=>?_⟩
 ·rw [GH hi.sr]
  by_cases hm:m < n.t
  ·rw [if_pos hm]
   obtain⟨k,hp⟩:=sp m m0 m2
   refine WQ (h:=h) (a:=aC m) n1 lvn c0 (cf m m0 hm) (to m m0 hm) lvo (fun s hs hsn=>cell s 0 hs hsn fun j j0 _ e=>by omega) (fun s hs hsn hne=>cell s (2+m) hs hsn fun j j0 jt e es=>?_) (fun hne=>root m m0 m2 fun _=>hne) (.inr rfl) (hi.at_ m m0 m2) hp (fun hx=>?_) (nin m) ((List.filter_sublist.map Sn.s).nodup hi.nd)
   ·have e:j=m:=by omega
    subst e
    refine hne ⟨es,?_⟩
    rcases form j m0 m2 with e | ⟨x,hx,x1,_,e⟩
    ·rw [e] at es;have es:s=0:=es;omega
    ·rw [e];rfl
   ·obtain⟨y,hy,e⟩:=List.mem_map.1 hx
    have:=(rf (hi.at_ m m0 m2) hy).1
    have e:y.s=0:=e
    omega
  ·rw [if_neg hm]
   have hr:=root m m0 m2 fun h=>absurd h hm
   have hr:H.bd m=h.bd m:=hr
   rw [hr]
   refine cX (hi.at_ m m0 m2) fun x hx x1 hl=>?_
   have hxn:=fr x (cq.1 hx).1
   exact⟨lvo _ _ hxn hl,cell _ _ x1 hxn fun j j0 _ e=>by omega,cell _ _ x1 hxn fun j j0 jt e=>by omega⟩
 ·obtain⟨y,hy,e⟩:=List.mem_map.1 hm
  exact fr y hy e
 ·rcases oz.1 hx with rfl | hx
  ·exact⟨cv,c6,c7,t1,t3⟩
  ·have hxn:=fr x hx
   have x1:1<=x.s:=(rf (hi.at_ 0 (by decide) (by decide)) (by rw [LU hi];exact hx)).1
   obtain⟨d1,d2,d3,d4⟩:=hi.da x hx
   exact⟨by rw [cell _ _ x1 hxn fun j j0 _ e=>by omega];exact d1,by rw [cell _ _ x1 hxn fun j j0 jt e=>by omega];exact d2,by rw [cell _ _ x1 hxn fun j j0 jt e=>by omega];exact d3,d4⟩
 ·rcases oz.1 hx with rfl | hx
  ·exact⟨k0,k1⟩
  ·exact hi.rg x hx
end
section
open Go Go.Sx Go.Proofs AH
set_option maxRecDepth 100000
def mJ (c v:Int) (j:SteM):Cl×SteM:=(fx c v,{j with pc:=-1,last:=fx c v})
def eK (j:SteM) (l:Int):Ad×W:=match j.climb with | none=>(dX,wNil) | some c=>az c l
def jX (j:SteM):W:=match j.climb with | none=>wNil | some c=>c.found
def Ek (n:Int) (j:SteM):Cl×SteM:=(aM (af j.node 7),{j with inc:=n,pc:=101})
def wC (j:SteM):Cl×SteM:=cond (decide (j.level>=j.op.tall)) (Ek 1 j) (aM (af j.node (cA 2 j.level)),{j with pc:=9})
def sQ (j:SteM):Cl×SteM:=cond (decide (bH j.level < j.op.tall)) (bz (af j.node (cA 2 (bH j.level))) (bP (eK j (bH j.level)).2),{j with level:=bH j.level,pc:=7})
 (bf (eK j 0).1 (eK j 0).2 (wTo (eK j 0).2 j.node),{j with level:=bH j.level,pc:=8})
def Ki (j:SteM):Cl×SteM:=cond (!((jX j).slot==0)) (kS j.node,{j with pc:=6}) (sQ {j with level:=-1})
def Kh (j:SteM):Cl×SteM:=cond ((jX j).slot==0) (mJ 2 0 {j with node:=jX j}) (aM (af (jX j) 6),{j with node:=jX j,pc:=2})
def Kj (j:SteM):Cl×SteM:=cond ((jX j).slot==0) (mJ 2 0 {j with node:=jX j}) (aM (af (jX j) 1),{j with node:=jX j,pc:=2})
def Kg (j:SteM):Cl×SteM:=(fP j.node,{j with pc:=104})
section
variable {la:Cl} {ky va ta:Int} {cb:Option ClimbM} {nd:W} {lv inc v:Int}
theorem VE (x:Rp1):ax ⟨0,la,⟨6,ky,va,ta⟩,cb,nd,lv,inc,v⟩ x=(fV,⟨1,la,⟨6,ky,va,ta⟩,cb,nd,lv,inc,v⟩):=rfl
theorem Rk (x:Rp1):ax ⟨1,la,⟨6,ky,va,ta⟩,cb,nd,lv,inc,v⟩ x=cond (!x.ok) (mJ 4 0 ⟨1,la,⟨6,ky,va,ta⟩,cb,nd,lv,inc,v⟩) (bz (af x.w 0) (dt ky),⟨2,la,⟨6,ky,va,ta⟩,cb,x.w,lv,inc,v⟩):=rfl
theorem VD (x:Rp1):ax ⟨2,la,⟨6,ky,va,ta⟩,cb,nd,lv,inc,v⟩ x=(bz (af nd 1) (dt va),⟨3,la,⟨6,ky,va,ta⟩,cb,nd,lv,inc,v⟩):=rfl
theorem VC (x:Rp1):ax ⟨3,la,⟨6,ky,va,ta⟩,cb,nd,lv,inc,v⟩ x=(bz (af nd 6) (dt ta),⟨4,la,⟨6,ky,va,ta⟩,cb,nd,lv,inc,v⟩):=rfl
theorem VB (x:Rp1):ax ⟨4,la,⟨6,ky,va,ta⟩,cb,nd,lv,inc,v⟩ x=ax ⟨5,la,⟨6,ky,va,ta⟩,some (cE ky),nd,lv,inc,v⟩ x:=rfl
theorem VA (c:ClimbM) (x:Rp1):ax ⟨5,la,⟨6,ky,va,ta⟩,some c,nd,lv,inc,v⟩ x=cond (ao c x).1.2 ((ao c x).1.1,⟨5,la,⟨6,ky,va,ta⟩,some (ao c x).2,nd,lv,inc,v⟩) (Ki ⟨5,la,⟨6,ky,va,ta⟩,some (ao c x).2,nd,lv,inc,v⟩):=rfl
theorem Vz (x:Rp1):ax ⟨6,la,⟨6,ky,va,ta⟩,cb,nd,lv,inc,v⟩ x=mJ 3 0 ⟨6,la,⟨6,ky,va,ta⟩,cb,nd,lv,inc,v⟩:=rfl
theorem Vy (x:Rp1):ax ⟨7,la,⟨6,ky,va,ta⟩,cb,nd,lv,inc,v⟩ x=sQ ⟨7,la,⟨6,ky,va,ta⟩,cb,nd,lv,inc,v⟩:=rfl
theorem Vx (w:W):ax ⟨8,la,⟨6,ky,va,ta⟩,cb,nd,lv,inc,v⟩ ⟨w,true⟩=wC ⟨8,la,⟨6,ky,va,ta⟩,cb,nd,1,inc,v⟩:=rfl
theorem Vw (w:W) (hm:w.mark=false):ax ⟨9,la,⟨6,ky,va,ta⟩,cb,nd,lv,inc,v⟩ ⟨w,true⟩=cond (!KV w (eK ⟨9,la,⟨6,ky,va,ta⟩,cb,nd,lv,inc,v⟩ lv).2) (bf (af nd (cA 2 lv)) w (wTo w (eK ⟨9,la,⟨6,ky,va,ta⟩,cb,nd,lv,inc,v⟩ lv).2),⟨10,la,⟨6,ky,va,ta⟩,cb,nd,lv,inc,v⟩)
 (bf (eK ⟨9,la,⟨6,ky,va,ta⟩,cb,nd,lv,inc,v⟩ lv).1 (eK ⟨9,la,⟨6,ky,va,ta⟩,cb,nd,lv,inc,v⟩ lv).2 (wTo (eK ⟨9,la,⟨6,ky,va,ta⟩,cb,nd,lv,inc,v⟩ lv).2 nd),⟨11,la,⟨6,ky,va,ta⟩,cb,nd,lv,inc,v⟩):=by
 obtain⟨a,b,c,d,e⟩:=w
 dsimp only at hm
 subst hm
 rfl
theorem SA (w:W):ax ⟨11,la,⟨6,ky,va,ta⟩,cb,nd,lv,inc,v⟩ ⟨w,true⟩=wC ⟨11,la,⟨6,ky,va,ta⟩,cb,nd,bH lv,inc,v⟩:=rfl
theorem Kf {k:Int} (x:Rp1):ax ⟨101,la,⟨k,ky,va,ta⟩,cb,nd,lv,inc,v⟩ x=cond (x.w.num==0) (bf (af nd 7) x.w (eI x.w inc),⟨102,la,⟨k,ky,va,ta⟩,cb,nd,lv,inc,v⟩) (ax ⟨103,la,⟨k,ky,va,ta⟩,some (cE (bH ky)),nd,lv,inc,v⟩ x):=rfl
theorem Sz {k:Int} (w:W):ax ⟨102,la,⟨k,ky,va,ta⟩,cb,nd,lv,inc,v⟩ ⟨w,true⟩=mJ 1 v ⟨102,la,⟨k,ky,va,ta⟩,cb,nd,lv,inc,v⟩:=rfl
theorem Sy {k:Int} (c:ClimbM) (x:Rp1):ax ⟨103,la,⟨k,ky,va,ta⟩,some c,nd,lv,inc,v⟩ x=cond (ao c x).1.2 ((ao c x).1.1,⟨103,la,⟨k,ky,va,ta⟩,some (ao c x).2,nd,lv,inc,v⟩) (Kg ⟨103,la,⟨k,ky,va,ta⟩,some (ao c x).2,nd,lv,inc,v⟩):=rfl
theorem Sw {k:Int} (x:Rp1):ax ⟨104,la,⟨k,ky,va,ta⟩,cb,nd,lv,inc,v⟩ x=mJ 1 v ⟨104,la,⟨k,ky,va,ta⟩,cb,nd,lv,inc,v⟩:=rfl
theorem Vv (x:Rp1):ax ⟨0,la,⟨7,ky,va,ta⟩,cb,nd,lv,inc,v⟩ x=ax ⟨1,la,⟨7,ky,va,ta⟩,some (cE ky),nd,lv,inc,v⟩ x:=rfl
theorem Vu (c:ClimbM) (x:Rp1):ax ⟨1,la,⟨7,ky,va,ta⟩,some c,nd,lv,inc,v⟩ x=cond (ao c x).1.2 ((ao c x).1.1,⟨1,la,⟨7,ky,va,ta⟩,some (ao c x).2,nd,lv,inc,v⟩) (Kh ⟨1,la,⟨7,ky,va,ta⟩,some (ao c x).2,nd,lv,inc,v⟩):=rfl
theorem Vs (x:Rp1):ax ⟨3,la,⟨7,ky,va,ta⟩,cb,nd,lv,inc,v⟩ x=(aM (af nd (cA 2 lv)),⟨4,la,⟨7,ky,va,ta⟩,cb,nd,lv,inc,x.w.num⟩):=rfl
theorem Vr (w:W) (hm:w.mark=false):ax ⟨4,la,⟨7,ky,va,ta⟩,cb,nd,lv,inc,v⟩ ⟨w,true⟩=(bf (af nd (cA 2 lv)) w (jc w),⟨5,la,⟨7,ky,va,ta⟩,cb,nd,lv,inc,v⟩):=by
 obtain⟨a,b,c,d,e⟩:=w
 dsimp only at hm
 subst hm
 rfl
theorem Vq (w:W):ax ⟨5,la,⟨7,ky,va,ta⟩,cb,nd,lv,inc,v⟩ ⟨w,true⟩=cond (decide (lv > 0)) (aM (af nd (cA 2 (IntKind.wrap .i64 (lv - 1)))),⟨4,la,⟨7,ky,va,ta⟩,cb,nd,IntKind.wrap .i64 (lv - 1),inc,v⟩) (ax ⟨6,la,⟨7,ky,va,ta⟩,some (cE (bH ky)),nd,lv,inc,v⟩ ⟨w,true⟩):=rfl
theorem Vp (c:ClimbM) (x:Rp1):ax ⟨6,la,⟨7,ky,va,ta⟩,some c,nd,lv,inc,v⟩ x=cond (ao c x).1.2 ((ao c x).1.1,⟨6,la,⟨7,ky,va,ta⟩,some (ao c x).2,nd,lv,inc,v⟩) (Ek 2 ⟨6,la,⟨7,ky,va,ta⟩,some (ao c x).2,nd,lv,inc,v⟩):=rfl
theorem Vo (x:Rp1):ax ⟨0,la,⟨8,ky,va,ta⟩,cb,nd,lv,inc,v⟩ x=ax ⟨1,la,⟨8,ky,va,ta⟩,some (cE ky),nd,lv,inc,v⟩ x:=rfl
theorem Vn (c:ClimbM) (x:Rp1):ax ⟨1,la,⟨8,ky,va,ta⟩,some c,nd,lv,inc,v⟩ x=cond (ao c x).1.2 ((ao c x).1.1,⟨1,la,⟨8,ky,va,ta⟩,some (ao c x).2,nd,lv,inc,v⟩) (Kj ⟨1,la,⟨8,ky,va,ta⟩,some (ao c x).2,nd,lv,inc,v⟩):=rfl
theorem Vm (x:Rp1):ax ⟨2,la,⟨8,ky,va,ta⟩,cb,nd,lv,inc,v⟩ x=mJ 1 x.w.num ⟨2,la,⟨8,ky,va,ta⟩,cb,nd,lv,inc,v⟩:=rfl
theorem Vt (x:Rp1):ax ⟨2,la,⟨7,ky,va,ta⟩,cb,nd,lv,inc,v⟩ x=cond (orB (decide (x.w.num < 1)) (decide (x.w.num > 3))) (aM (af nd 1),⟨3,la,⟨7,ky,va,ta⟩,cb,nd,0,inc,v⟩) (aM (af nd 1),⟨3,la,⟨7,ky,va,ta⟩,cb,nd,IntKind.wrap .i64 (x.w.num - 1),inc,v⟩):=rfl
end
end
section
open Go Go.Sx Go.Proofs AH
set_option maxRecDepth 100000
def DP (L:List Sn) (o:O) (a:An) (h:AH):Prop :=
 (o.kind=6 /\ ((SAt o.key L=none /\ a=⟨1,0⟩ /\ ∃n:Sn,n.k=o.key /\ n.v=o.val /\ n.t=o.tall /\ SInv h (kZ n L)) \/ (SAt o.key L≠none /\ a=⟨3,0⟩ /\ SInv h L) \/ (a=⟨4,0⟩ /\ SInv h L)))
 \/ (o.kind≠6 /\ SAt o.key L=none /\ a=⟨2,0⟩ /\ SInv h L)
 \/ (∃x,SAt o.key L=some x /\ a=⟨1,x.v⟩ /\ ((o.kind=7 /\ SInv h (mK o.key L)) \/ (o.kind=8 /\ SInv h L)))
theorem oX {key:Int}:∀{l:List Sn} {x:Sn},SAt key l=some x->x∈l /\ x.k=key
 | y::l,x,hx=>by
   unfold SAt at hx
   split at hx
   ·split at hx
    ·cases hx;exact⟨List.mem_cons_self,by assumption⟩
    ·cases hx
   ·exact⟨List.mem_cons_of_mem _ (oX hx).1,(oX hx).2⟩
theorem cC {h:AH} {L:List Sn} (hi:SInv h L) {x:Sn} (hx:x∈L):1<=x.s /\ h.lv x.s x.g:=rf (hi.at_ 0 (by decide) (by decide)) (by rw [LU hi];exact hx)
theorem A8 {h h':AH} {L:List Sn} (hi:SInv h L) (hc:∀x∈L,1<=x.s->h.lv x.s x.g->h'.lv x.s x.g /\ ∀f,h'.cl x.s f=h.cl x.s f) (hb:h'.bd=h.bd):SInv h' L :=
 ⟨fun m m0 m2=>by rw [hb];exact cX (hi.at_ m m0 m2) fun x hx x1 hl=>(have q:=hc x (cq.1 hx).1 x1 hl;⟨q.1,q.2 _,q.2 _⟩),hi.nd,hi.sr,fun x hx=>by rw [(hc x hx (cC hi hx).1 (cC hi hx).2).2,(hc x hx (cC hi hx).1 (cC hi hx).2).2,(hc x hx (cC hi hx).1 (cC hi hx).2).2];exact hi.da x hx,hi.rg⟩
theorem OA {h:AH} {L:List Sn} (hi:SInv h L) {la:Cl} {ky va ta:Int} {cb:Option ClimbM} {nd:W} {lv inc v:Int} (x:Rp1):aT ax (DP L ⟨8,ky,va,ta⟩) (18 * L.length+20) h (ax ⟨0,la,⟨8,ky,va,ta⟩,cb,nd,lv,inc,v⟩ x):=by
 rw [Vo]
 refine aP (fun _ _ h=>h) (by omega:(18 * L.length+10)+5<=_) (mC (J:=fun c=>⟨1,la,⟨8,ky,va,ta⟩,some c,nd,lv,inc,v⟩) (co:=fun c=>Kj ⟨1,la,⟨8,ky,va,ta⟩,some c,nd,lv,inc,v⟩) Vn (fun c h' hq=>?_) (pA hi x))
 obtain⟨rfl,hq⟩:=hq
 have hf:=hq.fo
 show aT ax _ 5 h' (cond (c.found.slot==0) (mJ 2 0 ⟨1,la,⟨8,ky,va,ta⟩,some c,c.found,lv,inc,v⟩) (aM (af c.found 1),⟨2,la,⟨8,ky,va,ta⟩,some c,c.found,lv,inc,v⟩))
 cases hat:SAt ky L with
 | none =>
   rw [hat] at hf
   have hf:c.found=wNil:=hf
   rw [hf]
   exact bq rfl (.inr (.inl ⟨by show (8:Int)≠6;decide,hat,rfl,hi⟩))
 | some y =>
   rw [hat] at hf
   have hf:c.found=⟨y.s,y.g,0,0,false⟩:=hf
   obtain⟨y1,yl⟩:=cC hi (oX hat).1
   rw [hf,dz y1]
   refine aA (bI (aE (w:=⟨y.s,y.g,0,0,false⟩) y1 yl (by decide) (by decide)) ?_)
   show aT ax _ 4 h' (ax ⟨2,la,⟨8,ky,va,ta⟩,some c,⟨y.s,y.g,0,0,false⟩,lv,inc,v⟩ _)
   rw [Vm]
   have hv:(h'.rd (af ⟨y.s,y.g,0,0,false⟩ 1)).num=y.v:=by rw [bQ y1];exact(hi.da y (oX hat).1).1
   refine bq rfl (.inr (.inr ⟨y,hat,?_,.inr ⟨rfl,hi⟩⟩))
   show (⟨1,(h'.rd (af ⟨y.s,y.g,0,0,false⟩ 1)).num⟩:An)=_
   rw [hv]
structure Lk (h:AH) (L:List Sn) (n:W) (ky va ta:Int) (c:ClimbM) (i j:Int) (H:AH):Prop where
 lvn:H.lv n.slot n.gen
 lvo:∀s g,s≠n.slot->h.lv s g->H.lv s g
 c0:(H.cl n.slot 0).num=ky
 cv:(H.cl n.slot 1).num=va
 c6:(H.cl n.slot 6).num=ta
 c7:(H.cl n.slot 7).num=0
 cf:∀m,0<=m->m < i->H.cl n.slot (2+m)=bP (az c m).2
 to:∀m,0<=m->m < j->H.rd (az c m).1=wTo (az c m).2 n
 un:∀b:Ad,b.s≠n.slot->(∀m,0<=m->m < j->¬(b.s=(az c m).1.s /\ b.f=(az c m).1.f))->H.rd b=h.rd b
theorem wD {h:AH} {bd:Int} {L:List Sn} {c:ClimbM} (hq:ClPost h bd L c) (m:Int) (m0:0<=m) (m2:m<=2):kV h bd L m (az c m).1 (az c m).2:=by
 obtain rfl | rfl | rfl:m=0 \/ m=1 \/ m=2:=by omega
 ·exact hq.s0
 ·exact hq.s1
 ·exact hq.s2
theorem w1 {i:Int} (h0:-5<=i) (h1:i < 5):bH i=i+1:=jl (by omega)
theorem w2 {i:Int} (h0:-5<=i) (h1:i < 5):cA 2 i=2+i:=by unfold cA;exact jl (by omega)
section
variable {h:AH} {L:List Sn} {n:W} {ky va ta:Int} {c:ClimbM} {la:Cl} {inc v:Int}
theorem GJ (hi:SInv h L) (hq:ClPost h ky L c) (n1:1<=n.slot) (fr:∀x∈L,x.s≠n.slot) {j:Int} (j0:0<=j) (jt:j < ta) (t3:ta<=3) {H:AH} (hl:Lk h L n ky va ta c ta j H) :
 H.valid (az c j).1 /\ H.rd (az c j).1=(az c j).2 /\ Lk h L n ky va ta c ta (j+1) (H.wr (az c j).1 (wTo (az c j).2 n)):=by
 have sp:=wD hq
 obtain⟨f1,f2,f3⟩:=l8 hi j0 (by omega) (sp j j0 (by omega))
 have ps:(az c j).1.s≠n.slot:=by
  rcases f1 with e | ⟨x,hx,x1,xl,e⟩
  ·rw [e];show (0:Int)≠_;omega
  ·rw [e];exact fr x hx
 have ne:∀m,0<=m->m < j->¬((az c j).1.s=(az c m).1.s /\ (az c j).1.f=(az c m).1.f):=fun m m0 mj=>OC hi j0 (by omega) m0 (by omega) (by omega) (sp j j0 (by omega)) (sp m m0 (by omega))
 have cl:∀f,(H.wr (az c j).1 (wTo (az c j).2 n)).cl n.slot f=H.cl n.slot f:=fun f=>by
  unfold wr
  split
  ·rfl
  ·show (if n.slot=_ /\ _ then _ else _)=_
   rw [if_neg fun e=>ps e.1.symm]
 refine⟨?_,(hl.un _ ps ne).trans f2.symm,⟨by rw [bJ];exact hl.lvn,fun s g hs hg=>by rw [bJ];exact hl.lvo s g hs hg,by rw [cl];exact hl.c0,by rw [cl];exact hl.cv,by rw [cl];exact hl.c6,by rw [cl];exact hl.c7,fun m m0 mt=>by rw [cl];exact hl.cf m m0 mt,fun m m0 mj=>?_,fun b hb hm=>?_⟩⟩
 ·rcases f1 with e | ⟨x,hx,x1,xl,e⟩
  ·rw [e];exact aY j0 (by omega)
  ·rw [e];exact .inr ⟨x1,hl.lvo _ _ (fr x hx) xl,by show 0<=2+j;omega,by show 2+j < 8;omega⟩
 ·by_cases e:m=j
  ·subst e;rw [gP,if_pos ⟨rfl,rfl⟩]
  ·rw [gP,if_neg fun q=>ne m m0 (by omega) ⟨q.1.symm,q.2.symm⟩]
   exact hl.to m m0 (by omega)
 ·rw [gP,if_neg (hm j j0 (by omega))]
  exact hl.un b hb fun m m0 mj=>hm m m0 (by omega)
theorem zH (hi:SInv h L) (hq:ClPost h ky L c) (hat:SAt ky L=none) (k0:0<=ky) (k1:ky < 256) (n1:1<=n.slot) (fr:∀x∈L,x.s≠n.slot) (t1:1<=ta) (t3:ta<=3):∀(d:Nat) {j pc:Int} {H:AH},0<=j->j+d=ta->Lk h L n ky va ta c ta j H ->
 aT ax (DP L ⟨6,ky,va,ta⟩) (4+2 * d) H (wC ⟨pc,la,⟨6,ky,va,ta⟩,some c,n,j,inc,0⟩)
 | 0,j,pc,H,j0,jt,hl=>by
   unfold wC
   dsimp only
   rw [decide_eq_true (by omega:j>=ta)]
   refine aA (bI (aE n1 hl.lvn (by decide) (by decide)) ?_)
   show aT ax _ 3 H (ax ⟨101,la,⟨6,ky,va,ta⟩,some c,n,j,1,0⟩ ⟨H.rd (af n 7),true⟩)
   rw [bQ n1,Kf,show (H.cl n.slot 7).num=0 from hl.c7]
   refine aA (dH (aE n1 hl.lvn (by decide) (by decide)) (bQ n1) ?_)
   show aT ax _ 2 _ (ax ⟨102,la,⟨6,ky,va,ta⟩,some c,n,j,1,0⟩ ⟨H.cl n.slot 7,true⟩)
   rw [Sz]
   have c7:∀f,(H.wr (af n 7) (eI (H.cl n.slot 7) 1)).cl n.slot f=if f=7 then eI (H.cl n.slot 7) 1 else H.cl n.slot f:=fun f=>by
    rw [dq n1]
    by_cases e:f=7
    ·rw [if_pos ⟨rfl,e⟩,if_pos e]
    ·rw [if_neg fun q=>e q.2,if_neg e]
   have rd:∀b:Ad,b.s≠n.slot->(H.wr (af n 7) (eI (H.cl n.slot 7) 1)).rd b=H.rd b:=fun b hb=>by rw [gP,if_neg fun e=>hb e.1]
   have jt:j=ta:=by omega
   subst jt
   refine bq rfl (.inl ⟨rfl,.inl ⟨hat,rfl,⟨n.slot,n.gen,ky,va,j⟩,rfl,rfl,rfl,Kv hi (pm:=fun m=>(az c m).1) (cm:=fun m=>(az c m).2) n1 fr t1 t3 k0 k1 hat (wD hq) (by rw [bJ];exact hl.lvn) (fun s g hs hg=>by rw [bJ];exact hl.lvo s g hs hg) ?_ ?_ ?_ ?_ (fun m m0 mt=>?_) (fun m m0 mt=>?_) fun b hb hm=>by rw [rd b hb];exact hl.un b hb hm⟩⟩)
   ·show (AH.cl _ n.slot 0).num=ky
    rw [c7,if_neg (by decide)];exact hl.c0
   ·show (AH.cl _ n.slot 1).num=va
    rw [c7,if_neg (by decide)];exact hl.cv
   ·show (AH.cl _ n.slot 6).num=j
    rw [c7,if_neg (by decide)];exact hl.c6
   ·show (AH.cl _ n.slot 7).num≠0
    rw [c7,if_pos rfl]
    show IntKind.wrap .i64 ((H.cl n.slot 7).num+1)≠0
    rw [hl.c7];decide
   ·show AH.cl _ n.slot (2+m)=_
    have mt:m < j:=mt
    rw [c7,if_neg (by omega)];exact hl.cf m m0 mt
   ·have hps:(az c m).1.s≠n.slot:=by
     have mt:m < j:=mt
     rcases (l8 hi m0 (by omega) (wD hq m m0 (by omega))).1 with e | ⟨x,hx,x1,xl,e⟩
     ·rw [e];show (0:Int)≠_;omega
     ·rw [e];exact fr x hx
    show (AH.rd _ (az c m).1).slot=n.slot /\ (AH.rd _ (az c m).1).gen=n.gen /\ (AH.rd _ (az c m).1).mark=false
    rw [rd _ hps,hl.to m m0 mt]
    exact⟨rfl,rfl,rfl⟩
 | d+1,j,pc,H,j0,jt,hl=>by
   unfold wC
   dsimp only
   rw [decide_eq_false (by omega:¬j>=ta),w2 (by omega) (by omega)]
   refine aP (fun _ _ h=>h) (by omega:(4+2 * d)+1+1<=_) (aA (bI (aE n1 hl.lvn (by omega) (by omega)) ?_))
   obtain⟨v1,v2,v3⟩:=GJ hi hq n1 fr j0 (by omega) t3 hl
   show aT ax _ _ H (ax ⟨9,la,⟨6,ky,va,ta⟩,some c,n,j,inc,0⟩ ⟨H.rd (af n (2+j)),true⟩)
   rw [bQ n1,hl.cf j j0 (by omega),Vw _ rfl]
   have re:KV (bP (az c j).2) (eK ⟨9,la,⟨6,ky,va,ta⟩,some c,n,j,inc,0⟩ j).2=true:=by
    show ((az c j).2.slot==(az c j).2.slot&&(az c j).2.gen==(az c j).2.gen)=true
    simp
   rw [re]
   refine aA (dH v1 v2 ?_)
   show aT ax _ _ _ (ax ⟨11,la,⟨6,ky,va,ta⟩,some c,n,j,inc,0⟩ ⟨(az c j).2,true⟩)
   rw [SA,w1 (by omega) (by omega)]
   exact zH hi hq hat k0 k1 n1 fr t1 t3 d (by omega) (by omega) v3
end
end
section
open Go Go.Sx Go.Proofs AH
set_option maxRecDepth 100000
section
variable {h:AH} {L:List Sn} {n:W} {ky va ta:Int} {c:ClimbM} {la:Cl} {inc v:Int}
theorem zP (hi:SInv h L) (hq:ClPost h ky L c) (hat:SAt ky L=none) (k0:0<=ky) (k1:ky < 256) (n1:1<=n.slot) (fr:∀x∈L,x.s≠n.slot) (t1:1<=ta) (t3:ta<=3):∀(d:Nat) {i l pc:Int} {H:AH},0<=i->i+d=ta->l=i - 1->Lk h L n ky va ta c i 0 H ->
 aT ax (DP L ⟨6,ky,va,ta⟩) (20+d) H (sQ ⟨pc,la,⟨6,ky,va,ta⟩,some c,n,l,inc,0⟩)
 | 0,i,l,pc,H,i0,it,il,hl=>by
   subst il
   unfold sQ
   dsimp only
   rw [w1 (by omega) (by omega),show i - 1+1=i by omega,decide_eq_false (by omega:¬i < ta)]
   have it:i=ta:=by omega
   subst it
   obtain⟨v1,v2,v3⟩:=GJ hi hq n1 fr (Int.le_refl 0) (by omega) t3 hl
   refine aA (dH v1 v2 ?_)
   show aT ax _ _ _ (ax ⟨8,la,⟨6,ky,va,i⟩,some c,n,i,inc,0⟩ ⟨(az c 0).2,true⟩)
   rw [Vx]
   exact aP (fun _ _ h=>h) (by omega:4+2 * (i - 1).toNat<=_) (zH hi hq hat k0 k1 n1 fr t1 t3 (i - 1).toNat (by decide) (by omega) v3)
 | d+1,i,l,pc,H,i0,it,il,hl=>by
   subst il
   unfold sQ
   dsimp only
   rw [w1 (by omega) (by omega),show i - 1+1=i by omega,decide_eq_true (by omega:i < ta),w2 (by omega) (by omega)]
   refine aA (dO (aE n1 hl.lvn (by omega) (by omega)) ?_)
   show aT ax _ (20+d) _ (ax ⟨7,la,⟨6,ky,va,ta⟩,some c,n,i,inc,0⟩ ⟨wNil,true⟩)
   rw [Vy]
   have cl:∀f,(H.wr (af n (2+i)) (bP (az c i).2)).cl n.slot f=if f=2+i then bP (az c i).2 else H.cl n.slot f:=fun f=>by
    rw [dq n1]
    by_cases e:f=2+i
    ·rw [if_pos ⟨rfl,e⟩,if_pos e]
    ·rw [if_neg fun q=>e q.2,if_neg e]
   refine zP hi hq hat k0 k1 n1 fr t1 t3 d (i:=i+1) (by omega) (by omega) (by omega) ⟨by rw [bJ];exact hl.lvn,fun s g hs hg=>by rw [bJ];exact hl.lvo s g hs hg,?_,?_,?_,?_,fun m m0 mi=>?_,fun m m0 mi=>by omega,fun b hb hm=>?_⟩
   ·rw [show (eK _ i).2=(az c i).2 from rfl,cl,if_neg (by omega)];exact hl.c0
   ·rw [show (eK _ i).2=(az c i).2 from rfl,cl,if_neg (by omega)];exact hl.cv
   ·rw [show (eK _ i).2=(az c i).2 from rfl,cl,if_neg (by omega)];exact hl.c6
   ·rw [show (eK _ i).2=(az c i).2 from rfl,cl,if_neg (by omega)];exact hl.c7
   ·rw [show (eK _ i).2=(az c i).2 from rfl,cl]
    by_cases e:m=i
    ·subst e;rw [if_pos rfl]
    ·rw [if_neg (by omega)];exact hl.cf m m0 (by omega)
   ·rw [gP,if_neg fun e=>hb e.1]
    exact hl.un b hb fun m m0 mi=>by omega
end
theorem Oz {h:AH} {L:List Sn} (hi:SInv h L) {la:Cl} {ky va ta:Int} (k0:0<=ky) (k1:ky < 256) (t1:1<=ta) (t3:ta<=3) {cb:Option ClimbM} {nd:W} {lv inc:Int} (x:Rp1):aT ax (DP L ⟨6,ky,va,ta⟩) (18 * L.length+50) h (ax ⟨0,la,⟨6,ky,va,ta⟩,cb,nd,lv,inc,0⟩ x):=by
 rw [VE]
 refine aA (lR ?_ fun n n1 hf=>?_)
 ·show aT ax _ _ h (ax ⟨1,la,⟨6,ky,va,ta⟩,cb,nd,lv,inc,0⟩ ⟨wNil,false⟩)
  rw [Rk]
  exact bq rfl (.inl ⟨rfl,.inr (.inr ⟨rfl,hi⟩)⟩)
 have lvn:(h.new n.slot n.gen).lv n.slot n.gen:=by show if n.slot=n.slot then n.gen=n.gen else _;rw [if_pos rfl]
 have fr:∀y∈L,y.s≠n.slot:=fun y hy e=>hf y.g (e▸(cC hi hy).2)
 show aT ax _ _ _ (ax ⟨1,la,⟨6,ky,va,ta⟩,cb,nd,lv,inc,0⟩ ⟨n,true⟩)
 rw [Rk]
 refine aA (dO (aE n1 lvn (by decide) (by decide)) ?_)
 show aT ax _ _ _ (ax ⟨2,la,⟨6,ky,va,ta⟩,cb,n,lv,inc,0⟩ ⟨wNil,true⟩)
 rw [VD]
 refine aA (dO (aE n1 (by rw [bJ];exact lvn) (by decide) (by decide)) ?_)
 show aT ax _ _ _ (ax ⟨3,la,⟨6,ky,va,ta⟩,cb,n,lv,inc,0⟩ ⟨wNil,true⟩)
 rw [VC]
 refine aA (dO (aE n1 (by rw [bJ,bJ];exact lvn) (by decide) (by decide)) ?_)
 show aT ax _ (18 * L.length+46) (AH.wr (AH.wr (AH.wr (h.new n.slot n.gen) (af n 0) (dt ky)) (af n 1) (dt va)) (af n 6) (dt ta)) (ax ⟨4,la,⟨6,ky,va,ta⟩,cb,n,lv,inc,0⟩ ⟨wNil,true⟩)
 rw [VB]
 generalize e1:AH.wr (AH.wr (AH.wr (h.new n.slot n.gen) (af n 0) (dt ky)) (af n 1) (dt va)) (af n 6) (dt ta)=h2
 have b2:h2.bd=h.bd:=by subst e1;rw [nD n1,nD n1,nD n1];rfl
 have c2:∀y k,y≠n.slot->h2.cl y k=h.cl y k:=fun y k hy=>by subst e1;rw [dq n1,if_neg fun e=>hy e.1,dq n1,if_neg fun e=>hy e.1,dq n1,if_neg fun e=>hy e.1,AH.cl_new,if_neg hy]
 have l2:∀y g,y≠n.slot->(h2.lv y g↔h.lv y g):=fun y g hy=>by subst e1;rw [bJ,bJ,bJ,xv,if_neg hy]
 have l2n:h2.lv n.slot n.gen:=by subst e1;rw [bJ,bJ,bJ];exact lvn
 have q0:(h2.cl n.slot 0).num=ky:=by subst e1;rw [dq n1,if_neg (by rintro ⟨_,e⟩;cases e),dq n1,if_neg (by rintro ⟨_,e⟩;cases e),dq n1,if_pos ⟨rfl,rfl⟩];rfl
 have q1:(h2.cl n.slot 1).num=va:=by subst e1;rw [dq n1,if_neg (by rintro ⟨_,e⟩;cases e),dq n1,if_pos ⟨rfl,rfl⟩];rfl
 have q6:(h2.cl n.slot 6).num=ta:=by subst e1;rw [dq n1,if_pos ⟨rfl,rfl⟩];rfl
 have q7:(h2.cl n.slot 7).num=0:=by subst e1;rw [dq n1,if_neg (by rintro ⟨_,e⟩;cases e),dq n1,if_neg (by rintro ⟨_,e⟩;cases e),dq n1,if_neg (by rintro ⟨_,e⟩;cases e),AH.cl_new,if_pos rfl];rfl
 clear e1
 have hi2:SInv h2 L:=A8 hi (fun y hy y1 yl=>⟨(l2 _ _ (fr y hy)).2 yl,fun f=>c2 _ _ (fr y hy)⟩) b2
 refine aP (fun _ _ h=>h) (by omega:(18 * L.length+10)+30<=_) (mC (J:=fun c=>⟨5,la,⟨6,ky,va,ta⟩,some c,n,lv,inc,0⟩) (co:=fun c=>Ki ⟨5,la,⟨6,ky,va,ta⟩,some c,n,lv,inc,0⟩) VA (fun c h' hq=>?_) (pA hi2 _))
 obtain⟨rfl,hq⟩:=hq
 have hfo:=hq.fo
 show aT ax _ 30 h' (cond (!(c.found.slot==0)) (kS n,⟨6,la,⟨6,ky,va,ta⟩,some c,n,lv,inc,0⟩) (sQ ⟨5,la,⟨6,ky,va,ta⟩,some c,n,-1,inc,0⟩))
 cases hat:SAt ky L with
 | none =>
   rw [hat] at hfo
   have hfo:c.found=wNil:=hfo
   rw [hfo]
   exact aP (fun _ _ h=>h) (by omega:20+ta.toNat<=30) (zP hi2 hq hat k0 k1 n1 fr t1 t3 ta.toNat (i:=0) (by decide) (by omega) (by decide) ⟨l2n,fun s g _ h=>h,q0,q1,q6,q7,fun m m0 mi=>by omega,fun m m0 mi=>by omega,fun b _ _=>rfl⟩)
 | some y =>
   rw [hat] at hfo
   have hfo:c.found=⟨y.s,y.g,0,0,false⟩:=hfo
   obtain⟨y1,yl⟩:=cC hi2 (oX hat).1
   rw [hfo,dz y1]
   refine aA (AL n1 l2n ?_)
   show aT ax _ _ _ (ax ⟨6,la,⟨6,ky,va,ta⟩,some c,n,lv,inc,0⟩ ⟨wNil,true⟩)
   rw [Vz]
   exact bq rfl (.inl ⟨rfl,.inr (.inl ⟨(by rw [hat];intro e;cases e),rfl,A8 (h':=h'.del n.slot) hi2 (fun y hy y1 yl=>⟨⟨fr y hy,yl⟩,fun f=>rfl⟩) rfl⟩)⟩)
end
end Go.Proofs.YtadmfaohjnjajaaGreatDoor
