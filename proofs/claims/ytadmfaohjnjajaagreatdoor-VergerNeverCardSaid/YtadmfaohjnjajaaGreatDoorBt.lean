import Derived.Test.YtadmfaohjnjajaaGreatDoorBm
set_option linter.unusedVariables false
set_option linter.unusedSimpArgs false
set_option maxHeartbeats 4000000
namespace Go.Proofs.YtadmfaohjnjajaaGreatDoor
section
open Go Go.Sx Go.Proofs AH
set_option maxRecDepth 100000
def unm (w:W):W:=⟨w.slot,w.gen,w.tag,w.num,false⟩
def SkD (h:AH) (f:Int) (y:Sn):W->List Sn->Prop
 | w,[]=>w.slot=0 /\ w.mark=false
 | w,x::l=>w.slot=x.s /\ w.gen=x.g /\ w.mark=false /\ 1<=x.s /\ h.lv x.s x.g /\ (h.cl x.s 0).num=x.k /\ if x.s=y.s then(h.cl x.s f).mark=true /\ lj h f (unm (h.cl x.s f)) l else SkD h f y (h.cl x.s f) l
theorem Cp {h:AH} {f:Int} {y:Sn} {l:List Sn} {w:W} (hl:SkD h f y w l):w.mark=false:=by
 cases l with
 | nil=>exact hl.2
 | cons x l=>exact hl.2.2.1
section
variable {Q:ClimbM->AH->Prop} {K:Nat} {h:AH} {la:Cl} {bd lv:Int} {sp:S3} {fd:W} {y:Sn}
theorem G7 (l0:0<=lv) (l2:lv<=2):∀{l:List Sn} {x:Sn} {pv:Ad} {cu nx:W} {k:Int},SkD h (2+lv) y cu (x::l)->h.valid pv->h.rd pv=cu->Sst (x::l)->y∈x::l->(∀z∈x::l,z.s=y.s->z=y)->bd=y.k+1->pv.s ∉ (x::l).map Sn.s->((x::l).map Sn.s).Nodup ->
 (∀pc p c c0 k0 nx k,cH h (2+lv) y.k pv (x::l) p c0 k0->c=(h.wr p (wTo c0 (h.cl y.s (2+lv)))).rd p->ct Q K (h.wr p (wTo c0 (h.cl y.s (2+lv)))) (iq ⟨pc,la,p,c,bd,lv,nx,k,sp,fd⟩)) ->
 ct Q (6 * (l.length+1)+8+K) h ((aS (af cu (2+lv)) (3 * lv),true),⟨3,la,pv,cu,bd,lv,nx,k,sp,fd⟩)
 | l,x,pv,cu,nx,k,⟨a,b,m,c,d,e0,f⟩,hv,hr,hs,hy,hyu,hbd,hps,hnd,hK=>by
   have cu1:1<=cu.slot:=by omega
   have cul:h.lv cu.slot cu.gen:=by rw [a,b];exact d
   rw [show 6 * (l.length+1)+8+K=(6 * l.length+10+K)+1+1+1+1 by omega]
   have n2:h.rd (af cu (2+lv))=h.cl x.s (2+lv):=by rw [bQ cu1,a]
   have n0:(h.rd (af cu 0)).num=x.k:=by rw [bQ cu1,a];exact e0
   have ea:af cu (2+lv)=x.adr (2+lv):=by unfold af Sn.adr;rw [a,b]
   refine cG rfl (dy (aE cu1 cul (by omega) (by omega)) ?_)
   rw [n2]
   show ct Q _ h (ao ⟨3,la,pv,cu,bd,lv,nx,k,sp,fd⟩ ⟨h.cl x.s (2+lv),true⟩)
   rw [Xw]
   refine cG rfl (bI (aE cu1 cul (by decide) (by decide)) ?_)
   show ct Q _ h (ao ⟨4,la,pv,cu,bd,lv,h.cl x.s (2+lv),k,sp,fd⟩ ⟨h.rd (af cu 0),true⟩)
   rw [Xv]
   refine cG rfl (bI hv ?_)
   show ct Q _ h (ao ⟨5,la,pv,cu,bd,lv,h.cl x.s (2+lv),(h.rd (af cu 0)).num,sp,fd⟩ ⟨h.rd pv,true⟩)
   rw [hr,n0]
   have hs0:=hs
   unfold Sst at hs
   rw [List.pairwise_cons] at hs
   rw [List.map_cons,List.mem_cons,not_or] at hps
   rw [List.map_cons,List.nodup_cons] at hnd
   by_cases hxy:x.s=y.s
   ·have exy:=hyu x List.mem_cons_self hxy
    subst exy
    rw [if_pos rfl] at f
    obtain⟨fm,fl⟩:=f
    have hpost:cH h (2+lv) x.k pv (x::l) pv cu x.k:=by unfold cH;rw [if_pos (Int.le_refl _)];exact⟨rfl,hr.symm,rfl⟩
    rw [Xt fm]
    refine cG rfl (dH hv hr ?_)
    generalize en:h.cl x.s (2+lv)=w2 at *
    show ct Q _ (h.wr pv (wTo cu w2)) (ao ⟨6,la,pv,cu,bd,lv,w2,x.k,sp,fd⟩ ⟨cu,true⟩)
    rw [Yi]
    have rp:(h.wr pv (wTo cu w2)).rd pv=wTo cu w2:=by rw [gP,if_pos ⟨rfl,rfl⟩]
    unfold onC
    dsimp only
    cases l with
    | nil =>
      rw [fK (show (wTo cu w2).slot=0 from fl.1)]
      exact bD (fun _ _ h=>h) (by omega:K<=_) (hK _ _ _ _ _ _ _ hpost rp.symm)
    | cons z l =>
      rw [dz (by have:=fl.1;have:=fl.2.2.2.1;show 1<=w2.slot;have:w2.slot=z.s:=fl.1;omega)]
      have hl':lj (h.wr pv (wTo cu w2)) (2+lv) (wTo cu w2) (z::l):=by
       refine cX (oW fl rfl rfl rfl) fun u hu u1 ul=>⟨by rw [bJ];exact ul,?_,?_⟩
       all_goals
        have hne:u.s≠pv.s:=fun e=>hps.2 (e▸List.mem_map_of_mem (f:=Sn.s) hu)
        unfold wr
        split
        ·rfl
        ·show (if u.s=_ /\ _ then _ else _)=_
         rw [if_neg fun e=>hne e.1]
      refine bD (fun _ _ h=>h) (by rw [List.length_cons];omega:(6 * (l.length+1)+K)+1<=_) (cG rfl (g8 ?_))
      show ct Q _ (h.wr pv (wTo cu w2)) (ao ⟨8,la,pv,wTo cu w2,bd,lv,w2,x.k,sp,fd⟩ ⟨wNil,true⟩)
      rw [Ua]
      refine EU l0 l2 hl' (qS.2 hv) rp fun pc p c nx k hp=>?_
      have hz:=hs.1 z List.mem_cons_self
      unfold cH at hp
      rw [if_pos (by omega)] at hp
      obtain⟨rfl,p2,_⟩:=hp
      exact hK _ _ _ _ _ _ _ hpost p2
   ·rw [if_neg hxy] at f
    have hyl:y∈l:=by
     rcases List.mem_cons.1 hy with e | hy
     ·exact absurd (congrArg Sn.s e.symm) hxy
     ·exact hy
    have hk:x.k < y.k:=hs.1 y hyl
    generalize en:h.cl x.s (2+lv)=w2 at *
    rw [Xu (Cp f),decide_eq_false (by omega:¬x.k>=bd)]
    refine cG rfl (g8 ?_)
    show ct Q (6 * l.length+10+K) h (ao ⟨7,la,af cu (2+lv),cu,bd,lv,w2,x.k,sp,fd⟩ ⟨wNil,true⟩)
    rw [Xs,ea]
    unfold onC
    dsimp only
    cases l with
    | nil=>cases hyl
    | cons z l =>
      rw [dz (by have:=f.1;have:=f.2.2.2.1;omega)]
      refine bD (fun _ _ h=>h) (by rw [List.length_cons];omega:(6 * (l.length+1)+8+K)+1<=_) (cG rfl (g8 ?_))
      show ct Q _ h (ao ⟨8,la,x.adr (2+lv),w2,bd,lv,w2,x.k,sp,fd⟩ ⟨wNil,true⟩)
      rw [Ua]
      refine G7 l0 l2 f (.inr ⟨c,d,by show 0<=2+lv;omega,by show 2+lv < 8;omega⟩) (by rw [<- ea];exact n2) hs.2 hyl (fun u hu=>hyu u (List.mem_cons_of_mem _ hu)) hbd hnd.1 hnd.2 fun pc p c c0 k0 nx k hp hc=>hK pc p c c0 k0 nx k ?_ hc
      ·unfold cH;rw [if_neg (by omega)];exact hp
end
end
section
open Go Go.Sx Go.Proofs AH
set_option maxRecDepth 100000
section
variable {Q:ClimbM->AH->Prop} {K:Nat} {h:AH} {la:Cl} {bd lv:Int} {sp:S3} {fd:W} {y:Sn}
theorem M7 (l0:0<=lv) (l2:lv<=2) {l:List Sn} {pv:Ad} {cu nx:W} {k i:Int} (hv:h.valid pv) (hl:SkD h (2+lv) y (h.rd pv) l) (hs:Sst l) (hy:y∈l) (hyu:∀z∈l,z.s=y.s->z=y) (hbd:bd=y.k+1) (hps:pv.s ∉ l.map Sn.s) (hnd:(l.map Sn.s).Nodup)
 (hK:∀pc p c c0 k0 nx k,cH h (2+lv) y.k pv l p c0 k0->c=(h.wr p (wTo c0 (h.cl y.s (2+lv)))).rd p->ct Q K (h.wr p (wTo c0 (h.cl y.s (2+lv)))) (iq ⟨pc,la,p,c,bd,lv,nx,k,sp,fd⟩)):ct Q (6 * l.length+9+K) h ((aS pv i,true),⟨2,la,pv,cu,bd,lv,nx,k,sp,fd⟩):=by
 rw [show 6 * l.length+9+K=(6 * l.length+8+K)+1 by omega]
 refine cG rfl (dy hv ?_)
 show ct Q _ h (ao ⟨2,la,pv,cu,bd,lv,nx,k,sp,fd⟩ ⟨h.rd pv,true⟩)
 rw [Xx (Cp hl)]
 cases l with
 | nil=>cases hy
 | cons z l =>
   rw [dz (by have:=hl.1;have:=hl.2.2.2.1;omega)]
   exact G7 l0 l2 hl hv rfl hs hy hyu hbd hps hnd hK
end
theorem VV {h h':AH} {y:Sn} {f:Int} {p:Ad} {c:W} {k:Int} (to:(h'.rd p).slot=(h.cl y.s f).slot /\ (h'.rd p).gen=(h.cl y.s f).gen /\ (h'.rd p).mark=false) (hlv:∀s g,s≠y.s->h.lv s g->h'.lv s g) (h0:∀s,1<=s->s≠y.s->h'.cl s 0=h.cl s 0) (hf:∀s,1<=s->s≠y.s->¬(s=p.s /\ f=p.f)->h'.cl s f=h.cl s f) :
 ∀{l:List Sn} {a:Ad},(¬(a.s=p.s /\ a.f=p.f)->h'.rd a=h.rd a)->SkD h f y (h.rd a) l->Sst l->y∈l->(∀z∈l,z.s=y.s->z=y)->cH h f y.k a l p c k->a.s ∉ l.map Sn.s->(l.map Sn.s).Nodup->lj h' f (h'.rd a) (mK y.k l)
 | [],a,ha,hl,hs,hy,hyu,hw,has,hd=>by cases hy
 | x::l,a,ha,hl,hs,hy,hyu,hw,has,hd=>by
   obtain⟨q1,q2,m,cc,d,e0,fo⟩:=hl
   unfold Sst at hs
   rw [List.pairwise_cons] at hs
   rw [List.map_cons,List.mem_cons,not_or] at has
   rw [List.map_cons,List.nodup_cons] at hd
   unfold cH at hw
   rw [show mK y.k (x::l)=if y.k<=x.k then l else x::mK y.k l from rfl]
   by_cases hxy:x.s=y.s
   ·have exy:=hyu x List.mem_cons_self hxy
    subst exy
    rw [if_pos (Int.le_refl _)] at hw ⊢
    rw [if_pos rfl] at fo
    obtain⟨w1,w2,w3⟩:=hw
    rw [w1] at to
    refine cX (oW fo.2 to.1 to.2.1 to.2.2) fun u hu u1 ul=>?_
    have hux:u.s≠x.s:=fun e=>hd.1 (e▸List.mem_map_of_mem (f:=Sn.s) hu)
    have hua:u.s≠a.s:=fun e=>has.2 (e▸List.mem_map_of_mem (f:=Sn.s) hu)
    exact⟨hlv _ _ hux ul,h0 _ u1 hux,hf _ u1 hux fun e=>hua (e.1.trans (congrArg Ad.s w1))⟩
   ·rw [if_neg hxy] at fo
    have hyl:y∈l:=by
     rcases List.mem_cons.1 hy with e | hy
     ·exact absurd (congrArg Sn.s e.symm) hxy
     ·exact hy
    have hk:=hs.1 y hyl
    rw [if_neg (by omega)] at hw ⊢
    have hp:p.s≠a.s:=by
     rcases (dD hw).1 with e | ⟨u,hu,_,e⟩
     ·rw [e];exact fun e=>has.1 e.symm
     ·rw [e];exact fun e=>has.2 (List.mem_map.2 ⟨u,hu,e⟩)
    rw [ha fun e=>hp e.1.symm]
    have rx:∀H:AH,H.rd (x.adr f)=H.cl x.s f:=fun H=>by unfold rd;rw [if_neg (by show ¬x.s=0;omega)];rfl
    refine⟨q1,q2,m,cc,hlv _ _ hxy d,by rw [h0 _ cc hxy];exact e0,?_⟩
    rw [<- rx] at fo ⊢
    exact VV to hlv h0 hf (fun e=>by rw [rx,rx];exact hf _ cc hxy e) fo hs.2 hyl (fun z hz=>hyu z (List.mem_cons_of_mem _ hz)) hw hd.1 hd.2
theorem sR {h h':AH} {f:Int} {y:Sn}:∀{l:List Sn} {w:W},SkD h f y w l->(∀x∈l,1<=x.s->h.lv x.s x.g->h'.lv x.s x.g /\ h'.cl x.s 0=h.cl x.s 0 /\ h'.cl x.s f=h.cl x.s f)->SkD h' f y w l
 | [],_,hp,_=>hp
 | x::l,w,⟨a,b,m,c,d,e0,fo⟩,hf=>by
   obtain⟨f1,f0,f3⟩:=hf x List.mem_cons_self c d
   refine⟨a,b,m,c,f1,by rw [f0];exact e0,?_⟩
   rw [f3]
   by_cases e:x.s=y.s
   ·rw [if_pos e] at fo ⊢
    exact⟨fo.1,cX fo.2 fun z hz=>hf z (List.mem_cons_of_mem _ hz)⟩
   ·rw [if_neg e] at fo ⊢
    exact sR fo fun z hz=>hf z (List.mem_cons_of_mem _ hz)
theorem Ge {h:AH} {f:Int} {y z:Sn} {B:List Sn}:∀{A:List Sn} {w:W},(∀u∈A++[z],u.s≠y.s)->SkD h f y w (A++z::B)->SkD h f y (h.cl z.s f) B /\ 1<=z.s /\ h.lv z.s z.g
 | [],w,hu,⟨a,b,m,c,d,e0,fo⟩=>by
   rw [if_neg (hu z (by simp))] at fo
   exact⟨fo,c,d⟩
 | x::A,w,hu,⟨a,b,m,c,d,e0,fo⟩=>by
   rw [if_neg (hu x (by simp))] at fo
   exact Ge (fun u h=>hu u (List.mem_cons_of_mem _ h)) fo
theorem Kq {h h':AH} {f:Int} {y:Sn}:∀{l:List Sn} {w:W},lj h f w l->(l.map Sn.s).Nodup->(∀x∈l,1<=x.s->h.lv x.s x.g->h'.lv x.s x.g /\ h'.cl x.s 0=h.cl x.s 0 /\ (x.s≠y.s->h'.cl x.s f=h.cl x.s f))->((h'.cl y.s f).mark=true /\ (h'.cl y.s f).slot=(h.cl y.s f).slot /\ (h'.cl y.s f).gen=(h.cl y.s f).gen)->SkD h' f y w l
 | [],_,hp,_,_,_=>hp
 | x::l,w,⟨a,b,m,c,d,e0,fo⟩,hn,hf,hy=>by
   rw [List.map_cons,List.nodup_cons] at hn
   obtain⟨f1,f0,f3⟩:=hf x List.mem_cons_self c d
   refine⟨a,b,m,c,f1,by rw [f0];exact e0,?_⟩
   by_cases e:x.s=y.s
   ·rw [if_pos e,e]
    rw [e] at fo
    refine⟨hy.1,cX (oW fo hy.2.1 hy.2.2 rfl) fun z hz z1 zl=>?_⟩
    obtain⟨g1,g0,g3⟩:=hf z (List.mem_cons_of_mem _ hz) z1 zl
    exact⟨g1,g0,g3 fun e2=>hn.1 (by rw [e,<- e2];exact List.mem_map_of_mem hz)⟩
   ·rw [if_neg e,f3 e]
    exact Kq fo hn.2 (fun z hz=>hf z (List.mem_cons_of_mem _ hz)) hy
end
section
open Go Go.Sx Go.Proofs AH
set_option maxRecDepth 100000
structure Mk (h hm:AH) (L:List Sn) (y:Sn):Prop where
 hi:SInv h L
 hy:y∈L
 lv:hm.lv=h.lv
 bd:hm.bd=h.bd
 cl:∀s f,¬(s=y.s /\ 2<=f /\ f < 2+y.t)->hm.cl s f=h.cl s f
 mr:∀j,0<=j->j < y.t->(hm.cl y.s (2+j)).mark=true /\ (hm.cl y.s (2+j)).slot=(h.cl y.s (2+j)).slot /\ (hm.cl y.s (2+j)).gen=(h.cl y.s (2+j)).gen
theorem l9 {h:AH} {L:List Sn} (hi:SInv h L) {y z:Sn} (hy:y∈L) (hz:z∈L) (e:z.s=y.s):z=y:=by
 have hn:=hi.nd
 obtain⟨A,B,rfl⟩:=List.append_of_mem hy
 rw [List.map_append,List.nodup_append,List.map_cons,List.nodup_cons] at hn
 obtain⟨n1,⟨n2,n3⟩,n4⟩:=hn
 rcases List.mem_append.1 hz with hz | hz
 ·exact absurd e (n4 _ (List.mem_map_of_mem hz) _ List.mem_cons_self)
 ·rcases List.mem_cons.1 hz with e2 | hz
  ·exact e2
  ·exact absurd (List.mem_map.2 ⟨z,hz,e⟩) n2
structure Dk (hm:AH) (L:List Sn) (y:Sn) (pm:Int->Ad) (cm:Int->W) (m:Int) (H:AH):Prop where
 lv:H.lv=hm.lv
 un:∀b:Ad,(∀j,m < j->j<=2->j < y.t->¬(b.s=(pm j).s /\ b.f=(pm j).f))->H.rd b=hm.rd b
 to:∀j,m < j->j<=2->j < y.t->H.rd (pm j)=wTo (cm j) (hm.cl y.s (2+j))
 sp:∀j,m < j->j<=2->j < y.t->∃k,cH hm (2+j) y.k (aC j) (lvl j L) (pm j) (cm j) k
section
variable {h hm:AH} {L:List Sn} {y:Sn}
theorem Br (M:Mk h hm L y) {m:Int} (m0:0<=m) (m2:m<=2) (mt:m < y.t):SkD hm (2+m) y (hm.bd m) (lvl m L):=by
 rw [M.bd]
 refine Kq (M.hi.at_ m m0 m2) ((List.filter_sublist.map Sn.s).nodup M.hi.nd) (fun x hx x1 xl=>⟨by rw [M.lv];exact xl,M.cl _ _ fun e=>by omega,fun hne=>M.cl _ _ fun e=>hne e.1⟩) (M.mr m m0 mt)
theorem xo (M:Mk h hm L y) {m:Int} (m0:0<=m) (m2:m<=2) (mt:¬m < y.t):lj hm (2+m) (hm.bd m) (lvl m L):=by
 rw [M.bd]
 exact cX (M.hi.at_ m m0 m2) fun x hx x1 xl=>⟨by rw [M.lv];exact xl,M.cl _ _ fun e=>by omega,M.cl _ _ fun e=>by omega⟩
theorem vl (M:Mk h hm L y) {j:Int} (j0:0<=j) (j2:j<=2) {p:Ad} (hp:p=aC j \/ ∃x∈lvl j L,x.k < y.k /\ p=x.adr (2+j)):(p.s=0 /\ p.f=j) \/ (1<=p.s /\ p.f=2+j):=by
 rcases hp with rfl | ⟨x,hx,_,rfl⟩
 ·exact .inl ⟨rfl,rfl⟩
 ·exact .inr ⟨(cC M.hi (cq.1 hx).1).1,rfl⟩
theorem G6 (M:Mk h hm L y) {pm:Int->Ad} {cm:Int->W} {m:Int} {H:AH} (D:Dk hm L y pm cm m H) (m0:0<=m):(∀s,1<=s->H.cl s 0=hm.cl s 0 /\ H.cl s (2+m)=hm.cl s (2+m) /\ H.cl s 1=hm.cl s 1) /\ H.bd m=hm.bd m:=by
 have ci:∀(K:AH) (s f:Int),1<=s->K.rd ⟨s,0,f⟩=K.cl s f:=fun K s f hs=>by unfold rd;rw [if_neg (by show ¬s=0;omega)]
 have sl:=fun j (h1:m < j) (h2:j<=2) (h3:j < y.t)=>vl M (by omega) h2 (by
  obtain⟨k,hp⟩:=D.sp j h1 h2 h3
  exact(dD hp).1)
 have go:∀s f,1<=s->f<=2+m->H.cl s f=hm.cl s f:=fun s f hs hf=>by
  rw [<- ci H s f hs,<- ci hm s f hs]
  refine D.un _ fun j h1 h2 h3=>?_
  rintro ⟨e1,e2⟩
  have e1:s=(pm j).s:=e1
  have e2:f=(pm j).f:=e2
  rcases sl j h1 h2 h3 with q | q<;>omega
 refine⟨fun s hs=>⟨go s 0 hs (by omega),go s _ hs (by omega),go s 1 hs (by omega)⟩,?_⟩
 have:=D.un (aC m) fun j h1 h2 h3=>by
  rintro ⟨e1,e2⟩
  have e1:(0:Int)=(pm j).s:=e1
  have e2:m=(pm j).f:=e2
  rcases sl j h1 h2 h3 with q | q<;>omega
 exact this
end
end
section
open Go Go.Sx Go.Proofs AH
set_option maxRecDepth 100000
theorem qI {h h':AH} {f bd:Int} {p:Ad} {c:W} {k:Int}:∀{l:List Sn} {a:Ad},h'.rd a=h.rd a->(∀x∈l,h'.rd (x.adr f)=h.rd (x.adr f))->cH h' f bd a l p c k->cH h f bd a l p c k
 | [],a,ha,_,hw=>⟨hw.1,hw.2.trans ha⟩
 | x::l,a,ha,hx,hw=>by
   unfold cH at hw ⊢
   split
   ·rename_i e;rw [if_pos e] at hw;exact⟨hw.1,hw.2.1.trans ha,hw.2.2⟩
   ·rename_i e;rw [if_neg e] at hw
    exact qI (hx x List.mem_cons_self) (fun z hz=>hx z (List.mem_cons_of_mem _ hz)) hw
theorem Gc:∀{L:List Sn} {x y:Sn},Sst L->x∈L->y∈L->x.k=y.k->x=y
 | z::L,x,y,hs,hx,hy,e=>by
   unfold Sst at hs
   rw [List.pairwise_cons] at hs
   rcases List.mem_cons.1 hx with e1 | h1<;>rcases List.mem_cons.1 hy with e2 | h2
   ·rw [e1,e2]
   ·have:=hs.1 y h2;rw [e1] at e;omega
   ·have:=hs.1 x h1;rw [e2] at e;omega
   ·exact Gc hs.2 h1 h2 e
structure DSt (H hm:AH) (L:List Sn) (y:Sn) (m:Int) (pv:Ad) (l:List Sn):Prop where
 va:H.valid pv
 dd:m < y.t->SkD H (2+m) y (H.rd pv) l /\ y∈l
 cc:¬m < y.t->lj H (2+m) (H.rd pv) l
 ln:l.length<=L.length
 ss:Sst l
 nd:(l.map Sn.s).Nodup
 ns:pv.s ∉ l.map Sn.s
 sb:∀x∈l,x∈lvl m L
 up:∀bd p c k,y.k<=bd->cH H (2+m) bd pv l p c k->cH hm (2+m) bd (aC m) (lvl m L) p c k
theorem T0 {h hm H:AH} {L:List Sn} {y:Sn} {pm:Int->Ad} {cm:Int->W} (M:Mk h hm L y) {m:Int} (m0:0<=m) (m2:m<=2) (D:Dk hm L y pm cm m H) {pv:Ad} {l:List Sn} (hs:Start y.k L m pv l):DSt H hm L y m pv l:=by
 obtain⟨dc,db⟩:=G6 M D m0
 have rx:∀{x:Sn},x∈L->∀K:AH,K.rd (x.adr (2+m))=K.cl x.s (2+m):=fun {x} hx K=>by
  have:=(cC M.hi hx).1
  unfold rd;rw [if_neg (by show ¬x.s=0;omega)];rfl
 have ex:∀x∈L,H.rd (x.adr (2+m))=hm.rd (x.adr (2+m)):=fun x hx=>by rw [rx hx,rx hx];exact(dc _ (cC M.hi hx).1).2.1
 have Ln:((lvl m L).map Sn.s).Nodup:=(List.filter_sublist.map Sn.s).nodup M.hi.nd
 have Ls:=Bv (m:=m) M.hi.sr
 have yl:m < y.t->y∈lvl m L:=fun h=>cq.2 ⟨M.hy,h⟩
 rcases hs with⟨rfl,rfl⟩ | ⟨x,A,e,rfl,hk⟩
 ·have eb:H.rd (aC m)=hm.bd m:=db
  refine⟨aY m0 (by omega),fun mt=>⟨?_,yl mt⟩,fun mt=>?_,vv,Ls,Ln,fun hx=>?_,fun x hx=>hx,fun bd p c k _ hp=>qI eb (fun x hx=>ex x (cq.1 hx).1) hp⟩
  ·rw [eb]
   exact sR (Br M m0 m2 mt) fun x hx x1 xl=>⟨by rw [D.lv];exact xl,(dc _ x1).1,(dc _ x1).2.1⟩
  ·rw [eb]
   exact cX (xo M m0 m2 mt) fun x hx x1 xl=>⟨by rw [D.lv];exact xl,(dc _ x1).1,(dc _ x1).2.1⟩
  ·obtain⟨z,hz,e⟩:=List.mem_map.1 hx
   have:=(cC M.hi (cq.1 hz).1).1
   have e:z.s=0:=e
   omega
 ·have hxL:x∈L:=(cq.1 (by rw [e];simp:x∈lvl m L)).1
  have hxy:x.s≠y.s:=fun e2=>by have:=l9 M.hi M.hy hxL e2;subst this;omega
  rw [e] at Ln Ls
  have Ls0:=Ls
  rw [List.map_append,List.nodup_append,List.map_cons,List.nodup_cons] at Ln
  obtain⟨n1,⟨n2,n3⟩,n4⟩:=Ln
  unfold Sst at Ls
  rw [List.pairwise_append,List.pairwise_cons] at Ls
  obtain⟨s1,⟨s2,s3⟩,s4⟩:=Ls
  have x1:=cC M.hi hxL
  have kJ:∀z∈l,z∈lvl m L:=fun z hz=>by rw [e];simp [hz]
  have ylt:m < y.t->y∈l:=fun mt=>by
   have:=yl mt
   rw [e] at this
   rcases List.mem_append.1 this with q | q
   ·have:=s4 y q x List.mem_cons_self;omega
   ·rcases List.mem_cons.1 q with q | q
    ·exact absurd (congrArg Sn.s q.symm) hxy
    ·exact q
  refine⟨.inr ⟨x1.1,by rw [D.lv,M.lv];exact x1.2,by show 0<=2+m;omega,by show 2+m < 8;omega⟩,fun mt=>⟨?_,ylt mt⟩,fun mt=>?_,?_,s3,n3,n2,kJ,fun bd p c k hb hp=>?_⟩
  ·rw [ex x hxL,rx hxL]
   have hd:=Br M m0 m2 mt
   rw [e] at hd
   refine sR (Ge (fun u hu e2=>?_) hd).1 fun z hz z1 zl=>⟨by rw [D.lv];exact zl,(dc _ z1).1,(dc _ z1).2.1⟩
   have huL:u∈L:=by
    rcases List.mem_append.1 hu with q | q
    ·exact(cq.1 (by rw [e];simp [q]:u∈lvl m L)).1
    ·rw [List.mem_singleton.1 q];exact hxL
   have huy:=l9 M.hi M.hy huL e2
   subst huy
   rcases List.mem_append.1 hu with q | q
   ·have:=s4 u q x List.mem_cons_self;omega
   ·exact hxy (congrArg Sn.s (List.mem_singleton.1 q).symm)
  ·rw [ex x hxL,rx hxL]
   have hd:=xo M m0 m2 mt
   rw [e] at hd
   exact cX (nP hd).1 fun z hz z1 zl=>⟨by rw [D.lv];exact zl,(dc _ z1).1,(dc _ z1).2.1⟩
  ·have:=vv (m:=m) (L:=L);rw [e,List.length_append,List.length_cons] at this;omega
  ·rw [e]
   exact ug (by omega) (qI (ex x hxL) (fun z hz=>ex z (cq.1 (kJ z hz)).1) hp) Ls0
end
section
open Go Go.Sx Go.Proofs AH
set_option maxRecDepth 100000
section
variable {h hm H:AH} {L:List Sn} {y:Sn} {pm:Int->Ad} {cm:Int->W}
theorem P3 {m:Int} (mt:¬m < y.t) (D:Dk hm L y pm cm m H):Dk hm L y pm cm (m - 1) H :=
 ⟨D.lv,fun b hb=>D.un b fun j h1 h2 h3=>hb j (by omega) h2 h3,fun j h1 h2 h3=>D.to j (by omega) h2 h3,fun j h1 h2 h3=>D.sp j (by omega) h2 h3⟩
theorem P2 (M:Mk h hm L y) {m:Int} (m0:0<=m) (m2:m<=2) (mt:m < y.t) (D:Dk hm L y pm cm m H) {p:Ad} {c0:W} {k0:Int} (hp:cH hm (2+m) y.k (aC m) (lvl m L) p c0 k0) :
 Dk hm L y (fun j=>if j=m then p else pm j) (fun j=>if j=m then c0 else cm j) (m - 1) (H.wr p (wTo c0 (H.cl y.s (2+m)))):=by
 have ey:=((G6 M D m0).1 _ (cC M.hi M.hy).1).2.1
 rw [ey]
 refine⟨by rw [bJ];exact D.lv,fun b hb=>?_,fun j h1 h2 h3=>?_,fun j h1 h2 h3=>?_⟩
 ·have hbm:=hb m (by omega) m2 mt
  rw [if_pos rfl] at hbm
  rw [gP,if_neg hbm]
  refine D.un b fun j h1 h2 h3=>?_
  have:=hb j (by omega) h2 h3
  rwa [if_neg (by omega)] at this
 ·by_cases e:j=m
  ·subst e
   rw [if_pos rfl,if_pos rfl,gP,if_pos ⟨rfl,rfl⟩]
  ·rw [if_neg e,if_neg e,gP,if_neg]
   ·exact D.to j (by omega) h2 h3
   ·obtain⟨k,hq⟩:=D.sp j (by omega) h2 h3
    have s1:=vl M m0 m2 (dD hp).1
    have s2:=vl M (by omega) h2 (dD hq).1
    omega
 ·by_cases e:j=m
  ·subst e
   rw [if_pos rfl,if_pos rfl];exact⟨k0,hp⟩
  ·rw [if_neg e,if_neg e];exact D.sp j (by omega) h2 h3
def QF (hm:AH) (L:List Sn) (y:Sn) (c:ClimbM) (H:AH):Prop:=∃pm cm,Dk hm L y pm cm (-1) H
theorem T2 (M:Mk h hm L y) {m:Int} (m0:0<=m) (m2:m<=2) (D:Dk hm L y pm cm m H) {pv:Ad} {l:List Sn} (hs:Start y.k L m pv l) {bd:Int} (hbd:bd=y.k+1) {la:Cl} {cu nx fd:W} {k i:Int} {sp:S3} {Q:ClimbM->AH->Prop} {K:Nat}
 (hK:∀pc p c nx k pm' cm' H',Dk hm L y pm' cm' (m - 1) H'->(p=aC m \/ ∃x∈lvl m L,x.k < y.k /\ p=x.adr (2+m))->ct Q K H' (iq ⟨pc,la,p,c,bd,m,nx,k,sp,fd⟩)) :
 ct Q (6 * L.length+9+K) H ((aS pv i,true),⟨2,la,pv,cu,bd,m,nx,k,sp,fd⟩):=by
 have S:=T0 M m0 m2 D hs
 have ln:=S.ln
 by_cases mt:m < y.t
 ·obtain⟨d1,d2⟩:=S.dd mt
  refine bD (fun _ _ h=>h) (by omega:6 * l.length+9+K<=_) (M7 m0 m2 S.va d1 S.ss d2 (fun z hz e=>l9 M.hi M.hy (cq.1 (S.sb z hz)).1 e) hbd S.ns S.nd fun pc p c c0 k0 nx k hp hc=>?_)
  have hp:=S.up _ _ _ _ (Int.le_refl _) hp
  exact hK _ _ _ _ _ _ _ _ (P2 M m0 m2 mt D hp) (dD hp).1
 ·refine bD (fun _ _ h=>h) (by omega:6 * l.length+1+K<=_) (vz m0 m2 S.va (S.cc mt) fun pc p c nx k hp=>?_)
  have hp:=S.up _ _ _ _ (by omega) hp
  refine hK _ _ _ _ _ _ _ _ (P3 mt D) ?_
  rcases (dD hp).1 with e | ⟨x,hx,hxk,e⟩
  ·exact .inl e
  ·refine .inr ⟨x,hx,?_,e⟩
   have hne:x.k≠y.k:=fun e2=>by
    have:=Gc M.hi.sr (cq.1 hx).1 M.hy e2
    subst this
    exact mt (cq.1 hx).2
   omega
theorem uN (M:Mk h hm L y) {m:Int} (m0:0<=m) (m2:m < 2) {p:Ad} (hp:p=aC (m+1) \/ ∃x∈lvl (m+1) L,x.k < y.k /\ p=x.adr (2+(m+1))):(p.s=0 /\ Start y.k L m (aC m) (lvl m L)) \/ (1<=p.s /\ ∃l,Start y.k L m {p with f:=2+m} l):=by
 rcases hp with rfl | ⟨x,hx,hk,rfl⟩
 ·exact .inl ⟨rfl,.inl ⟨rfl,rfl⟩⟩
 ·obtain⟨x1,x2⟩:=cq.1 hx
  obtain⟨A,B,e⟩:=List.append_of_mem (cq.2 ⟨x1,(by omega:m < x.t)⟩)
  exact .inr ⟨(cC M.hi x1).1,B,.inr ⟨x,A,e,rfl,hk⟩⟩
variable {pv:Ad} {l:List Sn} {bd:Int} {la:Cl} {cu nx fd:W} {k i:Int} {sp:S3}
theorem V6 {p:Ad} (e:1<=p.s):(p.s==0)=false:=by
 cases hb:p.s==0 with
 | false=>rfl
 | true=>have:=eqI hb;omega
theorem RI (M:Mk h hm L y) (D:Dk hm L y pm cm 0 H) (hs:Start y.k L 0 pv l) (hbd:bd=y.k+1):ct (QF hm L y) (6 * L.length+10) H ((aS pv i,true),⟨2,la,pv,cu,bd,0,nx,k,sp,fd⟩):=by
 refine T2 (K:=1) M (by decide) (by decide) D hs hbd fun pc p c nx k pm' cm' H' D' _=>?_
 unfold iq
 dsimp only
 rw [if_pos rfl]
 cases eB (!(c.slot==0)) (k==bd)<;>exact qJ rfl ⟨pm',cm',D'⟩
theorem RH (M:Mk h hm L y) (D:Dk hm L y pm cm 1 H) (hs:Start y.k L 1 pv l) (hbd:bd=y.k+1):ct (QF hm L y) (12 * L.length+20) H ((aS pv i,true),⟨2,la,pv,cu,bd,1,nx,k,sp,fd⟩):=by
 refine bD (fun _ _ h=>h) (by omega:6 * L.length+9+(6 * L.length+10+1)<=_) (T2 M (by decide) (by decide) D hs hbd fun pc p c nx k pm' cm' H' D' hp=>?_)
 unfold iq
 dsimp only
 rw [if_neg (by decide)]
 rcases uN (m:=0) M (by decide) (by decide) hp with⟨e,hn⟩ | ⟨e,l',hn⟩
 ·rw [e]
  exact bD (fun _ _ h=>h) (by omega:6 * L.length+10<=_) (RI M D' hn hbd)
 ·rw [V6 e]
  refine cG rfl (g8 ?_)
  exact RI M D' hn hbd
theorem Xq (M:Mk h hm L y) (D:Dk hm L y pm cm 2 H) (hs:Start y.k L 2 pv l) (hbd:bd=y.k+1):ct (QF hm L y) (18 * L.length+30) H ((aS pv i,true),⟨2,la,pv,cu,bd,2,nx,k,sp,fd⟩):=by
 refine bD (fun _ _ h=>h) (by omega:6 * L.length+9+(12 * L.length+20+1)<=_) (T2 M (by decide) (by decide) D hs hbd fun pc p c nx k pm' cm' H' D' hp=>?_)
 unfold iq
 dsimp only
 rw [if_neg (by decide)]
 rcases uN (m:=1) M (by decide) (by decide) hp with⟨e,hn⟩ | ⟨e,l',hn⟩
 ·rw [e]
  exact bD (fun _ _ h=>h) (by omega:12 * L.length+20<=_) (RH M D' hn hbd)
 ·rw [V6 e]
  refine cG rfl (g8 ?_)
  exact RH M D' hn hbd
theorem T6 (M:Mk h hm L y) (hbd:bd=y.k+1) (x:Rp1):ct (QF hm L y) (18 * L.length+30) hm (ao (cE bd) x) :=
 Xq (pm:=fun _=>dX) (cm:=fun _=>wNil) M ⟨rfl,fun _ _=>rfl,fun j h1 h2 _=>by omega,fun j h1 h2 _=>by omega⟩ (.inl ⟨rfl,rfl⟩) hbd
end
end
section
open Go Go.Sx Go.Proofs AH
set_option maxRecDepth 100000
theorem GG {m:Int} {y:Sn}:∀{l:List Sn},Sst l->y∈l->lvl m (mK y.k l)=if m < y.t then mK y.k (lvl m l) else lvl m l
 | x::l,hs,hy=>by
   have hs0:=hs
   unfold Sst at hs
   rw [List.pairwise_cons] at hs
   rw [show mK y.k (x::l)=if y.k<=x.k then l else x::mK y.k l from rfl]
   have lc:∀r:List Sn,lvl m (x::r)=if m < x.t then x::lvl m r else lvl m r:=fun r=>by
    unfold lvl
    rw [List.filter_cons]
    by_cases h:m < x.t
    ·rw [if_pos h,if_pos (decide_eq_true h)]
    ·rw [if_neg h,if_neg (by simpa using h)]
   by_cases hk:y.k<=x.k
   ·rw [if_pos hk]
    have e:x=y:=by
     rcases List.mem_cons.1 hy with e | h
     ·exact e.symm
     ·have:=hs.1 y h;omega
    subst e
    rw [lc]
    by_cases h:m < x.t
    ·rw [if_pos h,if_pos h]
     show _=if x.k<=x.k then lvl m l else _
     rw [if_pos (Int.le_refl _)]
    ·rw [if_neg h,if_neg h]
   ·rw [if_neg hk]
    have hyl:y∈l:=by
     rcases List.mem_cons.1 hy with e | h
     ·subst e;exact absurd (Int.le_refl _) hk
     ·exact h
    rw [lc,lc,GG hs.2 hyl]
    by_cases h:m < x.t
    ·rw [if_pos h,if_pos h]
     split
     ·show _=if y.k<=x.k then _ else x::mK y.k (lvl m l)
      rw [if_neg hk]
     ·rfl
    ·rw [if_neg h,if_neg h]
theorem Ku {h hm H:AH} {L:List Sn} {y:Sn} {pm:Int->Ad} {cm:Int->W} (M:Mk h hm L y) (D:Dk hm L y pm cm (-1) H):SInv H (mK y.k L) /\ H.lv=h.lv /\ H.cl y.s 7=h.cl y.s 7:=by
 have ci:∀(K:AH) (s f:Int),1<=s->K.rd ⟨s,0,f⟩=K.cl s f:=fun K s f hs=>by unfold rd;rw [if_neg (by show ¬s=0;omega)]
 have sl:=fun j (h1:-1 < j) (h2:j<=2) (h3:j < y.t)=>vl M (by omega) h2 (by
  obtain⟨k,hp⟩:=D.sp j h1 h2 h3
  exact(dD hp).1)
 have cell:∀s f,1<=s->(∀j,-1 < j->j<=2->j < y.t->f=2+j->s≠(pm j).s)->H.cl s f=hm.cl s f:=fun s f hs hf=>by
  rw [<- ci H s f hs,<- ci hm s f hs]
  refine D.un _ fun j h1 h2 h3=>?_
  rintro ⟨e1,e2⟩
  have e1:s=(pm j).s:=e1
  have e2:f=(pm j).f:=e2
  rcases sl j h1 h2 h3 with q | q
  ·omega
  ·exact hf j h1 h2 h3 (by omega) e1
 have root:∀m,0<=m->(∀j,-1 < j->j<=2->j < y.t->j=m->¬(0=(pm j).s))->H.rd (aC m)=hm.rd (aC m):=fun m m0 hr=>by
  refine D.un _ fun j h1 h2 h3=>?_
  rintro ⟨e1,e2⟩
  have e1:(0:Int)=(pm j).s:=e1
  have e2:m=(pm j).f:=e2
  rcases sl j h1 h2 h3 with q | q
  ·exact hr j h1 h2 h3 (by omega) e1
  ·omega
 have y1:=cC M.hi M.hy
 refine⟨⟨fun m m0 m2=>?_,(remS_sub.map Sn.s).nodup M.hi.nd,List.Pairwise.sublist remS_sub M.hi.sr,fun x hx=>?_,fun x hx=>M.hi.rg x (remS_sub.subset hx)⟩,D.lv.trans M.lv,?_⟩
 ·rw [GG M.hi.sr M.hy]
  by_cases mt:m < y.t
  ·rw [if_pos mt]
   obtain⟨k,hp⟩:=D.sp m (by omega) m2 mt
   have hto:=D.to m (by omega) m2 mt
   refine VV (h:=hm) (a:=aC m) (p:=pm m) (c:=cm m) (k:=k) (by rw [hto];exact⟨rfl,rfl,rfl⟩) (fun s g _ hg=>by rw [D.lv];exact hg) (fun s hs _=>cell s 0 hs fun j h1 _ _ e=>by omega) (fun s hs _ hne=>cell s _ hs fun j h1 h2 h3 e es=>?_) (fun hne=>root m m0 fun j h1 h2 h3 e es=>?_) (Br M m0 m2 mt) (Bv M.hi.sr) (cq.2 ⟨M.hy,mt⟩) (fun z hz e=>l9 M.hi M.hy (cq.1 hz).1 e) hp (fun hx=>?_) ((List.filter_sublist.map Sn.s).nodup M.hi.nd)
   ·have e:j=m:=by omega
    subst e
    rcases sl j h1 h2 h3 with q | q
    ·omega
    ·exact hne ⟨es,q.2.symm⟩
   ·subst e
    rcases sl j h1 h2 h3 with q | q
    ·exact hne ⟨es,q.2.symm⟩
    ·omega
   ·obtain⟨z,hz,e⟩:=List.mem_map.1 hx
    have:=(cC M.hi (cq.1 hz).1).1
    have e:z.s=0:=e
    omega
  ·rw [if_neg mt]
   have hr:H.bd m=hm.bd m:=root m m0 fun j h1 h2 h3 e=>absurd (e▸h3) mt
   rw [hr]
   exact cX (xo M m0 m2 mt) fun x hx x1 xl=>⟨by rw [D.lv];exact xl,cell _ _ x1 fun j h1 _ _ e=>by omega,cell _ _ x1 fun j h1 h2 h3 e=>by omega⟩
 ·have hxL:=remS_sub.subset hx
  obtain⟨x1,xl⟩:=cC M.hi hxL
  have t3:=(M.hi.da y M.hy).2.2.2.2
  rw [cell _ 1 x1 fun j h1 _ _ e=>by omega,cell _ 6 x1 fun j h1 h2 _ e=>by omega,cell _ 7 x1 fun j h1 h2 _ e=>by omega,M.cl _ _ fun e=>by omega,M.cl _ _ fun e=>by omega,M.cl _ _ fun e=>by omega]
  exact M.hi.da x hxL
 ·have t3:=(M.hi.da y M.hy).2.2.2.2
  rw [cell _ 7 y1.1 fun j h1 h2 _ e=>by omega,M.cl _ _ fun e=>by omega]
end
section
open Go Go.Sx Go.Proofs AH
set_option maxRecDepth 100000
theorem Gp {key:Int} {y:Sn}:∀{l:List Sn},Sst l->y∈l->y.k=key->∀x∈mK key l,x.k≠key
 | z::l,hs,hy,hk,x,hx=>by
   unfold Sst at hs
   rw [List.pairwise_cons] at hs
   rw [show mK key (z::l)=if key<=z.k then l else z::mK key l from rfl] at hx
   by_cases h:key<=z.k
   ·rw [if_pos h] at hx
    have:=hs.1 x hx;omega
   ·rw [if_neg h] at hx
    rcases List.mem_cons.1 hx with e | hx
    ·subst e;omega
    ·rcases List.mem_cons.1 hy with e | hy
     ·subst e;omega
     ·exact Gp hs.2 hy hk x hx
section
variable {h:AH} {L:List Sn} {y:Sn} {ky va ta:Int} {la:Cl} {inc:Int}
theorem P4 {hm:AH} (M:Mk h hm L y) (hky:y.k=ky) (k0:0<=ky) (k1:ky < 256) (hat:SAt ky L=some y) {cb:Option ClimbM} {lv:Int} (x:Rp1):aT ax (DP L ⟨7,ky,va,ta⟩) (36 * L.length+50) hm (ax ⟨6,la,⟨7,ky,va,ta⟩,some (cE (bH ky)),⟨y.s,y.g,0,0,false⟩,lv,inc,y.v⟩ x):=by
 have ew:bH ky=ky+1:=jl (by omega)
 refine aP (fun _ _ h=>h) (by omega:(18 * L.length+30)+(18 * L.length+20)<=_) (mC (J:=fun c=>⟨6,la,⟨7,ky,va,ta⟩,some c,⟨y.s,y.g,0,0,false⟩,lv,inc,y.v⟩) (co:=fun c=>Ek 2 ⟨6,la,⟨7,ky,va,ta⟩,some c,⟨y.s,y.g,0,0,false⟩,lv,inc,y.v⟩) Vp (fun c H hq=>?_) (T6 M (by rw [ew,hky]) x))
 obtain⟨pm,cm,D⟩:=hq
 obtain⟨hS,hlv,h7⟩:=Ku M D
 obtain⟨y1,yl⟩:=cC M.hi M.hy
 have yl':H.lv y.s y.g:=by rw [hlv];exact yl
 refine aA (bI (aE (w:=⟨y.s,y.g,0,0,false⟩) y1 yl' (by decide) (by decide)) ?_)
 show aT ax _ _ H (ax ⟨101,la,⟨7,ky,va,ta⟩,some c,⟨y.s,y.g,0,0,false⟩,lv,2,y.v⟩ ⟨H.rd (af ⟨y.s,y.g,0,0,false⟩ 7),true⟩)
 rw [bQ y1,Kf]
 have hz:((H.cl y.s 7).num==0)=false:=by
  cases hb:(H.cl y.s 7).num==0 with
  | false=>rfl
  | true=>exact absurd (eqI hb) (by rw [h7];exact(M.hi.da y M.hy).2.2.1)
 rw [show ((H.cl (⟨y.s,y.g,0,0,false⟩:W).slot 7).num==0)=false from hz]
 have hlen:(mK y.k L).length<=L.length:=remS_sub.length_le
 refine aP (fun _ _ h=>h) (by omega:(18 * (mK y.k L).length+10)+5<=_) (mC (J:=fun c=>⟨103,la,⟨7,ky,va,ta⟩,some c,⟨y.s,y.g,0,0,false⟩,lv,2,y.v⟩) (co:=fun c=>Kg ⟨103,la,⟨7,ky,va,ta⟩,some c,⟨y.s,y.g,0,0,false⟩,lv,2,y.v⟩) Sy (fun c H' hq=>?_) (pA hS _))
 obtain⟨rfl,_⟩:=hq
 refine aA (oP (w:=⟨y.s,y.g,0,0,false⟩) y1 yl' ?_)
 show aT ax _ _ _ (ax ⟨104,la,⟨7,ky,va,ta⟩,some c,⟨y.s,y.g,0,0,false⟩,lv,2,y.v⟩ ⟨wNil,true⟩)
 rw [Sw]
 refine bq rfl (.inr (.inr ⟨y,hat,rfl,.inl ⟨rfl,?_⟩⟩))
 show SInv (H'.del y.s) (mK ky L)
 rw [<- hky]
 refine A8 (h':=H'.del y.s) hS (fun x hx x1 xl=>⟨⟨fun e=>?_,xl⟩,fun f=>rfl⟩) rfl
 have:=l9 M.hi M.hy (remS_sub.subset hx) e
 subst this
 exact Gp M.hi.sr M.hy rfl _ hx rfl
end
end
section
open Go Go.Sx Go.Proofs AH
set_option maxRecDepth 100000
structure Gk (h G:AH) (y:Sn) (q:Int):Prop where
 lv:G.lv=h.lv
 bd:G.bd=h.bd
 cl:∀s f,¬(s=y.s /\ 2+q < f /\ f < 2+y.t)->G.cl s f=h.cl s f
 mr:∀j,q < j->j < y.t->(G.cl y.s (2+j)).mark=true /\ (G.cl y.s (2+j)).slot=(h.cl y.s (2+j)).slot /\ (G.cl y.s (2+j)).gen=(h.cl y.s (2+j)).gen
section
variable {h:AH} {L:List Sn} {y:Sn} {ky va ta:Int} {la:Cl} {inc:Int}
theorem zE (hi:SInv h L) (hy:y∈L) (hky:y.k=ky) (k0:0<=ky) (k1:ky < 256) (hat:SAt ky L=some y) {cb:Option ClimbM}:∀(d:Nat) {q:Int} {G:AH},q=d->q < y.t->Gk h G y q ->
 aT ax (DP L ⟨7,ky,va,ta⟩) (36 * L.length+52+2 * d) G (aM (af ⟨y.s,y.g,0,0,false⟩ (2+q)),⟨4,la,⟨7,ky,va,ta⟩,cb,⟨y.s,y.g,0,0,false⟩,q,inc,y.v⟩)
 | d,q,G,hd,hlt,g=>by
   obtain⟨y1,yl⟩:=cC hi hy
   have t3:=(hi.da y hy).2.2.2.2
   have yl':G.lv y.s y.g:=by rw [g.lv];exact yl
   have ym:y∈lvl q L:=cq.2 ⟨hy,hlt⟩
   have em:(h.cl y.s (2+q)).mark=false:=by
    have h1:=hi.at_ q (by omega) (by omega)
    obtain⟨A,B,e⟩:=List.append_of_mem ym
    rw [e] at h1
    exact sS (nP h1).1
   have eg:G.cl y.s (2+q)=h.cl y.s (2+q):=g.cl _ _ fun e=>by omega
   refine aP (fun _ _ h=>h) (by omega:(36 * L.length+50+2 * d)+1+1<=_) (aA (bI (aE (w:=⟨y.s,y.g,0,0,false⟩) y1 yl' (by omega) (by omega)) ?_))
   show aT ax _ _ G (ax ⟨4,la,⟨7,ky,va,ta⟩,cb,⟨y.s,y.g,0,0,false⟩,q,inc,y.v⟩ ⟨G.rd (af ⟨y.s,y.g,0,0,false⟩ (2+q)),true⟩)
   rw [bQ y1,show G.cl (⟨y.s,y.g,0,0,false⟩:W).slot (2+q)=h.cl y.s (2+q) from eg,Vr _ em,w2 (by omega) (by omega)]
   refine aA (dH (aE (w:=⟨y.s,y.g,0,0,false⟩) y1 yl' (by omega) (by omega)) (by rw [bQ y1];exact eg) ?_)
   show aT ax _ _ _ (ax ⟨5,la,⟨7,ky,va,ta⟩,cb,⟨y.s,y.g,0,0,false⟩,q,inc,y.v⟩ ⟨h.cl y.s (2+q),true⟩)
   rw [Vq]
   have g':Gk h (G.wr (af ⟨y.s,y.g,0,0,false⟩ (2+q)) (jc (h.cl y.s (2+q)))) y (q - 1):=by
    have cw:∀s f,(G.wr (af ⟨y.s,y.g,0,0,false⟩ (2+q)) (jc (h.cl y.s (2+q)))).cl s f=if s=y.s /\ f=2+q then jc (h.cl y.s (2+q)) else G.cl s f:=fun s f=>dq y1
    refine⟨by rw [bJ];exact g.lv,by rw [nD y1];exact g.bd,fun s f hne=>?_,fun j h1 h2=>?_⟩
    ·rw [cw,if_neg fun e=>hne ⟨e.1,by omega,by omega⟩]
     exact g.cl s f fun e=>hne ⟨e.1,by omega,e.2.2⟩
    ·rw [cw]
     by_cases e:j=q
     ·subst e;rw [if_pos ⟨rfl,rfl⟩];exact⟨rfl,rfl,rfl⟩
     ·rw [if_neg (by omega)];exact g.mr j (by omega) h2
   cases d with
   | zero =>
     have hd:q=0:=hd
     subst hd
     rw [decide_eq_false (by decide:¬(0:Int) > 0)]
     refine aP (fun _ _ h=>h) (by omega:36 * L.length+50<=_) (P4 ⟨hi,hy,g'.lv,g'.bd,fun s f hne=>g'.cl s f fun e=>hne ⟨e.1,by omega,e.2.2⟩,fun j h1 h2=>g'.mr j (by omega) h2⟩ hky k0 k1 hat (cb:=cb) _)
   | succ d =>
     rw [decide_eq_true (by omega:q > 0),show IntKind.wrap .i64 (q - 1)=q - 1 from jl (by omega),w2 (by omega) (by omega)]
     exact aP (fun _ _ h=>h) (by omega:36 * L.length+52+2 * d<=_) (zE hi hy hky k0 k1 hat d (by omega) (by omega) g')
theorem OB (hi:SInv h L) (k0:0<=ky) (k1:ky < 256) {cb:Option ClimbM} {nd:W} {lv v:Int} (x:Rp1):aT ax (DP L ⟨7,ky,va,ta⟩) (54 * L.length+90) h (ax ⟨0,la,⟨7,ky,va,ta⟩,cb,nd,lv,inc,v⟩ x):=by
 rw [Vv]
 refine aP (fun _ _ h=>h) (by omega:(18 * L.length+10)+(36 * L.length+80)<=_) (mC (J:=fun c=>⟨1,la,⟨7,ky,va,ta⟩,some c,nd,lv,inc,v⟩) (co:=fun c=>Kh ⟨1,la,⟨7,ky,va,ta⟩,some c,nd,lv,inc,v⟩) Vu (fun c h' hq=>?_) (pA hi x))
 obtain⟨rfl,hq⟩:=hq
 have hf:=hq.fo
 show aT ax _ _ h' (cond (c.found.slot==0) (mJ 2 0 ⟨1,la,⟨7,ky,va,ta⟩,some c,c.found,lv,inc,v⟩) (aM (af c.found 6),⟨2,la,⟨7,ky,va,ta⟩,some c,c.found,lv,inc,v⟩))
 cases hat:SAt ky L with
 | none =>
   rw [hat] at hf
   have hf:c.found=wNil:=hf
   rw [hf]
   exact bq rfl (.inr (.inl ⟨by show (7:Int)≠6;decide,hat,rfl,hi⟩))
 | some y =>
   rw [hat] at hf
   have hf:c.found=⟨y.s,y.g,0,0,false⟩:=hf
   obtain⟨hy,hyk⟩:=oX hat
   obtain⟨y1,yl⟩:=cC hi hy
   obtain⟨d1,d6,_,t1,t3⟩:=hi.da y hy
   rw [hf,dz y1]
   refine aP (fun _ _ h=>h) (by omega:(36 * L.length+60)+1+1<=_) (aA (bI (aE (w:=⟨y.s,y.g,0,0,false⟩) y1 yl (by decide) (by decide)) ?_))
   show aT ax _ _ h' (ax ⟨2,la,⟨7,ky,va,ta⟩,some c,⟨y.s,y.g,0,0,false⟩,lv,inc,v⟩ ⟨h'.rd (af ⟨y.s,y.g,0,0,false⟩ 6),true⟩)
   rw [bQ y1,Vt,show (h'.cl (⟨y.s,y.g,0,0,false⟩:W).slot 6).num=y.t from d6,decide_eq_false (by omega:¬y.t < 1),decide_eq_false (by omega:¬y.t > 3)]
   refine aA (bI (aE (w:=⟨y.s,y.g,0,0,false⟩) y1 yl (by decide) (by decide)) ?_)
   show aT ax _ _ h' (ax ⟨3,la,⟨7,ky,va,ta⟩,some c,⟨y.s,y.g,0,0,false⟩,IntKind.wrap .i64 (y.t - 1),inc,v⟩ ⟨h'.rd (af ⟨y.s,y.g,0,0,false⟩ 1),true⟩)
   rw [Vs,bQ y1,show (h'.cl (⟨y.s,y.g,0,0,false⟩:W).slot 1).num=y.v from d1,show IntKind.wrap .i64 (y.t - 1)=y.t - 1 from jl (by omega),w2 (by omega) (by omega)]
   exact aP (fun _ _ h=>h) (by omega:36 * L.length+52+2 * (y.t - 1).toNat<=_) (zE hi hy hyk k0 k1 hat (y.t - 1).toNat (by omega) (by omega) ⟨rfl,rfl,fun _ _ _=>rfl,fun j h1 h2=>by omega⟩)
end
end
section
open Go Go.Sx Go.Proofs AH
set_option maxRecDepth 100000
structure LInv (h:AH) (l:List Kn):Prop where
 ok:LitOk h (aC 0) l
 sr:Srt l
 rg:∀x∈l,0<=x.k /\ x.k < 256
theorem Pq {h:AH} {l:List Kn} (hi:LInv h l) {o:O} (ho:o.kind=6 \/ o.kind=7 \/ o.kind=8) (k0:0<=o.key) (k1:o.key < 256) (x:Rp1):aT bj (fun a h'=>∃l',pH h o.key o l a l' /\ LInv h' l') 1600 h (bj (zB o) x):=by
 have hlen:l.length<=256:=A7 (lo:=0) hi.sr fun x hx=>by have:=hi.rg x hx;omega
 refine aP (fun a h' hq=>?_) (by omega:6 * l.length+20<=1600) (C1 hi.ok ho x)
 obtain⟨l',ls,ok,_⟩:=hq
 suffices h:Srt l' /\ ∀x∈l',0<=x.k /\ x.k < 256 from⟨l',ls,ok,h.1,h.2⟩
 rcases ls with⟨_,⟨q1,_,n,nk,_,_,e⟩ | ⟨_,_,e⟩ | ⟨_,e⟩⟩ | ⟨_,_,_,e⟩ | ⟨y,q1,_,⟨_,e⟩ | ⟨_,e⟩⟩<;>subst e
 ·refine⟨vk hi.sr (by rw [nk];exact q1),fun x hx=>?_⟩
  rcases dU.1 hx with rfl | hx
  ·omega
  ·exact hi.rg x hx
 ·exact⟨hi.sr,hi.rg⟩
 ·exact⟨hi.sr,hi.rg⟩
 ·exact⟨hi.sr,hi.rg⟩
 ·exact⟨Gd hi.sr,fun x hx=>hi.rg x (wN hx)⟩
 ·exact⟨hi.sr,hi.rg⟩
end
section
open Go Go.Sx Go.Proofs AH
set_option maxRecDepth 100000
def FF (s:Nat) (h:AH):Prop:=match s with | 1=>∃vs,ng h vs | 2=>∃vs,pI h vs | 3=>∃l,LInv h l | 4=>∃L,VInv h L | _=>∃L,SInv h L
structure FitJ (s:Nat) (o:O):Prop where
 k1:s=1->o.kind=1 \/ o.kind=2 \/ o.kind=3
 k2:s=2->o.kind=4 \/ o.kind=5
 k3:3<=s->(o.kind=6 \/ o.kind=7 \/ o.kind=8) /\ 0<=o.key /\ o.key < 256
 k5:s=5->o.kind=6->1<=o.tall /\ o.tall<=3
theorem Mu {s:Nat} (hs:s=1 \/ s=2 \/ s=3 \/ s=4 \/ s=5) {h:AH} (hi:FF s h) {o:O} (hf:FitJ s o):eZ (fun _ h'=>FF s h') 19000 h ((p5 s o).next ⟨wNil,true⟩):=by
 rcases hs with rfl | rfl | rfl | rfl | rfl
 ·obtain⟨vs,hi⟩:=hi
  refine aP (fun a h' hq=>?_) (by omega:12<=19000) (H8 hi (hf.k1 rfl))
  rcases hq with⟨_,⟨_,q⟩ | ⟨_,q⟩⟩ | ⟨_,_,_,q⟩ | ⟨_,_,_,_,⟨_,q⟩ | ⟨_,q⟩⟩<;>exact⟨_,q⟩
 ·obtain⟨vs,hi⟩:=hi
  refine aP (fun a h' hq=>?_) (by omega:12<=19000) (I0 hi (hf.k2 rfl))
  rcases hq with⟨_,⟨_,q⟩ | ⟨_,q⟩⟩ | ⟨_,⟨_,_,q⟩ | ⟨_,_,_,_,q⟩⟩<;>exact⟨_,q⟩
 ·obtain⟨l,hi⟩:=hi
  obtain⟨k,k0,k1⟩:=hf.k3 (by decide)
  refine aP (fun a h' hq=>?_) (by omega:1600<=19000) (pq (f:=JobM.lit) (fun _ _=>rfl) (Pq hi k k0 k1 ⟨wNil,true⟩))
  obtain⟨l',_,q⟩:=hq
  exact⟨l',q⟩
 ·obtain⟨L,hi⟩:=hi
  obtain⟨k,k0,k1⟩:=hf.k3 (by decide)
  refine aP (fun a h' hq=>?_) (by omega:13006<=19000) (pq (f:=JobM.vau) (fun _ _=>rfl) (Jz hi k (decide_eq_true ⟨k0,k1⟩) ⟨wNil,true⟩))
  obtain⟨L1,L',h1,_,_,q⟩:=hq
  exact⟨L',q⟩
 ·obtain⟨L,hi⟩:=hi
  obtain⟨k,k0,k1⟩:=hf.k3 (by decide)
  have sl:∀{l:List Sn} {lo:Int} {n:Nat},Sst l->(∀x∈l,lo<=x.k /\ x.k < lo+n)->l.length<=n:=fun {l}=>by
   induction l with
   | nil=>intro _ _ _ _;exact Nat.zero_le _
   | cons x l ih =>
     intro lo n hs hr
     unfold Sst at hs
     rw [List.pairwise_cons] at hs
     have hx:=hr x List.mem_cons_self
     have:=ih (lo:=x.k+1) (n:=(lo+n - x.k - 1).toNat) hs.2 fun y hy=>by
      have:=hs.1 y hy
      have:=hr y (List.mem_cons_of_mem _ hy)
      omega
     rw [List.length_cons]
     omega
  have hlen:L.length<=256:=sl (lo:=0) hi.sr fun x hx=>by have:=hi.rg x hx;omega
  have fin:∀{a:An} {h':AH},DP L o a h'->∃L,SInv h' L:=fun {a h'} hq=>by
   rcases hq with⟨_,⟨_,_,n,_,_,_,q⟩ | ⟨_,_,q⟩ | ⟨_,q⟩⟩ | ⟨_,_,_,q⟩ | ⟨_,_,_,⟨_,q⟩ | ⟨_,q⟩⟩<;>exact⟨_,q⟩
  obtain⟨kd,ky,va,ta⟩:=o
  dsimp only at k k0 k1
  rcases k with rfl | rfl | rfl
  ·obtain⟨t1,t3⟩:=hf.k5 rfl rfl
   exact aP (fun _ _ hq=>fin hq) (by omega:18 * L.length+50<=19000) (pq (f:=JobM.ste) (fun _ _=>rfl) (Oz hi k0 k1 t1 t3 (la:=aD) (cb:=none) (nd:=wNil) (lv:=0) (inc:=0) ⟨wNil,true⟩))
  ·exact aP (fun _ _ hq=>fin hq) (by omega:54 * L.length+90<=19000) (pq (f:=JobM.ste) (fun _ _=>rfl) (OB hi k0 k1 (la:=aD) (cb:=none) (nd:=wNil) (lv:=0) (inc:=0) (v:=0) ⟨wNil,true⟩))
  ·exact aP (fun _ _ hq=>fin hq) (by omega:18 * L.length+20<=19000) (pq (f:=JobM.ste) (fun _ _=>rfl) (OA hi (la:=aD) (cb:=none) (nd:=wNil) (lv:=0) (inc:=0) (v:=0) ⟨wNil,true⟩))
end
section
open Go Go.Sx Go.Proofs AH
set_option maxRecDepth 100000
structure Abs (m:PlotM) (h:AH):Prop where
 bd:∀f,0<=f->f < 18->m.read 0 f=h.bd f
 lv:∀s g,1<=s->h.lv s g->s<=(m.slots.length:Int) /\ (m.slot s).used=true /\ (m.slot s).gen=g
 cl:∀s g f,1<=s->h.lv s g->0<=f->f < 8->m.read s f=h.cl s f
theorem pG {m:PlotM} {h:AH} (A:Abs m h) {a:Ad} (hv:h.valid a) (e:Nat):m.state a.s a.g e=none:=by
 unfold PlotM.state
 rcases hv with⟨q,_⟩ | ⟨q1,q2,_⟩
 ·rw [if_pos q]
 ·obtain⟨_,u,g⟩:=A.lv _ _ q1 q2
  rw [if_neg (by omega),if_neg (by rw [u];decide),if_pos g]
theorem FC {m:PlotM} {h:AH} (A:Abs m h) {a:Ad} (hv:h.valid a):m.read a.s a.f=h.rd a:=by
 unfold rd
 rcases hv with⟨q,_,f0,f1⟩ | ⟨q1,q2,f0,f1⟩
 ·rw [if_pos q,q];exact A.bd _ f0 f1
 ·rw [if_neg (by omega)];exact A.cl _ _ _ q1 q2 f0 f1
theorem DN {m:PlotM} {h:AH} (A:Abs m h) {k:Int}:Abs {m with steps:=k} h:=⟨A.bd,A.lv,A.cl⟩
theorem NF {a:Sl} {k j:Nat} {w:W} (hj:j < 10):(a.setAt k w).at j=if j=k then w else a.at j:=by
 show ((List.range 10).map fun j=>if j=k then w else a.at j).getD j _=_
 rw [List.getD_eq_getElem?_getD,List.getElem?_map,List.getElem?_range hj]
 rfl
theorem qh {n:Nat} {m:PlotM} (hm:m.WF n) {s f s' f':Int} {w:W} (h1:0<=s) (h2:s<=(m.slots.length:Int)) (f0:0<=f) (fb:s=0->f < 85) (fc:s≠0->f < 10) (h1':0<=s') (h2':s'<=(m.slots.length:Int)) (f0':0<=f') (fc':s'≠0->f' < 10):(m.write s f w).read s' f'=if s'=s /\ f'=f then w else m.read s' f':=by
 unfold PlotM.write PlotM.read
 by_cases e:s=0
 ·rw [if_pos e]
  dsimp only
  by_cases e':s'=0
  ·rw [if_pos e',if_pos e']
   have lb:=hm.lb
   rw [List.getD_eq_getElem?_getD,List.getElem?_set]
   by_cases ef:f'=f
   ·rw [if_pos (by omega),if_pos (by have:=fb e;omega),if_pos ⟨by omega,ef⟩];rfl
   ·rw [if_neg (by omega),if_neg fun q:s'=s /\ f'=f=>ef q.2,List.getD_eq_getElem?_getD]
  ·rw [if_neg e',if_neg e',if_neg fun q:s'=s /\ f'=f=>e' (q.1.trans e)];rfl
 ·rw [if_neg e]
  by_cases e':s'=0
  ·rw [if_pos e',if_pos e',if_neg fun q:s'=s /\ f'=f=>e (q.1▸e')]
  ·rw [if_neg e',if_neg e',jn (by omega)]
   by_cases es:s'=s
   ·subst es
    rw [if_pos rfl,NF (by have:=fc' e';omega)]
    by_cases ef:f'=f
    ·rw [if_pos (by omega),if_pos ⟨rfl,ef⟩]
    ·rw [if_neg (by omega),if_neg fun q:s'=s' /\ f'=f=>ef q.2]
   ·rw [if_neg (by omega),if_neg fun q:s'=s /\ f'=f=>es q.1]
theorem Jh {m:PlotM} {h:AH} (A:Abs m h) {a:Ad} (hv:h.valid a):0<=a.s /\ a.s<=(m.slots.length:Int) /\ 0<=a.f /\ (a.s=0->a.f < 85) /\ (a.s≠0->a.f < 10):=by
 rcases hv with⟨q,_,f0,f1⟩ | ⟨q1,q2,f0,f1⟩
 ·exact⟨by omega,by omega,f0,fun _=>by omega,fun _=>by omega⟩
 ·have:=(A.lv _ _ q1 q2).1
  exact⟨by omega,this,f0,fun _=>by omega,fun _=>by omega⟩
theorem Em {m:PlotM} {s f:Int} {w:W} (h1:0<=s) (h2:s<=(m.slots.length:Int)) (t:Int):((m.write s f w).slot t).used=(m.slot t).used /\ ((m.write s f w).slot t).gen=(m.slot t).gen /\ (m.write s f w).slots.length=m.slots.length:=by
 unfold PlotM.write
 by_cases e:s=0
 ·rw [if_pos e];exact⟨rfl,rfl,rfl⟩
 ·rw [if_neg e,jn (by omega)]
  refine⟨?_,?_,List.length_set⟩
  ·split
   ·rename_i q
    show (m.slot s).used=_
    unfold PlotM.slot;rw [q]
   ·rfl
  ·split
   ·rename_i q
    show (m.slot s).gen=_
    unfold PlotM.slot;rw [q]
   ·rfl
theorem AG {n:Nat} {m:PlotM} (hm:m.WF n) {h:AH} (A:Abs m h) {a:Ad} (hv:h.valid a) {w:W}:Abs (m.write a.s a.f w) (h.wr a w):=by
 obtain⟨v1,v2,v3,v4,v5⟩:=Jh A hv
 refine⟨fun f f0 f1=>?_,fun s g hs hl=>?_,fun s g f hs hl f0 f1=>?_⟩
 ·rw [qh hm v1 v2 v3 v4 v5 (Int.le_refl 0) (by omega) f0 (fun e=>absurd rfl e)]
  have:=gP (h:=h) (a:=a) (w:=w) (b:=aC f)
  rw [show (h.wr a w).bd f=(h.wr a w).rd (aC f) from rfl,this]
  show (if 0=a.s /\ f=a.f then w else m.read 0 f)=if 0=a.s /\ f=a.f then w else h.bd f
  rw [A.bd f f0 f1]
 ·rw [bJ] at hl
  obtain⟨q1,q2,q3⟩:=A.lv s g hs hl
  obtain⟨r1,r2,r3⟩:=Em (f:=a.f) (w:=w) v1 v2 s
  exact⟨by rw [r3];exact q1,r1.trans q2,r2.trans q3⟩
 ·rw [bJ] at hl
  have q1:=(A.lv s g hs hl).1
  rw [qh hm v1 v2 v3 v4 v5 (by omega) q1 f0 (fun _=>by omega)]
  have:=gP (h:=h) (a:=a) (w:=w) (b:=⟨s,g,f⟩)
  have ci:∀K:AH,K.rd ⟨s,g,f⟩=K.cl s f:=fun K=>by unfold rd;rw [if_neg (by show ¬s=0;omega)]
  rw [<- ci,this,ci]
  show (if s=a.s /\ f=a.f then w else m.read s f)=if s=a.s /\ f=a.f then w else h.cl s f
  rw [A.cl s g f hs hl f0 f1]
theorem FB {m:PlotM} {h:AH} (A:Abs m h) {s:Int}:Abs m (h.del s):=⟨A.bd,fun t g ht hl=>A.lv t g ht hl.2,fun t g f ht hl=>A.cl t g f ht hl.2⟩
theorem NZ {n:Nat} {m:PlotM} (hm:m.WF n) {h:AH} (A:Abs m h) {s:Int} (h1:1<=s) (h2:s<=(m.slots.length:Int)) {fr:List N1}:Abs {m with slots:=m.slots.set (s - 1).toNat {m.slot s with used:=false},free:=fr} (h.del s):=by
 have hs:∀t,t≠s->1<=t->({m with slots:=m.slots.set (s - 1).toNat {m.slot s with used:=false},free:=fr}:PlotM).slot t=m.slot t:=fun t ht h1t=>by
  show ({m with slots:=m.slots.set (s - 1).toNat {m.slot s with used:=false}}:PlotM).slot t=_
  rw [jn (by omega),if_neg (by omega)]
 refine⟨A.bd,fun t g ht hl=>?_,fun t g f ht hl f0 f1=>?_⟩
 ·rw [hs t hl.1 ht]
  obtain⟨q1,q2⟩:=A.lv t g ht hl.2
  exact⟨by show t<=((m.slots.set _ _).length:Int);rw [List.length_set];exact q1,q2⟩
 ·have:=A.cl t g f ht hl.2 f0 f1
  unfold PlotM.read at this ⊢
  rw [if_neg (by omega)] at this ⊢
  rw [hs t hl.1 ht]
  exact this
theorem Ji {n:Nat} {m:PlotM} (hm:m.WF n) {h:AH} (A:Abs m h) (b:Int):(m.alloc b=(⟨wNil,false⟩,m)) \/ ∃s g,1<=s /\ (∀g',¬h.lv s g') /\ (m.alloc b).1=⟨⟨s,g,0,0,false⟩,true⟩ /\ Abs (m.alloc b).2 (h.new s g):=by
 unfold PlotM.alloc
 by_cases hl:m.free.length=0
 ·rw [if_pos hl];exact .inl rfl
 ·rw [if_neg hl]
  dsimp only
  have hmem:m.free.getD (m.free.length - 1) kints.dflt∈m.free:=jF (by omega)
  generalize m.free.getD (m.free.length - 1) kints.dflt=x at hmem
  obtain⟨h1,h2⟩:=hm.fr x hmem
  have hu:=hm.fu x hmem
  have ls:=hm.ls
  refine .inr ⟨x.val,bH (m.slot x.val).gen,h1,fun g' hlv=>?_,rfl,A.bd,fun t g ht hl=>?_,fun t g f ht hl f0 f1=>?_⟩
  ·have:=(A.lv _ _ h1 hlv).2.1
   rw [hu] at this;cases this
  ·have hl:if t=x.val then g=_ else h.lv t g:=hl
   show t<=((m.slots.set _ _).length:Int) /\ (({m with slots:=m.slots.set (x.val - 1).toNat _}:PlotM).slot t).used=true /\ (({m with slots:=m.slots.set (x.val - 1).toNat _}:PlotM).slot t).gen=g
   rw [jn (by omega),List.length_set]
   by_cases e:t=x.val
   ·rw [if_pos e] at hl
    rw [if_pos (by omega)]
    exact⟨by omega,rfl,hl.symm⟩
   ·rw [if_neg e] at hl
    rw [if_neg (by omega)]
    exact A.lv t g ht hl
  ·have hl:if t=x.val then g=_ else h.lv t g:=hl
   unfold PlotM.read
   rw [if_neg (by omega)]
   show (({m with slots:=m.slots.set (x.val - 1).toNat _}:PlotM).slot t).at f.toNat=if t=x.val then wNil else h.cl t f
   rw [jn (by omega)]
   by_cases e:t=x.val
   ·rw [if_pos e,if_pos (by omega)]
    have:f=0 \/ f=1 \/ f=2 \/ f=3 \/ f=4 \/ f=5 \/ f=6 \/ f=7:=by omega
    rcases this with rfl | rfl | rfl | rfl | rfl | rfl | rfl | rfl<;>rfl
   ·rw [if_neg e] at hl
    rw [if_neg e,if_neg (by omega)]
    have:=A.cl t g f ht hl f0 f1
    unfold PlotM.read at this
    rwa [if_neg (by omega)] at this
end
end Go.Proofs.YtadmfaohjnjajaaGreatDoor
