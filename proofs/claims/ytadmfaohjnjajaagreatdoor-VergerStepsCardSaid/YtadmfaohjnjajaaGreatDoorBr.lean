import Derived.Test.YtadmfaohjnjajaaGreatDoorBl
set_option linter.unusedVariables false
set_option linter.unusedSimpArgs false
set_option maxHeartbeats 0
set_option maxRecDepth 100000
namespace Go.Proofs.YtadmfaohjnjajaaGreatDoor
section
open Go Go.Sx Go.Proofs AH
def MS (L:List Sn) (o:O) (a:An) (h:AH):Prop :=
 (o.aj=6 /\ ((Gf o.key L=none /\ a=⟨1,0⟩ /\ ∃n:Sn,n.k=o.key /\ n.v=o.val /\ n.t=o.bO /\ ke h (o5 n L)) \/ (Gf o.key L≠none /\ a=⟨3,0⟩ /\ ke h L) \/ (a=⟨4,0⟩ /\ ke h L)))
 \/ (o.aj≠6 /\ Gf o.key L=none /\ a=⟨2,0⟩ /\ ke h L)
 \/ (∃x,Gf o.key L=some x /\ a=⟨1,x.v⟩ /\ ((o.aj=7 /\ ke h (sa o.key L)) \/ (o.aj=8 /\ ke h L)))
theorem vC {key:Int}:∀{l:List Sn} {x:Sn},Gf key l=some x->x∈l /\ x.k=key
 | y::l,x,hx=>by
   unfold Gf at hx
   split at hx
   ·split at hx
    ·cases hx;exact⟨abw,by assumption⟩
    ·cases hx
   ·exact⟨aby _ (vC hx).1,(vC hx).2⟩
theorem eR {h:AH} {L:List Sn} (hi:ke h L) {x:Sn} (hx:x∈L):1<=x.s /\ h.lv x.s x.g:=yy (hi.QT 0 (by decide) (by decide)) (by rw [Wx hi];exact hx)
theorem IP {h h':AH} {L:List Sn} (hi:ke h L) (hc:∀x∈L,1<=x.s->h.lv x.s x.g->h'.lv x.s x.g /\ ∀f,h'.cl x.s f=h.cl x.s f) (hb:h'.bd=h.bd):ke h' L :=
 ⟨fun m m0 m2=>by rw [hb];exact fJ (hi.QT m m0 m2) fun x hx x1 hl=>(have q:=hc x (eI.1 hx).1 x1 hl;⟨q.1,q.2 _,q.2 _⟩),hi.nd,hi.sr,fun x hx=>by rw [(hc x hx (eR hi hx).1 (eR hi hx).2).2,(hc x hx (eR hi hx).1 (eR hi hx).2).2,(hc x hx (eR hi hx).1 (eR hi hx).2).2];exact hi.da x hx,hi.rg⟩
theorem ZW {h:AH} {L:List Sn} (hi:ke h L) {la:Cl} {ky va ta:Int} {cb:Option aN} {nd:W} {lv inc v:Int} (x:cr):b9 aM (MS L ⟨8,ky,va,ta⟩) (30 * L.length+30) h (aM ⟨0,la,⟨8,ky,va,ta⟩,cb,nd,lv,inc,v⟩ x):=by
 rw [aj2]
 refine bT (fun _ _ h=>h) (by omega:(30 * L.length+20)+5<=_) (uZ (J:=fun c=>⟨1,la,⟨8,ky,va,ta⟩,some c,nd,lv,inc,v⟩) (co:=fun c=>UN ⟨1,la,⟨8,ky,va,ta⟩,some c,nd,lv,inc,v⟩) aj1 (fun c h' hq=>?_) (wh hi x))
 obtain⟨rfl,hq⟩:=hq
 have hf:=hq.fo
 show b9 aM _ 5 h' (cond (c.found.af==0) (rY 2 0 ⟨1,la,⟨8,ky,va,ta⟩,some c,c.found,lv,inc,v⟩) (br (ay c.found 1),⟨2,la,⟨8,ky,va,ta⟩,some c,c.found,lv,inc,v⟩))
 cases bC:Gf ky L with
 | none =>
   rw [bC] at hf
   have hf:c.found=ao:=hf
   rw [hf]
   exact cK rfl (.inr (.inl ⟨by show (8:Int)≠6;decide,bC,rfl,hi⟩))
 | some y =>
   rw [bC] at hf
   have hf:c.found=⟨y.s,y.g,0,0,false⟩:=hf
   obtain⟨y1,yl⟩:=eR hi (vC bC).1
   rw [hf,gp y1]
   refine bB (dm (aZ (w:=⟨y.s,y.g,0,0,false⟩) y1 yl (by decide) (by decide)) ?_)
   show b9 aM _ 4 h' (aM ⟨2,la,⟨8,ky,va,ta⟩,some c,⟨y.s,y.g,0,0,false⟩,lv,inc,v⟩ _)
   rw [aj0]
   have hv:(h'.rd (ay ⟨y.s,y.g,0,0,false⟩ 1)).bS=y.v:=by rw [dJ y1];exact(hi.da y (vC bC).1).1
   refine cK rfl (.inr (.inr ⟨y,bC,?_,.inr ⟨rfl,hi⟩⟩))
   show (⟨1,(h'.rd (ay ⟨y.s,y.g,0,0,false⟩ 1)).bS⟩:An)=_
   rw [hv]
structure Lk (h:AH) (L:List Sn) (n:W) (ky va ta:Int) (c:aN) (i j:Int) (H:AH):Prop where
 zG:H.lv n.af n.gen
 lvo:∀s g,s≠n.af->h.lv s g->H.lv s g
 c0:(H.cl n.af 0).bS=ky
 cv:(H.cl n.af 1).bS=va
 c6:(H.cl n.af 6).bS=ta
 c7:(H.cl n.af 7).bS=0
 cf:∀m,0<=m->m < i->H.cl n.af (2+m)=dv (aT c m).2
 to:∀m,0<=m->m < j->H.rd (aT c m).1=iC (aT c m).2 n
 un:∀b:Ad,b.s≠n.af->(∀m,0<=m->m < j->¬(b.s=(aT c m).1.s /\ b.f=(aT c m).1.f))->H.rd b=h.rd b
theorem Dm {h:AH} {bd:Int} {L:List Sn} {c:aN} (hq:vl h bd L c) (m:Int) (m0:0<=m) (m2:m<=2):qc h bd L m (aT c m).1 (aT c m).2:=by
 obtain rfl | rfl | rfl:m=0 \/ m=1 \/ m=2:=by omega
 ·exact hq.s0
 ·exact hq.s1
 ·exact hq.s2
theorem w1 {i:Int} (h0:-5<=i) (h1:i < 5):cX i=i+1:=ma (by omega)
theorem w2 {i:Int} (h0:-5<=i) (h1:i < 5):eP 2 i=2+i:=by unfold eP;exact ma (by omega)
section
variable {h:AH} {L:List Sn} {n:W} {ky va ta:Int} {c:aN} {la:Cl} {inc v:Int}
theorem P8 (hi:ke h L) (hq:vl h ky L c) (n1:1<=n.af) (fr:∀x∈L,x.s≠n.af) {j:Int} (j0:0<=j) (jt:j < ta) (t3:ta<=3) {H:AH} (hl:Lk h L n ky va ta c ta j H) :
 H.bG (aT c j).1 /\ H.rd (aT c j).1=(aT c j).2 /\ Lk h L n ky va ta c ta (j+1) (H.wr (aT c j).1 (iC (aT c j).2 n)):=by
 have sp:=Dm hq
 obtain⟨f1,f2,f3⟩:=ru hi j0 (by omega) (sp j j0 (by omega))
 have ps:(aT c j).1.s≠n.af:=by
  rcases f1 with e | ⟨x,hx,x1,xl,e⟩
  ·rw [e];show (0:Int)≠_;omega
  ·rw [e];exact fr x hx
 have ne:∀m,0<=m->m < j->¬((aT c j).1.s=(aT c m).1.s /\ (aT c j).1.f=(aT c m).1.f):=fun m m0 mj=>Z0 hi j0 (by omega) m0 (by omega) (by omega) (sp j j0 (by omega)) (sp m m0 (by omega))
 have cl:∀f,(H.wr (aT c j).1 (iC (aT c j).2 n)).cl n.af f=H.cl n.af f:=fun f=>by
  unfold wr
  split
  ·rfl
  ·show (if n.af=_ /\ _ then _ else _)=_
   rw [if_neg fun e=>ps e.1.symm]
 refine⟨?_,(hl.un _ ps ne).trans f2.symm,⟨by rw [de];exact hl.zG,fun s g hs hg=>by rw [de];exact hl.lvo s g hs hg,by rw [cl];exact hl.c0,by rw [cl];exact hl.cv,by rw [cl];exact hl.c6,by rw [cl];exact hl.c7,fun m m0 mt=>by rw [cl];exact hl.cf m m0 mt,fun m m0 mj=>?_,fun b hb hm=>?_⟩⟩
 ·rcases f1 with e | ⟨x,hx,x1,xl,e⟩
  ·rw [e];exact bU j0 (by omega)
  ·rw [e];exact .inr ⟨x1,hl.lvo _ _ (fr x hx) xl,by show 0<=2+j;omega,by show 2+j < 8;omega⟩
 ·by_cases e:m=j
  ·subst e;rw [lT,if_pos ⟨rfl,rfl⟩]
  ·rw [lT,if_neg fun q=>ne m m0 (by omega) ⟨q.1.symm,q.2.symm⟩]
   exact hl.to m m0 (by omega)
 ·rw [lT,if_neg (hm j j0 (by omega))]
  exact hl.un b hb fun m m0 mj=>hm m m0 (by omega)
theorem Ha (hi:ke h L) (hq:vl h ky L c) (bC:Gf ky L=none) (k0:0<=ky) (k1:ky < 256) (n1:1<=n.af) (fr:∀x∈L,x.s≠n.af) (t1:1<=ta) (t3:ta<=3):∀(d:Nat) {j pc:Int} {H:AH},0<=j->j+d=ta->Lk h L n ky va ta c ta j H ->
 b9 aM (MS L ⟨6,ky,va,ta⟩) (4+2 * d) H (Dj ⟨pc,la,⟨6,ky,va,ta⟩,some c,n,j,inc,0⟩)
 | 0,j,pc,H,j0,jt,hl=>by
   unfold Dj
   dsimp only
   rw [aaS (by omega:j>=ta)]
   refine bB (dm (aZ n1 hl.zG (by decide) (by decide)) ?_)
   show b9 aM _ 3 H (aM ⟨101,la,⟨6,ky,va,ta⟩,some c,n,j,1,0⟩ ⟨H.rd (ay n 7),true⟩)
   rw [dJ n1,UJ,show (H.cl n.af 7).bS=0 from hl.c7]
   refine bB (gG (aZ n1 hl.zG (by decide) (by decide)) (dJ n1) ?_)
   show b9 aM _ 2 _ (aM ⟨102,la,⟨6,ky,va,ta⟩,some c,n,j,1,0⟩ ⟨H.cl n.af 7,true⟩)
   rw [afD]
   have c7:∀f,(H.wr (ay n 7) (fx (H.cl n.af 7) 1)).cl n.af f=if f=7 then fx (H.cl n.af 7) 1 else H.cl n.af f:=fun f=>by
    rw [gb n1]
    by_cases e:f=7
    ·rw [if_pos ⟨rfl,e⟩,if_pos e]
    ·rw [if_neg fun q=>e q.2,if_neg e]
   have rd:∀b:Ad,b.s≠n.af->(H.wr (ay n 7) (fx (H.cl n.af 7) 1)).rd b=H.rd b:=fun b hb=>by rw [lT,if_neg fun e=>hb e.1]
   have jt:j=ta:=by omega
   subst jt
   refine cK rfl (.inl ⟨rfl,.inl ⟨bC,rfl,⟨n.af,n.gen,ky,va,j⟩,rfl,rfl,rfl,U1 hi (pm:=fun m=>(aT c m).1) (cm:=fun m=>(aT c m).2) n1 fr t1 t3 k0 k1 bC (Dm hq) (by rw [de];exact hl.zG) (fun s g hs hg=>by rw [de];exact hl.lvo s g hs hg) ?_ ?_ ?_ ?_ (fun m m0 mt=>?_) (fun m m0 mt=>?_) fun b hb hm=>by rw [rd b hb];exact hl.un b hb hm⟩⟩)
   ·show (AH.cl _ n.af 0).bS=ky
    rw [c7,if_neg (by decide)];exact hl.c0
   ·show (AH.cl _ n.af 1).bS=va
    rw [c7,if_neg (by decide)];exact hl.cv
   ·show (AH.cl _ n.af 6).bS=j
    rw [c7,if_neg (by decide)];exact hl.c6
   ·show (AH.cl _ n.af 7).bS≠0
    rw [c7,if_pos rfl]
    show IntKind.wrap .i64 ((H.cl n.af 7).bS+1)≠0
    rw [hl.c7];decide
   ·show AH.cl _ n.af (2+m)=_
    have mt:m < j:=mt
    rw [c7,if_neg (by omega)];exact hl.cf m m0 mt
   ·have MZ:(aT c m).1.s≠n.af:=by
     have mt:m < j:=mt
     rcases (ru hi m0 (by omega) (Dm hq m m0 (by omega))).1 with e | ⟨x,hx,x1,xl,e⟩
     ·rw [e];show (0:Int)≠_;omega
     ·rw [e];exact fr x hx
    show (AH.rd _ (aT c m).1).af=n.af /\ (AH.rd _ (aT c m).1).gen=n.gen /\ (AH.rd _ (aT c m).1).mark=false
    rw [rd _ MZ,hl.to m m0 mt]
    exact⟨rfl,rfl,rfl⟩
 | d+1,j,pc,H,j0,jt,hl=>by
   unfold Dj
   dsimp only
   rw [aaZ (by omega:¬j>=ta),w2 (by omega) (by omega)]
   refine bT (fun _ _ h=>h) (by omega:(4+2 * d)+1+1<=_) (bB (dm (aZ n1 hl.zG (by omega) (by omega)) ?_))
   obtain⟨v1,v2,v3⟩:=P8 hi hq n1 fr j0 (by omega) t3 hl
   show b9 aM _ _ H (aM ⟨9,la,⟨6,ky,va,ta⟩,some c,n,j,inc,0⟩ ⟨H.rd (ay n (2+j)),true⟩)
   rw [dJ n1,hl.cf j j0 (by omega),aka _ rfl]
   have re:Vw (dv (aT c j).2) (iO ⟨9,la,⟨6,ky,va,ta⟩,some c,n,j,inc,0⟩ j).2=true:=by
    show ((aT c j).2.af==(aT c j).2.af&&(aT c j).2.gen==(aT c j).2.gen)=true
    simp
   rw [re]
   refine bB (gG v1 v2 ?_)
   show b9 aM _ _ _ (aM ⟨11,la,⟨6,ky,va,ta⟩,some c,n,j,inc,0⟩ ⟨(aT c j).2,true⟩)
   rw [afE,w1 (by omega) (by omega)]
   exact Ha hi hq bC k0 k1 n1 fr t1 t3 d (by omega) (by omega) v3
end
end
section
open Go Go.Sx Go.Proofs AH
section
variable {h:AH} {L:List Sn} {n:W} {ky va ta:Int} {c:aN} {la:Cl} {inc v:Int}
theorem Hk (hi:ke h L) (hq:vl h ky L c) (bC:Gf ky L=none) (k0:0<=ky) (k1:ky < 256) (n1:1<=n.af) (fr:∀x∈L,x.s≠n.af) (t1:1<=ta) (t3:ta<=3):∀(d:Nat) {i l pc:Int} {H:AH},0<=i->i+d=ta->l=i - 1->Lk h L n ky va ta c i 0 H ->
 b9 aM (MS L ⟨6,ky,va,ta⟩) (20+d) H (zW ⟨pc,la,⟨6,ky,va,ta⟩,some c,n,l,inc,0⟩)
 | 0,i,l,pc,H,i0,it,il,hl=>by
   subst il
   unfold zW
   dsimp only
   rw [w1 (by omega) (by omega),show i - 1+1=i by omega,aaZ (by omega:¬i < ta)]
   have it:i=ta:=by omega
   subst it
   obtain⟨v1,v2,v3⟩:=P8 hi hq n1 fr (aef 0) (by omega) t3 hl
   refine bB (gG v1 v2 ?_)
   show b9 aM _ _ _ (aM ⟨8,la,⟨6,ky,va,i⟩,some c,n,i,inc,0⟩ ⟨(aT c 0).2,true⟩)
   rw [akb]
   exact bT (fun _ _ h=>h) (by omega:4+2 * (i - 1).toNat<=_) (Ha hi hq bC k0 k1 n1 fr t1 t3 (i - 1).toNat (by decide) (by omega) v3)
 | d+1,i,l,pc,H,i0,it,il,hl=>by
   subst il
   unfold zW
   dsimp only
   rw [w1 (by omega) (by omega),show i - 1+1=i by omega,aaS (by omega:i < ta),w2 (by omega) (by omega)]
   refine bB (gS (aZ n1 hl.zG (by omega) (by omega)) ?_)
   show b9 aM _ (20+d) _ (aM ⟨7,la,⟨6,ky,va,ta⟩,some c,n,i,inc,0⟩ ⟨ao,true⟩)
   rw [akc]
   have cl:∀f,(H.wr (ay n (2+i)) (dv (aT c i).2)).cl n.af f=if f=2+i then dv (aT c i).2 else H.cl n.af f:=fun f=>by
    rw [gb n1]
    by_cases e:f=2+i
    ·rw [if_pos ⟨rfl,e⟩,if_pos e]
    ·rw [if_neg fun q=>e q.2,if_neg e]
   refine Hk hi hq bC k0 k1 n1 fr t1 t3 d (i:=i+1) (by omega) (by omega) (by omega) ⟨by rw [de];exact hl.zG,fun s g hs hg=>by rw [de];exact hl.lvo s g hs hg,?_,?_,?_,?_,fun m m0 mi=>?_,fun m m0 mi=>by omega,fun b hb hm=>?_⟩
   ·rw [show (iO _ i).2=(aT c i).2 from rfl,cl,if_neg (by omega)];exact hl.c0
   ·rw [show (iO _ i).2=(aT c i).2 from rfl,cl,if_neg (by omega)];exact hl.cv
   ·rw [show (iO _ i).2=(aT c i).2 from rfl,cl,if_neg (by omega)];exact hl.c6
   ·rw [show (iO _ i).2=(aT c i).2 from rfl,cl,if_neg (by omega)];exact hl.c7
   ·rw [show (iO _ i).2=(aT c i).2 from rfl,cl]
    by_cases e:m=i
    ·subst e;rw [if_pos rfl]
    ·rw [if_neg (by omega)];exact hl.cf m m0 (by omega)
   ·rw [lT,if_neg fun e=>hb e.1]
    exact hl.un b hb fun m m0 mi=>by omega
end
theorem ZV {h:AH} {L:List Sn} (hi:ke h L) {la:Cl} {ky va ta:Int} (k0:0<=ky) (k1:ky < 256) (t1:1<=ta) (t3:ta<=3) {cb:Option aN} {nd:W} {lv inc:Int} (x:cr):b9 aM (MS L ⟨6,ky,va,ta⟩) (30 * L.length+58+2) h (aM ⟨0,la,⟨6,ky,va,ta⟩,cb,nd,lv,inc,0⟩ x):=by
 rw [aki]
 refine zm (qX ?_ fun n n1 hf=>?_)
 ·show b9 aM _ _ h (aM ⟨1,la,⟨6,ky,va,ta⟩,cb,nd,lv,inc,0⟩ ⟨ao,false⟩)
  rw [adC]
  exact cK rfl (.inl ⟨rfl,.inr (.inr ⟨rfl,hi⟩)⟩)
 have zG:(h.new n.af n.gen).lv n.af n.gen:=by show if n.af=n.af then n.gen=n.gen else _;rw [if_pos rfl]
 have fr:∀y∈L,y.s≠n.af:=fun y hy e=>hf y.g (e▸(eR hi hy).2)
 show b9 aM _ _ _ (aM ⟨1,la,⟨6,ky,va,ta⟩,cb,nd,lv,inc,0⟩ ⟨n,true⟩)
 rw [adC]
 refine bB (gS (aZ n1 zG (by decide) (by decide)) ?_)
 show b9 aM _ _ _ (aM ⟨2,la,⟨6,ky,va,ta⟩,cb,n,lv,inc,0⟩ ⟨ao,true⟩)
 rw [akh]
 refine bB (gS (aZ n1 (by rw [de];exact zG) (by decide) (by decide)) ?_)
 show b9 aM _ _ _ (aM ⟨3,la,⟨6,ky,va,ta⟩,cb,n,lv,inc,0⟩ ⟨ao,true⟩)
 rw [akg]
 refine bB (gS (aZ n1 (by rw [de,de];exact zG) (by decide) (by decide)) ?_)
 show b9 aM _ (30 * L.length+55) (AH.wr (AH.wr (AH.wr (h.new n.af n.gen) (ay n 0) (dX ky)) (ay n 1) (dX va)) (ay n 6) (dX ta)) (aM ⟨4,la,⟨6,ky,va,ta⟩,cb,n,lv,inc,0⟩ ⟨ao,true⟩)
 rw [akf]
 generalize e1:AH.wr (AH.wr (AH.wr (h.new n.af n.gen) (ay n 0) (dX ky)) (ay n 1) (dX va)) (ay n 6) (dX ta)=h2
 have b2:h2.bd=h.bd:=by subst e1;rw [tj n1,tj n1,tj n1];rfl
 have c2:∀y k,y≠n.af->h2.cl y k=h.cl y k:=fun y k hy=>by subst e1;rw [gb n1,if_neg fun e=>hy e.1,gb n1,if_neg fun e=>hy e.1,gb n1,if_neg fun e=>hy e.1,AH.mH,if_neg hy]
 have l2:∀y g,y≠n.af->(h2.lv y g↔h.lv y g):=fun y g hy=>by subst e1;rw [de,de,de,Aw,if_neg hy]
 have Tw:h2.lv n.af n.gen:=by subst e1;rw [de,de,de];exact zG
 have q0:(h2.cl n.af 0).bS=ky:=by subst e1;rw [gb n1,if_neg (by rintro ⟨_,e⟩;cases e),gb n1,if_neg (by rintro ⟨_,e⟩;cases e),gb n1,if_pos ⟨rfl,rfl⟩];rfl
 have q1:(h2.cl n.af 1).bS=va:=by subst e1;rw [gb n1,if_neg (by rintro ⟨_,e⟩;cases e),gb n1,if_pos ⟨rfl,rfl⟩];rfl
 have q6:(h2.cl n.af 6).bS=ta:=by subst e1;rw [gb n1,if_pos ⟨rfl,rfl⟩];rfl
 have q7:(h2.cl n.af 7).bS=0:=by subst e1;rw [gb n1,if_neg (by rintro ⟨_,e⟩;cases e),gb n1,if_neg (by rintro ⟨_,e⟩;cases e),gb n1,if_neg (by rintro ⟨_,e⟩;cases e),AH.mH,if_pos rfl];rfl
 clear e1
 have Tz:ke h2 L:=IP hi (fun y hy y1 yl=>⟨(l2 _ _ (fr y hy)).2 yl,fun f=>c2 _ _ (fr y hy)⟩) b2
 refine bT (fun _ _ h=>h) (by omega:(30 * L.length+20)+30<=_) (uZ (J:=fun c=>⟨5,la,⟨6,ky,va,ta⟩,some c,n,lv,inc,0⟩) (co:=fun c=>UM ⟨5,la,⟨6,ky,va,ta⟩,some c,n,lv,inc,0⟩) ake (fun c h' hq=>?_) (wh Tz _))
 obtain⟨rfl,hq⟩:=hq
 have TA:=hq.fo
 show b9 aM _ 30 h' (cond (!(c.found.af==0)) (p7 n,⟨6,la,⟨6,ky,va,ta⟩,some c,n,lv,inc,0⟩) (zW ⟨5,la,⟨6,ky,va,ta⟩,some c,n,-1,inc,0⟩))
 cases bC:Gf ky L with
 | none =>
   rw [bC] at TA
   have TA:c.found=ao:=TA
   rw [TA]
   exact bT (fun _ _ h=>h) (by omega:20+ta.toNat<=30) (Hk Tz hq bC k0 k1 n1 fr t1 t3 ta.toNat (i:=0) (by decide) (by omega) (by decide) ⟨Tw,fun s g _ h=>h,q0,q1,q6,q7,fun m m0 mi=>by omega,fun m m0 mi=>by omega,fun b _ _=>rfl⟩)
 | some y =>
   rw [bC] at TA
   have TA:c.found=⟨y.s,y.g,0,0,false⟩:=TA
   obtain⟨y1,yl⟩:=eR Tz (vC bC).1
   rw [TA,gp y1]
   refine bB (Iu n1 Tw ?_)
   show b9 aM _ _ _ (aM ⟨6,la,⟨6,ky,va,ta⟩,some c,n,lv,inc,0⟩ ⟨ao,true⟩)
   rw [akd]
   exact cK rfl (.inl ⟨rfl,.inr (.inl ⟨(by rw [bC];intro e;cases e),rfl,IP (h':=h'.JM n.af) Tz (fun y hy y1 yl=>⟨⟨fr y hy,yl⟩,fun f=>rfl⟩) rfl⟩)⟩)
end
section
open Go Go.Sx Go.Proofs AH
def unm (w:W):W:=⟨w.af,w.gen,w.tag,w.bS,false⟩
def TB (h:AH) (f:Int) (y:Sn):W->List Sn->Prop
 | w,[]=>w.af=0 /\ w.mark=false
 | w,x::l=>w.af=x.s /\ w.gen=x.g /\ w.mark=false /\ 1<=x.s /\ h.lv x.s x.g /\ (h.cl x.s 0).bS=x.k /\ if x.s=y.s then(h.cl x.s f).mark=true /\ qm h f (unm (h.cl x.s f)) l else TB h f y (h.cl x.s f) l
theorem KH {h:AH} {f:Int} {y:Sn} {l:List Sn} {w:W} (hl:TB h f y w l):w.mark=false:=by
 cases l with
 | nil=>exact hl.2
 | cons x l=>exact hl.2.2.1
section
variable {Q:aN->AH->Prop} {K:Nat} {h:AH} {la:Cl} {bd lv:Int} {sp:S3} {fd:W} {y:Sn}
theorem QH (l0:0<=lv) (l2:lv<=2):∀{l:List Sn} {x:Sn} {pv:Ad} {cu nx:W} {k:Int},TB h (2+lv) y cu (x::l)->h.bG pv->h.rd pv=cu->BX (x::l)->y∈x::l->(∀z∈x::l,z.s=y.s->z=y)->bd=y.k+1->pv.s ∉ (x::l).map Sn.s->((x::l).map Sn.s).Nodup ->
 (∀pc p c c0 k0 nx k,fa h (2+lv) y.k pv (x::l) p c0 k0->c=(h.wr p (iC c0 (h.cl y.s (2+lv)))).rd p->dP Q K (h.wr p (iC c0 (h.cl y.s (2+lv)))) (mz ⟨pc,la,p,c,bd,lv,nx,k,sp,fd⟩)) ->
 dP Q (10 * (l.length+1)+8+K) h ((bF (ay cu (2+lv)) (3 * lv),true),⟨3,la,pv,cu,bd,lv,nx,k,sp,fd⟩)
 | l,x,pv,cu,nx,k,⟨a,b,m,c,d,e0,f⟩,hv,hr,hs,hy,hyu,LX,MZ,iS,hK=>by
   have QK:1<=cu.af:=by omega
   have cul:h.lv cu.af cu.gen:=by rw [a,b];exact d
   rw [show 10 * (l.length+1)+8+K=(10 * l.length+10+K)+1+1+1+5 by omega]
   have n2:h.rd (ay cu (2+lv))=h.cl x.s (2+lv):=by rw [dJ QK,a]
   have n0:(h.rd (ay cu 0)).bS=x.k:=by rw [dJ QK,a];exact e0
   have ea:ay cu (2+lv)=x.cW (2+lv):=by unfold ay Sn.cW;rw [a,b]
   refine zt rfl (gj (aZ QK cul (by omega) (by omega)) ?_)
   rw [n2]
   show dP Q _ h (aH ⟨3,la,pv,cu,bd,lv,nx,k,sp,fd⟩ ⟨h.cl x.s (2+lv),true⟩)
   rw [anD]
   refine hI rfl (dm (aZ QK cul (by decide) (by decide)) ?_)
   show dP Q _ h (aH ⟨4,la,pv,cu,bd,lv,h.cl x.s (2+lv),k,sp,fd⟩ ⟨h.rd (ay cu 0),true⟩)
   rw [anC]
   refine hI rfl (dm hv ?_)
   show dP Q _ h (aH ⟨5,la,pv,cu,bd,lv,h.cl x.s (2+lv),(h.rd (ay cu 0)).bS,sp,fd⟩ ⟨h.rd pv,true⟩)
   rw [hr,n0]
   have hs0:=hs
   unfold BX at hs
   rw [aeo] at hs
   rw [abv,abk,not_or] at MZ
   rw [abv,aem] at iS
   by_cases SA:x.s=y.s
   ·have exy:=hyu x abw SA
    subst exy
    rw [if_pos rfl] at f
    obtain⟨fm,fl⟩:=f
    have aee:fa h (2+lv) x.k pv (x::l) pv cu x.k:=by unfold fa;rw [if_pos (aef _)];exact⟨rfl,hr.symm,rfl⟩
    rw [anA fm]
    refine hI rfl (gG hv hr ?_)
    generalize en:h.cl x.s (2+lv)=w2 at *
    show dP Q _ (h.wr pv (iC cu w2)) (aH ⟨6,la,pv,cu,bd,lv,w2,x.k,sp,fd⟩ ⟨cu,true⟩)
    rw [asb]
    have rp:(h.wr pv (iC cu w2)).rd pv=iC cu w2:=by rw [lT,if_pos ⟨rfl,rfl⟩]
    unfold onC
    dsimp only
    cases l with
    | nil =>
      rw [jP (show (iC cu w2).af=0 from fl.1)]
      exact dk (fun _ _ h=>h) (by omega:K<=_) (hK _ _ _ _ _ _ _ aee rp.symm)
    | cons z l =>
      rw [gp (by have:=fl.1;have:=fl.2.2.2.1;show 1<=w2.af;have:w2.af=z.s:=fl.1;omega)]
      have AM:qm (h.wr pv (iC cu w2)) (2+lv) (iC cu w2) (z::l):=by
       refine fJ (vB fl rfl rfl rfl) fun u hu u1 ul=>⟨by rw [de];exact ul,?_,?_⟩
       all_goals
        have dA:u.s≠pv.s:=fun e=>MZ.2 (e▸ad9 (f:=Sn.s) hu)
        unfold wr
        split
        ·rfl
        ·show (if u.s=_ /\ _ then _ else _)=_
         rw [if_neg fun e=>dA e.1]
      refine dk (fun _ _ h=>h) (by rw [abn];omega:(10 * (l.length+1)+K)+1<=_) (hI rfl (mb ?_))
      show dP Q _ (h.wr pv (iC cu w2)) (aH ⟨8,la,pv,iC cu w2,bd,lv,w2,x.k,sp,fd⟩ ⟨ao,true⟩)
      rw [ahV]
      refine Oc l0 l2 AM (yk.2 hv) rp fun pc p c nx k hp=>?_
      have hz:=hs.1 z abw
      unfold fa at hp
      rw [if_pos (by omega)] at hp
      obtain⟨rfl,p2,_⟩:=hp
      exact hK _ _ _ _ _ _ _ aee p2
   ·rw [if_neg SA] at f
    have F0:y∈l:=by
     rcases abk.1 hy with e | hy
     ·exact absurd (congrArg Sn.s e.symm) SA
     ·exact hy
    have hk:x.k < y.k:=hs.1 y F0
    generalize en:h.cl x.s (2+lv)=w2 at *
    rw [anB (KH f),aaZ (by omega:¬x.k>=bd)]
    refine hI rfl (mb ?_)
    show dP Q (10 * l.length+10+K) h (aH ⟨7,la,ay cu (2+lv),cu,bd,lv,w2,x.k,sp,fd⟩ ⟨ao,true⟩)
    rw [anz,ea]
    unfold onC
    dsimp only
    cases l with
    | nil=>cases F0
    | cons z l =>
      rw [gp (by have:=f.1;have:=f.2.2.2.1;omega)]
      refine dk (fun _ _ h=>h) (by rw [abn];omega:(10 * (l.length+1)+8+K)+1<=_) (hI rfl (mb ?_))
      show dP Q _ h (aH ⟨8,la,x.cW (2+lv),w2,bd,lv,w2,x.k,sp,fd⟩ ⟨ao,true⟩)
      rw [ahV]
      refine QH l0 l2 f (.inr ⟨c,d,by show 0<=2+lv;omega,by show 2+lv < 8;omega⟩) (by rw [<- ea];exact n2) hs.2 F0 (fun u hu=>hyu u (aby _ hu)) LX iS.1 iS.2 fun pc p c c0 k0 nx k hp hc=>hK pc p c c0 k0 nx k ?_ hc
      ·unfold fa;rw [if_neg (by omega)];exact hp
end
end
section
open Go Go.Sx Go.Proofs AH
section
variable {Q:aN->AH->Prop} {K:Nat} {h:AH} {la:Cl} {bd lv:Int} {sp:S3} {fd:W} {y:Sn}
theorem Yh (l0:0<=lv) (l2:lv<=2) {l:List Sn} {pv:Ad} {cu nx:W} {k i:Int} (hv:h.bG pv) (hl:TB h (2+lv) y (h.rd pv) l) (hs:BX l) (hy:y∈l) (hyu:∀z∈l,z.s=y.s->z=y) (LX:bd=y.k+1) (MZ:pv.s ∉ l.map Sn.s) (iS:(l.map Sn.s).Nodup)
 (hK:∀pc p c c0 k0 nx k,fa h (2+lv) y.k pv l p c0 k0->c=(h.wr p (iC c0 (h.cl y.s (2+lv)))).rd p->dP Q K (h.wr p (iC c0 (h.cl y.s (2+lv)))) (mz ⟨pc,la,p,c,bd,lv,nx,k,sp,fd⟩)):dP Q (10 * l.length+13+K) h ((bF pv i,true),⟨2,la,pv,cu,bd,lv,nx,k,sp,fd⟩):=by
 rw [show 10 * l.length+13+K=(10 * l.length+8+K)+5 by omega]
 refine zt rfl (gj hv ?_)
 show dP Q _ h (aH ⟨2,la,pv,cu,bd,lv,nx,k,sp,fd⟩ ⟨h.rd pv,true⟩)
 rw [anE (KH hl)]
 cases l with
 | nil=>cases hy
 | cons z l =>
   rw [gp (by have:=hl.1;have:=hl.2.2.2.1;omega)]
   exact QH l0 l2 hl hv rfl hs hy hyu LX MZ iS hK
end
theorem akC {h h':AH} {y:Sn} {f:Int} {p:Ad} {c:W} {k:Int} (to:(h'.rd p).af=(h.cl y.s f).af /\ (h'.rd p).gen=(h.cl y.s f).gen /\ (h'.rd p).mark=false) (BG:∀s g,s≠y.s->h.lv s g->h'.lv s g) (h0:∀s,1<=s->s≠y.s->h'.cl s 0=h.cl s 0) (hf:∀s,1<=s->s≠y.s->¬(s=p.s /\ f=p.f)->h'.cl s f=h.cl s f) :
 ∀{l:List Sn} {a:Ad},(¬(a.s=p.s /\ a.f=p.f)->h'.rd a=h.rd a)->TB h f y (h.rd a) l->BX l->y∈l->(∀z∈l,z.s=y.s->z=y)->fa h f y.k a l p c k->a.s ∉ l.map Sn.s->(l.map Sn.s).Nodup->qm h' f (h'.rd a) (sa y.k l)
 | [],a,ha,hl,hs,hy,hyu,hw,has,hd=>by cases hy
 | x::l,a,ha,hl,hs,hy,hyu,hw,has,hd=>by
   obtain⟨q1,q2,m,cc,d,e0,fo⟩:=hl
   unfold BX at hs
   rw [aeo] at hs
   rw [abv,abk,not_or] at has
   rw [abv,aem] at hd
   unfold fa at hw
   rw [show sa y.k (x::l)=if y.k<=x.k then l else x::sa y.k l from rfl]
   by_cases SA:x.s=y.s
   ·have exy:=hyu x abw SA
    subst exy
    rw [if_pos (aef _)] at hw ⊢
    rw [if_pos rfl] at fo
    obtain⟨w1,w2,w3⟩:=hw
    rw [w1] at to
    refine fJ (vB fo.2 to.1 to.2.1 to.2.2) fun u hu u1 ul=>?_
    have hux:u.s≠x.s:=fun e=>hd.1 (e▸ad9 (f:=Sn.s) hu)
    have hua:u.s≠a.s:=fun e=>has.2 (e▸ad9 (f:=Sn.s) hu)
    exact⟨BG _ _ hux ul,h0 _ u1 hux,hf _ u1 hux fun e=>hua (e.1.trans (congrArg Ad.s w1))⟩
   ·rw [if_neg SA] at fo
    have F0:y∈l:=by
     rcases abk.1 hy with e | hy
     ·exact absurd (congrArg Sn.s e.symm) SA
     ·exact hy
    have hk:=hs.1 y F0
    rw [if_neg (by omega)] at hw ⊢
    have hp:p.s≠a.s:=by
     rcases (gz hw).1 with e | ⟨u,hu,_,e⟩
     ·rw [e];exact fun e=>has.1 e.symm
     ·rw [e];exact fun e=>has.2 (adK.2 ⟨u,hu,e⟩)
    rw [ha fun e=>hp e.1.symm]
    have rx:∀H:AH,H.rd (x.cW f)=H.cl x.s f:=fun H=>by unfold rd;rw [if_neg (by show ¬x.s=0;omega)];rfl
    refine⟨q1,q2,m,cc,BG _ _ SA d,by rw [h0 _ cc SA];exact e0,?_⟩
    rw [<- rx] at fo ⊢
    exact akC to BG h0 hf (fun e=>by rw [rx,rx];exact hf _ cc SA e) fo hs.2 F0 (fun z hz=>hyu z (aby _ hz)) hw hd.1 hd.2
theorem zX {h h':AH} {f:Int} {y:Sn}:∀{l:List Sn} {w:W},TB h f y w l->(∀x∈l,1<=x.s->h.lv x.s x.g->h'.lv x.s x.g /\ h'.cl x.s 0=h.cl x.s 0 /\ h'.cl x.s f=h.cl x.s f)->TB h' f y w l
 | [],_,hp,_=>hp
 | x::l,w,⟨a,b,m,c,d,e0,fo⟩,hf=>by
   obtain⟨f1,f0,f3⟩:=hf x abw c d
   refine⟨a,b,m,c,f1,by rw [f0];exact e0,?_⟩
   rw [f3]
   by_cases e:x.s=y.s
   ·rw [if_pos e] at fo ⊢
    exact⟨fo.1,fJ fo.2 fun z hz=>hf z (aby _ hz)⟩
   ·rw [if_neg e] at fo ⊢
    exact zX fo fun z hz=>hf z (aby _ hz)
theorem PA {h:AH} {f:Int} {y z:Sn} {B:List Sn}:∀{A:List Sn} {w:W},(∀u∈A++[z],u.s≠y.s)->TB h f y w (A++z::B)->TB h f y (h.cl z.s f) B /\ 1<=z.s /\ h.lv z.s z.g
 | [],w,hu,⟨a,b,m,c,d,e0,fo⟩=>by
   rw [if_neg (hu z (by simp))] at fo
   exact⟨fo,c,d⟩
 | x::A,w,hu,⟨a,b,m,c,d,e0,fo⟩=>by
   rw [if_neg (hu x (by simp))] at fo
   exact PA (fun u h=>hu u (aby _ h)) fo
theorem UW {h h':AH} {f:Int} {y:Sn}:∀{l:List Sn} {w:W},qm h f w l->(l.map Sn.s).Nodup->(∀x∈l,1<=x.s->h.lv x.s x.g->h'.lv x.s x.g /\ h'.cl x.s 0=h.cl x.s 0 /\ (x.s≠y.s->h'.cl x.s f=h.cl x.s f))->((h'.cl y.s f).mark=true /\ (h'.cl y.s f).af=(h.cl y.s f).af /\ (h'.cl y.s f).gen=(h.cl y.s f).gen)->TB h' f y w l
 | [],_,hp,_,_,_=>hp
 | x::l,w,⟨a,b,m,c,d,e0,fo⟩,hn,hf,hy=>by
   rw [abv,aem] at hn
   obtain⟨f1,f0,f3⟩:=hf x abw c d
   refine⟨a,b,m,c,f1,by rw [f0];exact e0,?_⟩
   by_cases e:x.s=y.s
   ·rw [if_pos e,e]
    rw [e] at fo
    refine⟨hy.1,fJ (vB fo hy.2.1 hy.2.2 rfl) fun z hz z1 zl=>?_⟩
    obtain⟨g1,g0,g3⟩:=hf z (aby _ hz) z1 zl
    exact⟨g1,g0,g3 fun e2=>hn.1 (by rw [e,<- e2];exact ad9 hz)⟩
   ·rw [if_neg e,f3 e]
    exact UW fo hn.2 (fun z hz=>hf z (aby _ hz)) hy
end
section
open Go Go.Sx Go.Proofs AH
structure Mk (h hm:AH) (L:List Sn) (y:Sn):Prop where
 hi:ke h L
 hy:y∈L
 lv:hm.lv=h.lv
 bd:hm.bd=h.bd
 cl:∀s f,¬(s=y.s /\ 2<=f /\ f < 2+y.t)->hm.cl s f=h.cl s f
 mr:∀j,0<=j->j < y.t->(hm.cl y.s (2+j)).mark=true /\ (hm.cl y.s (2+j)).af=(h.cl y.s (2+j)).af /\ (hm.cl y.s (2+j)).gen=(h.cl y.s (2+j)).gen
theorem rv {h:AH} {L:List Sn} (hi:ke h L) {y z:Sn} (hy:y∈L) (hz:z∈L) (e:z.s=y.s):z=y:=by
 have hn:=hi.nd
 obtain⟨A,B,rfl⟩:=List.append_of_mem hy
 rw [aen,agd,abv,aem] at hn
 obtain⟨n1,⟨n2,n3⟩,n4⟩:=hn
 rcases aec.1 hz with hz | hz
 ·exact absurd e (n4 _ (ad9 hz) _ abw)
 ·rcases abk.1 hz with e2 | hz
  ·exact e2
  ·exact absurd (adK.2 ⟨z,hz,e⟩) n2
structure Dk (hm:AH) (L:List Sn) (y:Sn) (pm:Int->Ad) (cm:Int->W) (m:Int) (H:AH):Prop where
 lv:H.lv=hm.lv
 un:∀b:Ad,(∀j,m < j->j<=2->j < y.t->¬(b.s=(pm j).s /\ b.f=(pm j).f))->H.rd b=hm.rd b
 to:∀j,m < j->j<=2->j < y.t->H.rd (pm j)=iC (cm j) (hm.cl y.s (2+j))
 sp:∀j,m < j->j<=2->j < y.t->∃k,fa hm (2+j) y.k (aV j) (qt j L) (pm j) (cm j) k
section
variable {h hm:AH} {L:List Sn} {y:Sn}
theorem Ji (M:Mk h hm L y) {m:Int} (m0:0<=m) (m2:m<=2) (mt:m < y.t):TB hm (2+m) y (hm.bd m) (qt m L):=by
 rw [M.bd]
 refine UW (M.hi.QT m m0 m2) ((aeW.map Sn.s).nodup M.hi.nd) (fun x hx x1 xl=>⟨by rw [M.lv];exact xl,M.cl _ _ fun e=>by omega,fun dA=>M.cl _ _ fun e=>dA e.1⟩) (M.mr m m0 mt)
theorem DY (M:Mk h hm L y) {m:Int} (m0:0<=m) (m2:m<=2) (mt:¬m < y.t):qm hm (2+m) (hm.bd m) (qt m L):=by
 rw [M.bd]
 exact fJ (M.hi.QT m m0 m2) fun x hx x1 xl=>⟨by rw [M.lv];exact xl,M.cl _ _ fun e=>by omega,M.cl _ _ fun e=>by omega⟩
theorem Cu (M:Mk h hm L y) {j:Int} (j0:0<=j) (j2:j<=2) {p:Ad} (hp:p=aV j \/ ∃x∈qt j L,x.k < y.k /\ p=x.cW (2+j)):(p.s=0 /\ p.f=j) \/ (1<=p.s /\ p.f=2+j):=by
 rcases hp with rfl | ⟨x,hx,_,rfl⟩
 ·exact .inl ⟨rfl,rfl⟩
 ·exact .inr ⟨(eR M.hi (eI.1 hx).1).1,rfl⟩
theorem QG (M:Mk h hm L y) {pm:Int->Ad} {cm:Int->W} {m:Int} {H:AH} (D:Dk hm L y pm cm m H) (m0:0<=m):(∀s,1<=s->H.cl s 0=hm.cl s 0 /\ H.cl s (2+m)=hm.cl s (2+m) /\ H.cl s 1=hm.cl s 1) /\ H.bd m=hm.bd m:=by
 have ci:∀(K:AH) (s f:Int),1<=s->K.rd ⟨s,0,f⟩=K.cl s f:=fun K s f hs=>by unfold rd;rw [if_neg (by show ¬s=0;omega)]
 have sl:=fun j (h1:m < j) (h2:j<=2) (h3:j < y.t)=>Cu M (by omega) h2 (by
  obtain⟨k,hp⟩:=D.sp j h1 h2 h3
  exact(gz hp).1)
 have go:∀s f,1<=s->f<=2+m->H.cl s f=hm.cl s f:=fun s f hs hf=>by
  rw [<- ci H s f hs,<- ci hm s f hs]
  refine D.un _ fun j h1 h2 h3=>?_
  rintro ⟨e1,e2⟩
  have e1:s=(pm j).s:=e1
  have e2:f=(pm j).f:=e2
  rcases sl j h1 h2 h3 with q | q<;>omega
 refine⟨fun s hs=>⟨go s 0 hs (by omega),go s _ hs (by omega),go s 1 hs (by omega)⟩,?_⟩
 have:=D.un (aV m) fun j h1 h2 h3=>by
  rintro ⟨e1,e2⟩
  have e1:(0:Int)=(pm j).s:=e1
  have e2:m=(pm j).f:=e2
  rcases sl j h1 h2 h3 with q | q<;>omega
 exact this
end
end
section
open Go Go.Sx Go.Proofs AH
theorem xY {h h':AH} {f bd:Int} {p:Ad} {c:W} {k:Int}:∀{l:List Sn} {a:Ad},h'.rd a=h.rd a->(∀x∈l,h'.rd (x.cW f)=h.rd (x.cW f))->fa h' f bd a l p c k->fa h f bd a l p c k
 | [],a,ha,_,hw=>⟨hw.1,hw.2.trans ha⟩
 | x::l,a,ha,hx,hw=>by
   unfold fa at hw ⊢
   split
   ·rename_i e;rw [if_pos e] at hw;exact⟨hw.1,hw.2.1.trans ha,hw.2.2⟩
   ·rename_i e;rw [if_neg e] at hw
    exact xY (hx x abw) (fun z hz=>hx z (aby _ hz)) hw
theorem Py:∀{L:List Sn} {x y:Sn},BX L->x∈L->y∈L->x.k=y.k->x=y
 | z::L,x,y,hs,hx,hy,e=>by
   unfold BX at hs
   rw [aeo] at hs
   rcases abk.1 hx with e1 | h1<;>rcases abk.1 hy with e2 | h2
   ·rw [e1,e2]
   ·have:=hs.1 y h2;rw [e1] at e;omega
   ·have:=hs.1 x h1;rw [e2] at e;omega
   ·exact Py hs.2 h1 h2 e
structure DSt (H hm:AH) (L:List Sn) (y:Sn) (m:Int) (pv:Ad) (l:List Sn):Prop where
 va:H.bG pv
 dd:m < y.t->TB H (2+m) y (H.rd pv) l /\ y∈l
 cc:¬m < y.t->qm H (2+m) (H.rd pv) l
 ln:l.length<=L.length
 ss:BX l
 nd:(l.map Sn.s).Nodup
 ns:pv.s ∉ l.map Sn.s
 sb:∀x∈l,x∈qt m L
 up:∀bd p c k,y.k<=bd->fa H (2+m) bd pv l p c k->fa hm (2+m) bd (aV m) (qt m L) p c k
theorem ahL {h hm H:AH} {L:List Sn} {y:Sn} {pm:Int->Ad} {cm:Int->W} (M:Mk h hm L y) {m:Int} (m0:0<=m) (m2:m<=2) (D:Dk hm L y pm cm m H) {pv:Ad} {l:List Sn} (hs:Start y.k L m pv l):DSt H hm L y m pv l:=by
 obtain⟨dc,db⟩:=QG M D m0
 have rx:∀{x:Sn},x∈L->∀K:AH,K.rd (x.cW (2+m))=K.cl x.s (2+m):=fun {x} hx K=>by
  have:=(eR M.hi hx).1
  unfold rd;rw [if_neg (by show ¬x.s=0;omega)];rfl
 have ex:∀x∈L,H.rd (x.cW (2+m))=hm.rd (x.cW (2+m)):=fun x hx=>by rw [rx hx,rx hx];exact(dc _ (eR M.hi hx).1).2.1
 have Ln:((qt m L).map Sn.s).Nodup:=(aeW.map Sn.s).nodup M.hi.nd
 have Ls:=Jl (m:=m) M.hi.sr
 have yl:m < y.t->y∈qt m L:=fun h=>eI.2 ⟨M.hy,h⟩
 rcases hs with⟨rfl,rfl⟩ | ⟨x,A,e,rfl,hk⟩
 ·have eb:H.rd (aV m)=hm.bd m:=db
  refine⟨bU m0 (by omega),fun mt=>⟨?_,yl mt⟩,fun mt=>?_,CD,Ls,Ln,fun hx=>?_,fun x hx=>hx,fun bd p c k _ hp=>xY eb (fun x hx=>ex x (eI.1 hx).1) hp⟩
  ·rw [eb]
   exact zX (Ji M m0 m2 mt) fun x hx x1 xl=>⟨by rw [D.lv];exact xl,(dc _ x1).1,(dc _ x1).2.1⟩
  ·rw [eb]
   exact fJ (DY M m0 m2 mt) fun x hx x1 xl=>⟨by rw [D.lv];exact xl,(dc _ x1).1,(dc _ x1).2.1⟩
  ·obtain⟨z,hz,e⟩:=adK.1 hx
   have:=(eR M.hi (eI.1 hz).1).1
   have e:z.s=0:=e
   omega
 ·have Xe:x∈L:=(eI.1 (by rw [e];simp:x∈qt m L)).1
  have SA:x.s≠y.s:=fun e2=>by have:=rv M.hi M.hy Xe e2;subst this;omega
  rw [e] at Ln Ls
  have Ls0:=Ls
  rw [aen,agd,abv,aem] at Ln
  obtain⟨n1,⟨n2,n3⟩,n4⟩:=Ln
  unfold BX at Ls
  rw [List.pairwise_append,aeo] at Ls
  obtain⟨s1,⟨s2,s3⟩,s4⟩:=Ls
  have x1:=eR M.hi Xe
  have pM:∀z∈l,z∈qt m L:=fun z hz=>by rw [e];simp [hz]
  have ylt:m < y.t->y∈l:=fun mt=>by
   have:=yl mt
   rw [e] at this
   rcases aec.1 this with q | q
   ·have:=s4 y q x abw;omega
   ·rcases abk.1 q with q | q
    ·exact absurd (congrArg Sn.s q.symm) SA
    ·exact q
  refine⟨.inr ⟨x1.1,by rw [D.lv,M.lv];exact x1.2,by show 0<=2+m;omega,by show 2+m < 8;omega⟩,fun mt=>⟨?_,ylt mt⟩,fun mt=>?_,?_,s3,n3,n2,pM,fun bd p c k hb hp=>?_⟩
  ·rw [ex x Xe,rx Xe]
   have hd:=Ji M m0 m2 mt
   rw [e] at hd
   refine zX (PA (fun u hu e2=>?_) hd).1 fun z hz z1 zl=>⟨by rw [D.lv];exact zl,(dc _ z1).1,(dc _ z1).2.1⟩
   have huL:u∈L:=by
    rcases aec.1 hu with q | q
    ·exact(eI.1 (by rw [e];simp [q]:u∈qt m L)).1
    ·rw [aez.1 q];exact Xe
   have huy:=rv M.hi M.hy huL e2
   subst huy
   rcases aec.1 hu with q | q
   ·have:=s4 u q x abw;omega
   ·exact SA (congrArg Sn.s (aez.1 q).symm)
  ·rw [ex x Xe,rx Xe]
   have hd:=DY M m0 m2 mt
   rw [e] at hd
   exact fJ (ua hd).1 fun z hz z1 zl=>⟨by rw [D.lv];exact zl,(dc _ z1).1,(dc _ z1).2.1⟩
  ·have:=CD (m:=m) (L:=L);rw [e,abl,abn] at this;omega
  ·rw [e]
   exact Ba (by omega) (xY (ex x Xe) (fun z hz=>ex z (eI.1 (pM z hz)).1) hp) Ls0
end
section
open Go Go.Sx Go.Proofs AH
section
variable {h hm H:AH} {L:List Sn} {y:Sn} {pm:Int->Ad} {cm:Int->W}
theorem ab2 {m:Int} (mt:¬m < y.t) (D:Dk hm L y pm cm m H):Dk hm L y pm cm (m - 1) H :=
 ⟨D.lv,fun b hb=>D.un b fun j h1 h2 h3=>hb j (by omega) h2 h3,fun j h1 h2 h3=>D.to j (by omega) h2 h3,fun j h1 h2 h3=>D.sp j (by omega) h2 h3⟩
theorem ab1 (M:Mk h hm L y) {m:Int} (m0:0<=m) (m2:m<=2) (mt:m < y.t) (D:Dk hm L y pm cm m H) {p:Ad} {c0:W} {k0:Int} (hp:fa hm (2+m) y.k (aV m) (qt m L) p c0 k0) :
 Dk hm L y (fun j=>if j=m then p else pm j) (fun j=>if j=m then c0 else cm j) (m - 1) (H.wr p (iC c0 (H.cl y.s (2+m)))):=by
 have ey:=((QG M D m0).1 _ (eR M.hi M.hy).1).2.1
 rw [ey]
 refine⟨by rw [de];exact D.lv,fun b hb=>?_,fun j h1 h2 h3=>?_,fun j h1 h2 h3=>?_⟩
 ·have hbm:=hb m (by omega) m2 mt
  rw [if_pos rfl] at hbm
  rw [lT,if_neg hbm]
  refine D.un b fun j h1 h2 h3=>?_
  have:=hb j (by omega) h2 h3
  rwa [if_neg (by omega)] at this
 ·by_cases e:j=m
  ·subst e
   rw [if_pos rfl,if_pos rfl,lT,if_pos ⟨rfl,rfl⟩]
  ·rw [if_neg e,if_neg e,lT,if_neg]
   ·exact D.to j (by omega) h2 h3
   ·obtain⟨k,hq⟩:=D.sp j (by omega) h2 h3
    have s1:=Cu M m0 m2 (gz hp).1
    have s2:=Cu M (by omega) h2 (gz hq).1
    omega
 ·by_cases e:j=m
  ·subst e
   rw [if_pos rfl,if_pos rfl];exact⟨k0,hp⟩
  ·rw [if_neg e,if_neg e];exact D.sp j (by omega) h2 h3
def acP (hm:AH) (L:List Sn) (y:Sn) (c:aN) (H:AH):Prop:=∃pm cm,Dk hm L y pm cm (-1) H
theorem ahO (M:Mk h hm L y) {m:Int} (m0:0<=m) (m2:m<=2) (D:Dk hm L y pm cm m H) {pv:Ad} {l:List Sn} (hs:Start y.k L m pv l) {bd:Int} (LX:bd=y.k+1) {la:Cl} {cu nx fd:W} {k i:Int} {sp:S3} {Q:aN->AH->Prop} {K:Nat}
 (hK:∀pc p c nx k pm' cm' H',Dk hm L y pm' cm' (m - 1) H'->(p=aV m \/ ∃x∈qt m L,x.k < y.k /\ p=x.cW (2+m))->dP Q K H' (mz ⟨pc,la,p,c,bd,m,nx,k,sp,fd⟩)) :
 dP Q (10 * L.length+13+K) H ((bF pv i,true),⟨2,la,pv,cu,bd,m,nx,k,sp,fd⟩):=by
 have S:=ahL M m0 m2 D hs
 have ln:=S.ln
 by_cases mt:m < y.t
 ·obtain⟨d1,d2⟩:=S.dd mt
  refine dk (fun _ _ h=>h) (by omega:10 * l.length+13+K<=_) (Yh m0 m2 S.va d1 S.ss d2 (fun z hz e=>rv M.hi M.hy (eI.1 (S.sb z hz)).1 e) LX S.ns S.nd fun pc p c c0 k0 nx k hp hc=>?_)
  have hp:=S.up _ _ _ _ (aef _) hp
  exact hK _ _ _ _ _ _ _ _ (ab1 M m0 m2 mt D hp) (gz hp).1
 ·refine dk (fun _ _ h=>h) (by omega:10 * l.length+5+K<=_) (CF m0 m2 S.va (S.cc mt) fun pc p c nx k hp=>?_)
  have hp:=S.up _ _ _ _ (by omega) hp
  refine hK _ _ _ _ _ _ _ _ (ab2 mt D) ?_
  rcases (gz hp).1 with e | ⟨x,hx,hxk,e⟩
  ·exact .inl e
  ·refine .inr ⟨x,hx,?_,e⟩
   have dA:x.k≠y.k:=fun e2=>by
    have:=Py M.hi.sr (eI.1 hx).1 M.hy e2
    subst this
    exact mt (eI.1 hx).2
   omega
theorem BK (M:Mk h hm L y) {m:Int} (m0:0<=m) (m2:m < 2) {p:Ad} (hp:p=aV (m+1) \/ ∃x∈qt (m+1) L,x.k < y.k /\ p=x.cW (2+(m+1))):(p.s=0 /\ Start y.k L m (aV m) (qt m L)) \/ (1<=p.s /\ ∃l,Start y.k L m {p with f:=2+m} l):=by
 rcases hp with rfl | ⟨x,hx,hk,rfl⟩
 ·exact .inl ⟨rfl,.inl ⟨rfl,rfl⟩⟩
 ·obtain⟨x1,x2⟩:=eI.1 hx
  obtain⟨A,B,e⟩:=List.append_of_mem (eI.2 ⟨x1,(by omega:m < x.t)⟩)
  exact .inr ⟨(eR M.hi x1).1,B,.inr ⟨x,A,e,rfl,hk⟩⟩
variable {pv:Ad} {l:List Sn} {bd:Int} {la:Cl} {cu nx fd:W} {k i:Int} {sp:S3}
theorem akQ {p:Ad} (e:1<=p.s):(p.s==0)=false:=by
 cases hb:p.s==0 with
 | false=>rfl
 | true=>have:=QC hb;omega
theorem aeF (M:Mk h hm L y) (D:Dk hm L y pm cm 0 H) (hs:Start y.k L 0 pv l) (LX:bd=y.k+1):dP (acP hm L y) (10 * L.length+14) H ((bF pv i,true),⟨2,la,pv,cu,bd,0,nx,k,sp,fd⟩):=by
 refine ahO (K:=1) M (by decide) (by decide) D hs LX fun pc p c nx k pm' cm' H' D' _=>?_
 unfold mz
 dsimp only
 rw [if_pos rfl]
 cases gC (!(c.af==0)) (k==bd)<;>exact xZ rfl ⟨pm',cm',D'⟩
theorem aeE (M:Mk h hm L y) (D:Dk hm L y pm cm 1 H) (hs:Start y.k L 1 pv l) (LX:bd=y.k+1):dP (acP hm L y) (20 * L.length+28) H ((bF pv i,true),⟨2,la,pv,cu,bd,1,nx,k,sp,fd⟩):=by
 refine dk (fun _ _ h=>h) (by omega:10 * L.length+13+(10 * L.length+14+1)<=_) (ahO M (by decide) (by decide) D hs LX fun pc p c nx k pm' cm' H' D' hp=>?_)
 unfold mz
 dsimp only
 rw [if_neg (by decide)]
 rcases BK (m:=0) M (by decide) (by decide) hp with⟨e,hn⟩ | ⟨e,l',hn⟩
 ·rw [e]
  exact dk (fun _ _ h=>h) (by omega:10 * L.length+14<=_) (aeF M D' hn LX)
 ·rw [akQ e]
  refine hI rfl (mb ?_)
  exact aeF M D' hn LX
theorem anu (M:Mk h hm L y) (D:Dk hm L y pm cm 2 H) (hs:Start y.k L 2 pv l) (LX:bd=y.k+1):dP (acP hm L y) (30 * L.length+42) H ((bF pv i,true),⟨2,la,pv,cu,bd,2,nx,k,sp,fd⟩):=by
 refine dk (fun _ _ h=>h) (by omega:10 * L.length+13+(20 * L.length+28+1)<=_) (ahO M (by decide) (by decide) D hs LX fun pc p c nx k pm' cm' H' D' hp=>?_)
 unfold mz
 dsimp only
 rw [if_neg (by decide)]
 rcases BK (m:=1) M (by decide) (by decide) hp with⟨e,hn⟩ | ⟨e,l',hn⟩
 ·rw [e]
  exact dk (fun _ _ h=>h) (by omega:20 * L.length+28<=_) (aeE M D' hn LX)
 ·rw [akQ e]
  refine hI rfl (mb ?_)
  exact aeE M D' hn LX
theorem ahR (M:Mk h hm L y) (LX:bd=y.k+1) (x:cr):dP (acP hm L y) (30 * L.length+42) hm (aH (eW bd) x) :=
 anu (pm:=fun _=>gX) (cm:=fun _=>ao) M ⟨rfl,fun _ _=>rfl,fun j h1 h2 _=>by omega,fun j h1 h2 _=>by omega⟩ (.inl ⟨rfl,rfl⟩) LX
end
end
section
open Go Go.Sx Go.Proofs AH
theorem P4 {m:Int} {y:Sn}:∀{l:List Sn},BX l->y∈l->qt m (sa y.k l)=if m < y.t then sa y.k (qt m l) else qt m l
 | x::l,hs,hy=>by
   have hs0:=hs
   unfold BX at hs
   rw [aeo] at hs
   rw [show sa y.k (x::l)=if y.k<=x.k then l else x::sa y.k l from rfl]
   have lc:∀r:List Sn,qt m (x::r)=if m < x.t then x::qt m r else qt m r:=fun r=>by
    unfold qt
    rw [aeB]
    by_cases h:m < x.t
    ·rw [if_pos h,if_pos (aaS h)]
    ·rw [if_neg h,if_neg (by simpa using h)]
   by_cases hk:y.k<=x.k
   ·rw [if_pos hk]
    have e:x=y:=by
     rcases abk.1 hy with e | h
     ·exact e.symm
     ·have:=hs.1 y h;omega
    subst e
    rw [lc]
    by_cases h:m < x.t
    ·rw [if_pos h,if_pos h]
     show _=if x.k<=x.k then qt m l else _
     rw [if_pos (aef _)]
    ·rw [if_neg h,if_neg h]
   ·rw [if_neg hk]
    have F0:y∈l:=by
     rcases abk.1 hy with e | h
     ·subst e;exact absurd (aef _) hk
     ·exact h
    rw [lc,lc,P4 hs.2 F0]
    by_cases h:m < x.t
    ·rw [if_pos h,if_pos h]
     split
     ·show _=if y.k<=x.k then _ else x::sa y.k (qt m l)
      rw [if_neg hk]
     ·rfl
    ·rw [if_neg h,if_neg h]
theorem U0 {h hm H:AH} {L:List Sn} {y:Sn} {pm:Int->Ad} {cm:Int->W} (M:Mk h hm L y) (D:Dk hm L y pm cm (-1) H):ke H (sa y.k L) /\ H.lv=h.lv /\ H.cl y.s 7=h.cl y.s 7:=by
 have ci:∀(K:AH) (s f:Int),1<=s->K.rd ⟨s,0,f⟩=K.cl s f:=fun K s f hs=>by unfold rd;rw [if_neg (by show ¬s=0;omega)]
 have sl:=fun j (h1:-1 < j) (h2:j<=2) (h3:j < y.t)=>Cu M (by omega) h2 (by
  obtain⟨k,hp⟩:=D.sp j h1 h2 h3
  exact(gz hp).1)
 have cell:∀s f,1<=s->(∀j,-1 < j->j<=2->j < y.t->f=2+j->s≠(pm j).s)->H.cl s f=hm.cl s f:=fun s f hs hf=>by
  rw [<- ci H s f hs,<- ci hm s f hs]
  refine D.un _ fun j h1 h2 h3=>?_
  rintro ⟨e1,e2⟩
  have e1:s=(pm j).s:=e1
  have e2:f=(pm j).f:=e2
  rcases sl j h1 h2 h3 with q | q
  ·omega
  ·exact hf j h1 h2 h3 (by omega) e1
 have root:∀m,0<=m->(∀j,-1 < j->j<=2->j < y.t->j=m->¬(0=(pm j).s))->H.rd (aV m)=hm.rd (aV m):=fun m m0 hr=>by
  refine D.un _ fun j h1 h2 h3=>?_
  rintro ⟨e1,e2⟩
  have e1:(0:Int)=(pm j).s:=e1
  have e2:m=(pm j).f:=e2
  rcases sl j h1 h2 h3 with q | q
  ·exact hr j h1 h2 h3 (by omega) e1
  ·omega
 have y1:=eR M.hi M.hy
 refine⟨⟨fun m m0 m2=>?_,(od.map Sn.s).nodup M.hi.nd,List.Pairwise.sublist od M.hi.sr,fun x hx=>?_,fun x hx=>M.hi.rg x (od.subset hx)⟩,D.lv.trans M.lv,?_⟩
 ·rw [P4 M.hi.sr M.hy]
  by_cases mt:m < y.t
  ·rw [if_pos mt]
   obtain⟨k,hp⟩:=D.sp m (by omega) m2 mt
   have hto:=D.to m (by omega) m2 mt
   refine akC (h:=hm) (a:=aV m) (p:=pm m) (c:=cm m) (k:=k) (by rw [hto];exact⟨rfl,rfl,rfl⟩) (fun s g _ hg=>by rw [D.lv];exact hg) (fun s hs _=>cell s 0 hs fun j h1 _ _ e=>by omega) (fun s hs _ dA=>cell s _ hs fun j h1 h2 h3 e es=>?_) (fun dA=>root m m0 fun j h1 h2 h3 e es=>?_) (Ji M m0 m2 mt) (Jl M.hi.sr) (eI.2 ⟨M.hy,mt⟩) (fun z hz e=>rv M.hi M.hy (eI.1 hz).1 e) hp (fun hx=>?_) ((aeW.map Sn.s).nodup M.hi.nd)
   ·have e:j=m:=by omega
    subst e
    rcases sl j h1 h2 h3 with q | q
    ·omega
    ·exact dA ⟨es,q.2.symm⟩
   ·subst e
    rcases sl j h1 h2 h3 with q | q
    ·exact dA ⟨es,q.2.symm⟩
    ·omega
   ·obtain⟨z,hz,e⟩:=adK.1 hx
    have:=(eR M.hi (eI.1 hz).1).1
    have e:z.s=0:=e
    omega
  ·rw [if_neg mt]
   have hr:H.bd m=hm.bd m:=root m m0 fun j h1 h2 h3 e=>absurd (e▸h3) mt
   rw [hr]
   exact fJ (DY M m0 m2 mt) fun x hx x1 xl=>⟨by rw [D.lv];exact xl,cell _ _ x1 fun j h1 _ _ e=>by omega,cell _ _ x1 fun j h1 h2 h3 e=>by omega⟩
 ·have Xe:=od.subset hx
  obtain⟨x1,xl⟩:=eR M.hi Xe
  have t3:=(M.hi.da y M.hy).2.2.2.2
  rw [cell _ 1 x1 fun j h1 _ _ e=>by omega,cell _ 6 x1 fun j h1 h2 _ e=>by omega,cell _ 7 x1 fun j h1 h2 _ e=>by omega,M.cl _ _ fun e=>by omega,M.cl _ _ fun e=>by omega,M.cl _ _ fun e=>by omega]
  exact M.hi.da x Xe
 ·have t3:=(M.hi.da y M.hy).2.2.2.2
  rw [cell _ 7 y1.1 fun j h1 h2 _ e=>by omega,M.cl _ _ fun e=>by omega]
end
section
open Go Go.Sx Go.Proofs AH
theorem PJ {key:Int} {y:Sn}:∀{l:List Sn},BX l->y∈l->y.k=key->∀x∈sa key l,x.k≠key
 | z::l,hs,hy,hk,x,hx=>by
   unfold BX at hs
   rw [aeo] at hs
   rw [show sa key (z::l)=if key<=z.k then l else z::sa key l from rfl] at hx
   by_cases h:key<=z.k
   ·rw [if_pos h] at hx
    have:=hs.1 x hx;omega
   ·rw [if_neg h] at hx
    rcases abk.1 hx with e | hx
    ·subst e;omega
    ·rcases abk.1 hy with e | hy
     ·subst e;omega
     ·exact PJ hs.2 hy hk x hx
section
variable {h:AH} {L:List Sn} {y:Sn} {ky va ta:Int} {la:Cl} {inc:Int}
theorem ab3 {hm:AH} (M:Mk h hm L y) (hky:y.k=ky) (k0:0<=ky) (k1:ky < 256) (bC:Gf ky L=some y) {cb:Option aN} {lv:Int} (x:cr):b9 aM (MS L ⟨7,ky,va,ta⟩) (60 * L.length+170) hm (aM ⟨6,la,⟨7,ky,va,ta⟩,some (eW (cX ky)),⟨y.s,y.g,0,0,false⟩,lv,inc,y.v⟩ x):=by
 have ew:cX ky=ky+1:=ma (by omega)
 refine bT (fun _ _ h=>h) (by omega:(30 * L.length+42)+(30 * L.length+128)<=_) (uZ (J:=fun c=>⟨6,la,⟨7,ky,va,ta⟩,some c,⟨y.s,y.g,0,0,false⟩,lv,inc,y.v⟩) (co:=fun c=>ND 2 ⟨6,la,⟨7,ky,va,ta⟩,some c,⟨y.s,y.g,0,0,false⟩,lv,inc,y.v⟩) aj3 (fun c H hq=>?_) (ahR M (by rw [ew,hky]) x))
 obtain⟨pm,cm,D⟩:=hq
 obtain⟨hS,BG,h7⟩:=U0 M D
 obtain⟨y1,yl⟩:=eR M.hi M.hy
 have yl':H.lv y.s y.g:=by rw [BG];exact yl
 refine bB (dm (aZ (w:=⟨y.s,y.g,0,0,false⟩) y1 yl' (by decide) (by decide)) ?_)
 show b9 aM _ _ H (aM ⟨101,la,⟨7,ky,va,ta⟩,some c,⟨y.s,y.g,0,0,false⟩,lv,2,y.v⟩ ⟨H.rd (ay ⟨y.s,y.g,0,0,false⟩ 7),true⟩)
 rw [dJ y1,UJ]
 have hz:((H.cl y.s 7).bS==0)=false:=by
  cases hb:(H.cl y.s 7).bS==0 with
  | false=>rfl
  | true=>exact absurd (QC hb) (by rw [h7];exact(M.hi.da y M.hy).2.2.1)
 rw [show ((H.cl (⟨y.s,y.g,0,0,false⟩:W).af 7).bS==0)=false from hz]
 have hlen:(sa y.k L).length<=L.length:=od.length_le
 refine bT (fun _ _ h=>h) (by omega:(30 * (sa y.k L).length+20)+105<=_) (uZ (J:=fun c=>⟨103,la,⟨7,ky,va,ta⟩,some c,⟨y.s,y.g,0,0,false⟩,lv,2,y.v⟩) (co:=fun c=>UK ⟨103,la,⟨7,ky,va,ta⟩,some c,⟨y.s,y.g,0,0,false⟩,lv,2,y.v⟩) afC (fun c H' hq=>?_) (wh hS _))
 obtain⟨rfl,_⟩:=hq
 refine zi (vo (w:=⟨y.s,y.g,0,0,false⟩) y1 yl' ?_)
 show jE aM _ _ _ _ (aM ⟨104,la,⟨7,ky,va,ta⟩,some c,⟨y.s,y.g,0,0,false⟩,lv,2,y.v⟩ ⟨ao,true⟩)
 rw [afB]
 refine cK rfl (.inr (.inr ⟨y,bC,rfl,.inl ⟨rfl,?_⟩⟩))
 show ke (H'.JM y.s) (sa ky L)
 rw [<- hky]
 refine IP (h':=H'.JM y.s) hS (fun x hx x1 xl=>⟨⟨fun e=>?_,xl⟩,fun f=>rfl⟩) rfl
 have:=rv M.hi M.hy (od.subset hx) e
 subst this
 exact PJ M.hi.sr M.hy rfl _ hx rfl
