import Derived.Test.YtadmfaohjnjajaaGreatDoorBl
set_option linter.unusedVariables false
set_option linter.unusedSimpArgs false
set_option maxHeartbeats 0
set_option maxRecDepth 100000
namespace Go.Proofs.YtadmfaohjnjajaaGreatDoor
section
open Go Go.Sx Go.Proofs AH
def KW (L:List Sn) (o:O) (a:An) (h:AH):Prop :=
 (o.aj=6 /\ ((Aq o.key L=none /\ a=⟨1,0⟩ /\ ∃n:Sn,n.k=o.key /\ n.v=o.val /\ n.t=o.bI /\ jX h (pe n L)) \/ (Aq o.key L≠none /\ a=⟨3,0⟩ /\ jX h L) \/ (a=⟨4,0⟩ /\ jX h L)))
 \/ (o.aj≠6 /\ Aq o.key L=none /\ a=⟨2,0⟩ /\ jX h L)
 \/ (∃x,Aq o.key L=some x /\ a=⟨1,x.v⟩ /\ ((o.aj=7 /\ jX h (qL o.key L)) \/ (o.aj=8 /\ jX h L)))
theorem qT {key:Int}:∀{l:List Sn} {x:Sn},Aq key l=some x->x∈l /\ x.k=key
 | y::l,x,hx=>by
   unfold Aq at hx;split at hx
   ·split at hx
    ·cases hx;exact⟨aaV,by assumption⟩
    ·cases hx
   ·exact⟨aaW _ (qT hx).1,(qT hx).2⟩
theorem fq {h:AH} {L:List Sn} (hi:jX h L) {x:Sn} (hx:x∈L):1<=x.s /\ h.lv x.s x.g:=ze (hi.SL 0 (by decide) (by decide)) (by rw [Yf hi];exact hx)
theorem JP {h h':AH} {L:List Sn} (hi:jX h L) (hc:∀x∈L,1<=x.s->h.lv x.s x.g->h'.lv x.s x.g /\ ∀f,h'.cl x.s f=h.cl x.s f) (hb:h'.bd=h.bd):jX h' L :=
 ⟨fun m m0 m2=>by rw [hb];exact fV (hi.SL m m0 m2) fun x hx x1 hl=>(have q:=hc x (eT.1 hx).1 x1 hl;⟨q.1,q.2 _,q.2 _⟩),hi.nd,hi.sr,fun x hx=>by rw [(hc x hx (fq hi hx).1 (fq hi hx).2).2,(hc x hx (fq hi hx).1 (fq hi hx).2).2,(hc x hx (fq hi hx).1 (fq hi hx).2).2];exact hi.da x hx,hi.rg⟩
theorem abw {h:AH} {L:List Sn} (hi:jX h L) {la:Cl} {ky va ta:Int} {cb:Option aQ} {nd:W} {lv inc v:Int} (x:cJ):cB aN (KW L ⟨8,ky,va,ta⟩) (30 * L.length+30) h (aN ⟨0,la,⟨8,ky,va,ta⟩,cb,nd,lv,inc,v⟩ x):=by
 rw [ami];refine bW (fun _ _ h=>h) (by omega:(30 * L.length+20)+5<=_) (vU (J:=fun c=>⟨1,la,⟨8,ky,va,ta⟩,some c,nd,lv,inc,v⟩) (co:=fun c=>WB ⟨1,la,⟨8,ky,va,ta⟩,some c,nd,lv,inc,v⟩) amh (fun c h' hq=>?_) (xf hi x));obtain⟨rfl,hq⟩:=hq;have hf:=hq.fo;show cB aN _ 5 h' (cond (c.found.ae==0) (tm 2 0 ⟨1,la,⟨8,ky,va,ta⟩,some c,c.found,lv,inc,v⟩) (bC (az c.found 1),⟨2,la,⟨8,ky,va,ta⟩,some c,c.found,lv,inc,v⟩));cases bG:Aq ky L with
 | none =>rw [bG] at hf;have hf:c.found=aq:=hf;rw [hf];exact cP rfl (.inr (.inl ⟨by show (8:Int)≠6;decide,bG,rfl,hi⟩))
 | some y =>
   rw [bG] at hf;have hf:c.found=⟨y.s,y.g,0,0,false⟩:=hf;obtain⟨y1,yl⟩:=fq hi (qT bG).1;rw [hf,gL y1];refine bF (dv (bm (w:=⟨y.s,y.g,0,0,false⟩) y1 yl (by decide) (by decide)) ?_);show cB aN _ 4 h' (aN ⟨2,la,⟨8,ky,va,ta⟩,some c,⟨y.s,y.g,0,0,false⟩,lv,inc,v⟩ _);rw [amg];have hv:(h'.rd (az ⟨y.s,y.g,0,0,false⟩ 1)).bU=y.v:=by rw [dQ y1];exact(hi.da y (qT bG).1).1
   refine cP rfl (.inr (.inr ⟨y,bG,?_,.inr ⟨rfl,hi⟩⟩));show (⟨1,(h'.rd (az ⟨y.s,y.g,0,0,false⟩ 1)).bU⟩:An)=_;rw [hv]
structure Lk (h:AH) (L:List Sn) (n:W) (ky va ta:Int) (c:aQ) (i j:Int) (H:AH):Prop where
 Av:H.lv n.ae n.gen
 lvo:∀s g,s≠n.ae->h.lv s g->H.lv s g
 c0:(H.cl n.ae 0).bU=ky
 cv:(H.cl n.ae 1).bU=va
 c6:(H.cl n.ae 6).bU=ta
 c7:(H.cl n.ae 7).bU=0
 cf:∀m,0<=m->m < i->H.cl n.ae (2+m)=dB (aZ c m).2
 to:∀m,0<=m->m < j->H.rd (aZ c m).1=iV (aZ c m).2 n
 un:∀b:Ad,b.s≠n.ae->(∀m,0<=m->m < j->¬(b.s=(aZ c m).1.s /\ b.f=(aZ c m).1.f))->H.rd b=h.rd b
theorem Ed {h:AH} {bd:Int} {L:List Sn} {c:aQ} (hq:wq h bd L c) (m:Int) (m0:0<=m) (m2:m<=2):qF h bd L m (aZ c m).1 (aZ c m).2:=by
 obtain rfl | rfl | rfl:m=0 \/ m=1 \/ m=2:=by omega
 ·exact hq.s0
 ·exact hq.s1
 ·exact hq.s2
theorem w1 {i:Int} (h0:-5<=i) (h1:i < 5):di i=i+1:=mD (by omega)
theorem w2 {i:Int} (h0:-5<=i) (h1:i < 5):eZ 2 i=2+i:=by unfold eZ;exact mD (by omega)
section
variable {h:AH} {L:List Sn} {n:W} {ky va ta:Int} {c:aQ} {la:Cl} {inc v:Int}
theorem RO (hi:jX h L) (hq:wq h ky L c) (n1:1<=n.ae) (fr:∀x∈L,x.s≠n.ae) {j:Int} (j0:0<=j) (jt:j < ta) (t3:ta<=3) {H:AH} (hl:Lk h L n ky va ta c ta j H) :
 H.bM (aZ c j).1 /\ H.rd (aZ c j).1=(aZ c j).2 /\ Lk h L n ky va ta c ta (j+1) (H.wr (aZ c j).1 (iV (aZ c j).2 n)):=by
 have sp:=Ed hq;obtain⟨f1,f2,f3⟩:=sA hi j0 (by omega) (sp j j0 (by omega));have ps:(aZ c j).1.s≠n.ae:=by
  rcases f1 with e | ⟨x,hx,x1,xl,e⟩
  ·rw [e];show (0:Int)≠_;omega
  ·rw [e];exact fr x hx
 have ne:∀m,0<=m->m < j->¬((aZ c j).1.s=(aZ c m).1.s /\ (aZ c j).1.f=(aZ c m).1.f):=fun m m0 mj=>abA hi j0 (by omega) m0 (by omega) (by omega) (sp j j0 (by omega)) (sp m m0 (by omega));have cl:∀f,(H.wr (aZ c j).1 (iV (aZ c j).2 n)).cl n.ae f=H.cl n.ae f:=fun f=>by
  unfold wr;split
  ·rfl
  ·show (if n.ae=_ /\ _ then _ else _)=_;rw [if_neg fun e=>ps e.1.symm]
 refine⟨?_,(hl.un _ ps ne).trans f2.symm,⟨by rw [dm];exact hl.Av,fun s g hs hg=>by rw [dm];exact hl.lvo s g hs hg,by rw [cl];exact hl.c0,by rw [cl];exact hl.cv,by rw [cl];exact hl.c6,by rw [cl];exact hl.c7,fun m m0 mt=>by rw [cl];exact hl.cf m m0 mt,fun m m0 mj=>?_,fun b hb hm=>?_⟩⟩
 ·rcases f1 with e | ⟨x,hx,x1,xl,e⟩
  ·rw [e];exact b4 j0 (by omega)
  ·rw [e];exact .inr ⟨x1,hl.lvo _ _ (fr x hx) xl,by show 0<=2+j;omega,by show 2+j < 8;omega⟩
 ·by_cases e:m=j
  ·subst e;rw [mq,if_pos ⟨rfl,rfl⟩]
  ·rw [mq,if_neg fun q=>ne m m0 (by omega) ⟨q.1.symm,q.2.symm⟩];exact hl.to m m0 (by omega)
 ·rw [mq,if_neg (hm j j0 (by omega))];exact hl.un b hb fun m m0 mj=>hm m m0 (by omega)
theorem Io (hi:jX h L) (hq:wq h ky L c) (bG:Aq ky L=none) (k0:0<=ky) (k1:ky < 256) (n1:1<=n.ae) (fr:∀x∈L,x.s≠n.ae) (t1:1<=ta) (t3:ta<=3):∀(d:Nat) {j pc:Int} {H:AH},0<=j->j+d=ta->Lk h L n ky va ta c ta j H ->
 cB aN (KW L ⟨6,ky,va,ta⟩) (4+2 * d) H (Eb ⟨pc,la,⟨6,ky,va,ta⟩,some c,n,j,inc,0⟩)
 | 0,j,pc,H,j0,jt,hl=>by
   unfold Eb;dsimp only;rw [aaC (by omega:j>=ta)];refine bF (dv (bm n1 hl.Av (by decide) (by decide)) ?_);show cB aN _ 3 H (aN ⟨101,la,⟨6,ky,va,ta⟩,some c,n,j,1,0⟩ ⟨H.rd (az n 7),true⟩);rw [dQ n1,Wx,show (H.cl n.ae 7).bU=0 from hl.c7];refine bF (hP (bm n1 hl.Av (by decide) (by decide)) (dQ n1) ?_);show cB aN _ 2 _ (aN ⟨102,la,⟨6,ky,va,ta⟩,some c,n,j,1,0⟩ ⟨H.cl n.ae 7,true⟩);rw [ahl];have c7:∀f,(H.wr (az n 7) (fH (H.cl n.ae 7) 1)).cl n.ae f=if f=7 then fH (H.cl n.ae 7) 1 else H.cl n.ae f:=fun f=>by
    rw [gz n1];by_cases e:f=7
    ·rw [if_pos ⟨rfl,e⟩,if_pos e]
    ·rw [if_neg fun q=>e q.2,if_neg e]
   have rd:∀b:Ad,b.s≠n.ae->(H.wr (az n 7) (fH (H.cl n.ae 7) 1)).rd b=H.rd b:=fun b hb=>by rw [mq,if_neg fun e=>hb e.1]
   have jt:j=ta:=by omega
   subst jt;refine cP rfl (.inl ⟨rfl,.inl ⟨bG,rfl,⟨n.ae,n.gen,ky,va,j⟩,rfl,rfl,rfl,WO hi (pm:=fun m=>(aZ c m).1) (cm:=fun m=>(aZ c m).2) n1 fr t1 t3 k0 k1 bG (Ed hq) (by rw [dm];exact hl.Av) (fun s g hs hg=>by rw [dm];exact hl.lvo s g hs hg) ?_ ?_ ?_ ?_ (fun m m0 mt=>?_) (fun m m0 mt=>?_) fun b hb hm=>by rw [rd b hb];exact hl.un b hb hm⟩⟩)
   ·show (AH.cl _ n.ae 0).bU=ky;rw [c7,if_neg (by decide)];exact hl.c0
   ·show (AH.cl _ n.ae 1).bU=va;rw [c7,if_neg (by decide)];exact hl.cv
   ·show (AH.cl _ n.ae 6).bU=j;rw [c7,if_neg (by decide)];exact hl.c6
   ·show (AH.cl _ n.ae 7).bU≠0;rw [c7,if_pos rfl];show IntKind.wrap .i64 ((H.cl n.ae 7).bU+1)≠0;rw [hl.c7];decide
   ·show AH.cl _ n.ae (2+m)=_;have mt:m < j:=mt;rw [c7,if_neg (by omega)];exact hl.cf m m0 mt
   ·have OA:(aZ c m).1.s≠n.ae:=by
     have mt:m < j:=mt;rcases (sA hi m0 (by omega) (Ed hq m m0 (by omega))).1 with e | ⟨x,hx,x1,xl,e⟩
     ·rw [e];show (0:Int)≠_;omega
     ·rw [e];exact fr x hx
    show (AH.rd _ (aZ c m).1).ae=n.ae /\ (AH.rd _ (aZ c m).1).gen=n.gen /\ (AH.rd _ (aZ c m).1).mark=false;rw [rd _ OA,hl.to m m0 mt];exact⟨rfl,rfl,rfl⟩
 | d+1,j,pc,H,j0,jt,hl=>by
   unfold Eb;dsimp only;rw [aaK (by omega:¬j>=ta),w2 (by omega) (by omega)];refine bW (fun _ _ h=>h) (by omega:(4+2 * d)+1+1<=_) (bF (dv (bm n1 hl.Av (by omega) (by omega)) ?_));obtain⟨v1,v2,v3⟩:=RO hi hq n1 fr j0 (by omega) t3 hl;show cB aN _ _ H (aN ⟨9,la,⟨6,ky,va,ta⟩,some c,n,j,inc,0⟩ ⟨H.rd (az n (2+j)),true⟩);rw [dQ n1,hl.cf j j0 (by omega),amq _ rfl];have re:Xg (dB (aZ c j).2) (jr ⟨9,la,⟨6,ky,va,ta⟩,some c,n,j,inc,0⟩ j).2=true:=by show ((aZ c j).2.ae==(aZ c j).2.ae&&(aZ c j).2.gen==(aZ c j).2.gen)=true;simp
   rw [re];refine bF (hP v1 v2 ?_);show cB aN _ _ _ (aN ⟨11,la,⟨6,ky,va,ta⟩,some c,n,j,inc,0⟩ ⟨(aZ c j).2,true⟩);rw [ahm,w1 (by omega) (by omega)];exact Io hi hq bG k0 k1 n1 fr t1 t3 d (by omega) (by omega) v3
end
end
section
open Go Go.Sx Go.Proofs AH
section
variable {h:AH} {L:List Sn} {n:W} {ky va ta:Int} {c:aQ} {la:Cl} {inc v:Int}
theorem Iv (hi:jX h L) (hq:wq h ky L c) (bG:Aq ky L=none) (k0:0<=ky) (k1:ky < 256) (n1:1<=n.ae) (fr:∀x∈L,x.s≠n.ae) (t1:1<=ta) (t3:ta<=3):∀(d:Nat) {i l pc:Int} {H:AH},0<=i->i+d=ta->l=i - 1->Lk h L n ky va ta c i 0 H ->
 cB aN (KW L ⟨6,ky,va,ta⟩) (20+d) H (AO ⟨pc,la,⟨6,ky,va,ta⟩,some c,n,l,inc,0⟩)
 | 0,i,l,pc,H,i0,it,il,hl=>by
   subst il;unfold AO;dsimp only;rw [w1 (by omega) (by omega),show i - 1+1=i by omega,aaK (by omega:¬i < ta)];have it:i=ta:=by omega
   subst it;obtain⟨v1,v2,v3⟩:=RO hi hq n1 fr (adi 0) (by omega) t3 hl;refine bF (hP v1 v2 ?_);show cB aN _ _ _ (aN ⟨8,la,⟨6,ky,va,i⟩,some c,n,i,inc,0⟩ ⟨(aZ c 0).2,true⟩);rw [amr];exact bW (fun _ _ h=>h) (by omega:4+2 * (i - 1).toNat<=_) (Io hi hq bG k0 k1 n1 fr t1 t3 (i - 1).toNat (by decide) (by omega) v3)
 | d+1,i,l,pc,H,i0,it,il,hl=>by
   subst il;unfold AO;dsimp only;rw [w1 (by omega) (by omega),show i - 1+1=i by omega,aaC (by omega:i < ta),w2 (by omega) (by omega)];refine bF (iw (bm n1 hl.Av (by omega) (by omega)) ?_);show cB aN _ (20+d) _ (aN ⟨7,la,⟨6,ky,va,ta⟩,some c,n,i,inc,0⟩ ⟨aq,true⟩);rw [ams];have cl:∀f,(H.wr (az n (2+i)) (dB (aZ c i).2)).cl n.ae f=if f=2+i then dB (aZ c i).2 else H.cl n.ae f:=fun f=>by
    rw [gz n1];by_cases e:f=2+i
    ·rw [if_pos ⟨rfl,e⟩,if_pos e]
    ·rw [if_neg fun q=>e q.2,if_neg e]
   refine Iv hi hq bG k0 k1 n1 fr t1 t3 d (i:=i+1) (by omega) (by omega) (by omega) ⟨by rw [dm];exact hl.Av,fun s g hs hg=>by rw [dm];exact hl.lvo s g hs hg,?_,?_,?_,?_,fun m m0 mi=>?_,fun m m0 mi=>by omega,fun b hb hm=>?_⟩
   ·rw [show (jr _ i).2=(aZ c i).2 from rfl,cl,if_neg (by omega)];exact hl.c0
   ·rw [show (jr _ i).2=(aZ c i).2 from rfl,cl,if_neg (by omega)];exact hl.cv
   ·rw [show (jr _ i).2=(aZ c i).2 from rfl,cl,if_neg (by omega)];exact hl.c6
   ·rw [show (jr _ i).2=(aZ c i).2 from rfl,cl,if_neg (by omega)];exact hl.c7
   ·rw [show (jr _ i).2=(aZ c i).2 from rfl,cl];by_cases e:m=i
    ·subst e;rw [if_pos rfl]
    ·rw [if_neg (by omega)];exact hl.cf m m0 (by omega)
   ·rw [mq,if_neg fun e=>hb e.1];exact hl.un b hb fun m m0 mi=>by omega
end
theorem abv {h:AH} {L:List Sn} (hi:jX h L) {la:Cl} {ky va ta:Int} (k0:0<=ky) (k1:ky < 256) (t1:1<=ta) (t3:ta<=3) {cb:Option aQ} {nd:W} {lv inc:Int} (x:cJ):cB aN (KW L ⟨6,ky,va,ta⟩) (30 * L.length+58+2) h (aN ⟨0,la,⟨6,ky,va,ta⟩,cb,nd,lv,inc,0⟩ x):=by
 rw [amy];refine z7 (rV ?_ fun n n1 hf=>?_)
 ·show cB aN _ _ h (aN ⟨1,la,⟨6,ky,va,ta⟩,cb,nd,lv,inc,0⟩ ⟨aq,false⟩);rw [afk];exact cP rfl (.inl ⟨rfl,.inr (.inr ⟨rfl,hi⟩)⟩)
 have Av:(h.new n.ae n.gen).lv n.ae n.gen:=by show if n.ae=n.ae then n.gen=n.gen else _;rw [if_pos rfl]
 have fr:∀y∈L,y.s≠n.ae:=fun y hy e=>hf y.g (e▸(fq hi hy).2);show cB aN _ _ _ (aN ⟨1,la,⟨6,ky,va,ta⟩,cb,nd,lv,inc,0⟩ ⟨n,true⟩);rw [afk];refine bF (iw (bm n1 Av (by decide) (by decide)) ?_);show cB aN _ _ _ (aN ⟨2,la,⟨6,ky,va,ta⟩,cb,n,lv,inc,0⟩ ⟨aq,true⟩);rw [amx];refine bF (iw (bm n1 (by rw [dm];exact Av) (by decide) (by decide)) ?_);show cB aN _ _ _ (aN ⟨3,la,⟨6,ky,va,ta⟩,cb,n,lv,inc,0⟩ ⟨aq,true⟩);rw [amw];refine bF (iw (bm n1 (by rw [dm,dm];exact Av) (by decide) (by decide)) ?_);show cB aN _ (30 * L.length+55) (AH.wr (AH.wr (AH.wr (h.new n.ae n.gen) (az n 0) (dZ ky)) (az n 1) (dZ va)) (az n 6) (dZ ta)) (aN ⟨4,la,⟨6,ky,va,ta⟩,cb,n,lv,inc,0⟩ ⟨aq,true⟩);rw [amv];generalize e1:AH.wr (AH.wr (AH.wr (h.new n.ae n.gen) (az n 0) (dZ ky)) (az n 1) (dZ va)) (az n 6) (dZ ta)=h2;have b2:h2.bd=h.bd:=by subst e1;rw [uz n1,uz n1,uz n1];rfl
 have c2:∀y k,y≠n.ae->h2.cl y k=h.cl y k:=fun y k hy=>by subst e1;rw [gz n1,if_neg fun e=>hy e.1,gz n1,if_neg fun e=>hy e.1,gz n1,if_neg fun e=>hy e.1,AH.m6,if_neg hy]
 have l2:∀y g,y≠n.ae->(h2.lv y g↔h.lv y g):=fun y g hy=>by subst e1;rw [dm,dm,dm,Bk,if_neg hy]
 have Vd:h2.lv n.ae n.gen:=by subst e1;rw [dm,dm,dm];exact Av
 have q0:(h2.cl n.ae 0).bU=ky:=by subst e1;rw [gz n1,if_neg (by rintro ⟨_,e⟩;cases e),gz n1,if_neg (by rintro ⟨_,e⟩;cases e),gz n1,if_pos ⟨rfl,rfl⟩];rfl
 have q1:(h2.cl n.ae 1).bU=va:=by subst e1;rw [gz n1,if_neg (by rintro ⟨_,e⟩;cases e),gz n1,if_pos ⟨rfl,rfl⟩];rfl
 have q6:(h2.cl n.ae 6).bU=ta:=by subst e1;rw [gz n1,if_pos ⟨rfl,rfl⟩];rfl
 have q7:(h2.cl n.ae 7).bU=0:=by subst e1;rw [gz n1,if_neg (by rintro ⟨_,e⟩;cases e),gz n1,if_neg (by rintro ⟨_,e⟩;cases e),gz n1,if_neg (by rintro ⟨_,e⟩;cases e),AH.m6,if_pos rfl];rfl
 clear e1;have hi2:jX h2 L:=JP hi (fun y hy y1 yl=>⟨(l2 _ _ (fr y hy)).2 yl,fun f=>c2 _ _ (fr y hy)⟩) b2;refine bW (fun _ _ h=>h) (by omega:(30 * L.length+20)+30<=_) (vU (J:=fun c=>⟨5,la,⟨6,ky,va,ta⟩,some c,n,lv,inc,0⟩) (co:=fun c=>WA ⟨5,la,⟨6,ky,va,ta⟩,some c,n,lv,inc,0⟩) amu (fun c h' hq=>?_) (xf hi2 _));obtain⟨rfl,hq⟩:=hq;have Vi:=hq.fo;show cB aN _ 30 h' (cond (!(c.found.ae==0)) (qz n,⟨6,la,⟨6,ky,va,ta⟩,some c,n,lv,inc,0⟩) (AO ⟨5,la,⟨6,ky,va,ta⟩,some c,n,-1,inc,0⟩));cases bG:Aq ky L with
 | none =>rw [bG] at Vi;have Vi:c.found=aq:=Vi;rw [Vi];exact bW (fun _ _ h=>h) (by omega:20+ta.toNat<=30) (Iv hi2 hq bG k0 k1 n1 fr t1 t3 ta.toNat (i:=0) (by decide) (by omega) (by decide) ⟨Vd,fun s g _ h=>h,q0,q1,q6,q7,fun m m0 mi=>by omega,fun m m0 mi=>by omega,fun b _ _=>rfl⟩)
 | some y =>rw [bG] at Vi;have Vi:c.found=⟨y.s,y.g,0,0,false⟩:=Vi;obtain⟨y1,yl⟩:=fq hi2 (qT bG).1;rw [Vi,gL y1];refine bF (Jw n1 Vd ?_);show cB aN _ _ _ (aN ⟨6,la,⟨6,ky,va,ta⟩,some c,n,lv,inc,0⟩ ⟨aq,true⟩);rw [amt];exact cP rfl (.inl ⟨rfl,.inr (.inl ⟨(by rw [bG];intro e;cases e),rfl,JP (h':=h'.KK n.ae) hi2 (fun y hy y1 yl=>⟨⟨fr y hy,yl⟩,fun f=>rfl⟩) rfl⟩)⟩)
end
section
open Go Go.Sx Go.Proofs AH
def unm (w:W):W:=⟨w.ae,w.gen,w.tag,w.bU,false⟩
def Vl (h:AH) (f:Int) (y:Sn):W->List Sn->Prop
 | w,[]=>w.ae=0 /\ w.mark=false
 | w,x::l=>w.ae=x.s /\ w.gen=x.g /\ w.mark=false /\ 1<=x.s /\ h.lv x.s x.g /\ (h.cl x.s 0).bU=x.k /\ if x.s=y.s then(h.cl x.s f).mark=true /\ qS h f (unm (h.cl x.s f)) l else Vl h f y (h.cl x.s f) l
theorem LS {h:AH} {f:Int} {y:Sn} {l:List Sn} {w:W} (hl:Vl h f y w l):w.mark=false:=by
 cases l with
 | nil=>exact hl.2
 | cons x l=>exact hl.2.2.1
section
variable {Q:aQ->AH->Prop} {K:Nat} {h:AH} {la:Cl} {bd lv:Int} {sp:S3} {fd:W} {y:Sn}
theorem Sw (l0:0<=lv) (l2:lv<=2):∀{l:List Sn} {x:Sn} {pv:Ad} {cu nx:W} {k:Int},Vl h (2+lv) y cu (x::l)->h.bM pv->h.rd pv=cu->xY (x::l)->y∈x::l->(∀z∈x::l,z.s=y.s->z=y)->bd=y.k+1->pv.s ∉ (x::l).map Sn.s->((x::l).map Sn.s).Nodup ->
 (∀pc p c c0 k0 nx k,fB h (2+lv) y.k pv (x::l) p c0 k0->c=(h.wr p (iV c0 (h.cl y.s (2+lv)))).rd p->dY Q K (h.wr p (iV c0 (h.cl y.s (2+lv)))) (mS ⟨pc,la,p,c,bd,lv,nx,k,sp,fd⟩)) ->
 dY Q (10 * (l.length+1)+8+K) h ((bL (az cu (2+lv)) (3 * lv),true),⟨3,la,pv,cu,bd,lv,nx,k,sp,fd⟩)
 | l,x,pv,cu,nx,k,⟨a,b,m,c,d,e0,f⟩,hv,hr,hs,hy,hyu,Nw,OA,jQ,hK=>by
   have Sz:1<=cu.ae:=by omega
   have cul:h.lv cu.ae cu.gen:=by rw [a,b];exact d
   rw [show 10 * (l.length+1)+8+K=(10 * l.length+10+K)+1+1+1+5 by omega];have n2:h.rd (az cu (2+lv))=h.cl x.s (2+lv):=by rw [dQ Sz,a]
   have n0:(h.rd (az cu 0)).bU=x.k:=by rw [dQ Sz,a];exact e0
   have ea:az cu (2+lv)=x.dh (2+lv):=by unfold az Sn.dh;rw [a,b]
   refine Af rfl (gG (bm Sz cul (by omega) (by omega)) ?_);rw [n2];show dY Q _ h (aL ⟨3,la,pv,cu,bd,lv,nx,k,sp,fd⟩ ⟨h.cl x.s (2+lv),true⟩);rw [apU];refine iF rfl (dv (bm Sz cul (by decide) (by decide)) ?_);show dY Q _ h (aL ⟨4,la,pv,cu,bd,lv,h.cl x.s (2+lv),k,sp,fd⟩ ⟨h.rd (az cu 0),true⟩);rw [apT];refine iF rfl (dv hv ?_);show dY Q _ h (aL ⟨5,la,pv,cu,bd,lv,h.cl x.s (2+lv),(h.rd (az cu 0)).bU,sp,fd⟩ ⟨h.rd pv,true⟩);rw [hr,n0];have hs0:=hs;unfold xY at hs;rw [adF] at hs;rw [aaU,aaO,not_or] at OA;rw [aaU,ads] at jQ;by_cases PQ:x.s=y.s
   ·have exy:=hyu x aaV PQ;subst exy;rw [if_pos rfl] at f;obtain⟨fm,fl⟩:=f;have afS:fB h (2+lv) x.k pv (x::l) pv cu x.k:=by unfold fB;rw [if_pos (adi _)];exact⟨rfl,hr.symm,rfl⟩
    rw [apR fm];refine iF rfl (hP hv hr ?_);generalize en:h.cl x.s (2+lv)=w2 at *;show dY Q _ (h.wr pv (iV cu w2)) (aL ⟨6,la,pv,cu,bd,lv,w2,x.k,sp,fd⟩ ⟨cu,true⟩);rw [au2];have rp:(h.wr pv (iV cu w2)).rd pv=iV cu w2:=by rw [mq,if_pos ⟨rfl,rfl⟩]
    unfold onC;dsimp only;cases l with
    | nil =>rw [kr (show (iV cu w2).ae=0 from fl.1)];exact du (fun _ _ h=>h) (by omega:K<=_) (hK _ _ _ _ _ _ _ afS rp.symm)
    | cons z l =>
      rw [gL (by have:=fl.1;have:=fl.2.2.2.1;show 1<=w2.ae;have:w2.ae=z.s:=fl.1;omega)];have Co:qS (h.wr pv (iV cu w2)) (2+lv) (iV cu w2) (z::l):=by
       refine fV (wJ fl rfl rfl rfl) fun u hu u1 ul=>⟨by rw [dm];exact ul,?_,?_⟩
       all_goals
        have dE:u.s≠pv.s:=fun e=>OA.2 (e▸adf (f:=Sn.s) hu);unfold wr;split
        ·rfl
        ·show (if u.s=_ /\ _ then _ else _)=_;rw [if_neg fun e=>dE e.1]
      refine du (fun _ _ h=>h) (by rw [aaQ];omega:(10 * (l.length+1)+K)+1<=_) (iF rfl (mE ?_));show dY Q _ (h.wr pv (iV cu w2)) (aL ⟨8,la,pv,iV cu w2,bd,lv,w2,x.k,sp,fd⟩ ⟨aq,true⟩);rw [ajX];refine PI l0 l2 Co (yZ.2 hv) rp fun pc p c nx k hp=>?_;have hz:=hs.1 z aaV;unfold fB at hp;rw [if_pos (by omega)] at hp;obtain⟨rfl,p2,_⟩:=hp;exact hK _ _ _ _ _ _ _ afS p2
   ·rw [if_neg PQ] at f;have G9:y∈l:=by
     rcases aaO.1 hy with e | hy
     ·exact absurd (congrArg Sn.s e.symm) PQ
     ·exact hy
    have hk:x.k < y.k:=hs.1 y G9;generalize en:h.cl x.s (2+lv)=w2 at *;rw [apS (LS f),aaK (by omega:¬x.k>=bd)];refine iF rfl (mE ?_);show dY Q (10 * l.length+10+K) h (aL ⟨7,la,az cu (2+lv),cu,bd,lv,w2,x.k,sp,fd⟩ ⟨aq,true⟩);rw [apQ,ea];unfold onC;dsimp only;cases l with
    | nil=>cases G9
    | cons z l =>
      rw [gL (by have:=f.1;have:=f.2.2.2.1;omega)];refine du (fun _ _ h=>h) (by rw [aaQ];omega:(10 * (l.length+1)+8+K)+1<=_) (iF rfl (mE ?_));show dY Q _ h (aL ⟨8,la,x.dh (2+lv),w2,bd,lv,w2,x.k,sp,fd⟩ ⟨aq,true⟩);rw [ajX];refine Sw l0 l2 f (.inr ⟨c,d,by show 0<=2+lv;omega,by show 2+lv < 8;omega⟩) (by rw [<- ea];exact n2) hs.2 G9 (fun u hu=>hyu u (aaW _ hu)) Nw jQ.1 jQ.2 fun pc p c c0 k0 nx k hp hc=>hK pc p c c0 k0 nx k ?_ hc
      ·unfold fB;rw [if_neg (by omega)];exact hp
end
end
section
open Go Go.Sx Go.Proofs AH
section
variable {Q:aQ->AH->Prop} {K:Nat} {h:AH} {la:Cl} {bd lv:Int} {sp:S3} {fd:W} {y:Sn}
theorem ZP (l0:0<=lv) (l2:lv<=2) {l:List Sn} {pv:Ad} {cu nx:W} {k i:Int} (hv:h.bM pv) (hl:Vl h (2+lv) y (h.rd pv) l) (hs:xY l) (hy:y∈l) (hyu:∀z∈l,z.s=y.s->z=y) (Nw:bd=y.k+1) (OA:pv.s ∉ l.map Sn.s) (jQ:(l.map Sn.s).Nodup)
 (hK:∀pc p c c0 k0 nx k,fB h (2+lv) y.k pv l p c0 k0->c=(h.wr p (iV c0 (h.cl y.s (2+lv)))).rd p->dY Q K (h.wr p (iV c0 (h.cl y.s (2+lv)))) (mS ⟨pc,la,p,c,bd,lv,nx,k,sp,fd⟩)):dY Q (10 * l.length+13+K) h ((bL pv i,true),⟨2,la,pv,cu,bd,lv,nx,k,sp,fd⟩):=by
 rw [show 10 * l.length+13+K=(10 * l.length+8+K)+5 by omega];refine Af rfl (gG hv ?_);show dY Q _ h (aL ⟨2,la,pv,cu,bd,lv,nx,k,sp,fd⟩ ⟨h.rd pv,true⟩);rw [apV (LS hl)];cases l with
 | nil=>cases hy
 | cons z l =>rw [gL (by have:=hl.1;have:=hl.2.2.2.1;omega)];exact Sw l0 l2 hl hv rfl hs hy hyu Nw OA jQ hK
end
theorem amR {h h':AH} {y:Sn} {f:Int} {p:Ad} {c:W} {k:Int} (to:(h'.rd p).ae=(h.cl y.s f).ae /\ (h'.rd p).gen=(h.cl y.s f).gen /\ (h'.rd p).mark=false) (Cn:∀s g,s≠y.s->h.lv s g->h'.lv s g) (h0:∀s,1<=s->s≠y.s->h'.cl s 0=h.cl s 0) (hf:∀s,1<=s->s≠y.s->¬(s=p.s /\ f=p.f)->h'.cl s f=h.cl s f) :
 ∀{l:List Sn} {a:Ad},(¬(a.s=p.s /\ a.f=p.f)->h'.rd a=h.rd a)->Vl h f y (h.rd a) l->xY l->y∈l->(∀z∈l,z.s=y.s->z=y)->fB h f y.k a l p c k->a.s ∉ l.map Sn.s->(l.map Sn.s).Nodup->qS h' f (h'.rd a) (qL y.k l)
 | [],a,ha,hl,hs,hy,hyu,hw,has,hd=>by cases hy
 | x::l,a,ha,hl,hs,hy,hyu,hw,has,hd=>by
   obtain⟨q1,q2,m,cc,d,e0,fo⟩:=hl;unfold xY at hs;rw [adF] at hs;rw [aaU,aaO,not_or] at has;rw [aaU,ads] at hd;unfold fB at hw;rw [show qL y.k (x::l)=if y.k<=x.k then l else x::qL y.k l from rfl];by_cases PQ:x.s=y.s
   ·have exy:=hyu x aaV PQ;subst exy;rw [if_pos (adi _)] at hw ⊢;rw [if_pos rfl] at fo;obtain⟨w1,w2,w3⟩:=hw;rw [w1] at to;refine fV (wJ fo.2 to.1 to.2.1 to.2.2) fun u hu u1 ul=>?_;have hux:u.s≠x.s:=fun e=>hd.1 (e▸adf (f:=Sn.s) hu);have hua:u.s≠a.s:=fun e=>has.2 (e▸adf (f:=Sn.s) hu);exact⟨Cn _ _ hux ul,h0 _ u1 hux,hf _ u1 hux fun e=>hua (e.1.trans (congrArg Ad.s w1))⟩
   ·rw [if_neg PQ] at fo;have G9:y∈l:=by
     rcases aaO.1 hy with e | hy
     ·exact absurd (congrArg Sn.s e.symm) PQ
     ·exact hy
    have hk:=hs.1 y G9;rw [if_neg (by omega)] at hw ⊢;have hp:p.s≠a.s:=by
     rcases (gS hw).1 with e | ⟨u,hu,_,e⟩
     ·rw [e];exact fun e=>has.1 e.symm
     ·rw [e];exact fun e=>has.2 (ac0.2 ⟨u,hu,e⟩)
    rw [ha fun e=>hp e.1.symm];have rx:∀H:AH,H.rd (x.dh f)=H.cl x.s f:=fun H=>by unfold rd;rw [if_neg (by show ¬x.s=0;omega)];rfl
    refine⟨q1,q2,m,cc,Cn _ _ PQ d,by rw [h0 _ cc PQ];exact e0,?_⟩;rw [<- rx] at fo ⊢;exact amR to Cn h0 hf (fun e=>by rw [rx,rx];exact hf _ cc PQ e) fo hs.2 G9 (fun z hz=>hyu z (aaW _ hz)) hw hd.1 hd.2
theorem AQ {h h':AH} {f:Int} {y:Sn}:∀{l:List Sn} {w:W},Vl h f y w l->(∀x∈l,1<=x.s->h.lv x.s x.g->h'.lv x.s x.g /\ h'.cl x.s 0=h.cl x.s 0 /\ h'.cl x.s f=h.cl x.s f)->Vl h' f y w l
 | [],_,hp,_=>hp
 | x::l,w,⟨a,b,m,c,d,e0,fo⟩,hf=>by
   obtain⟨f1,f0,f3⟩:=hf x aaV c d;refine⟨a,b,m,c,f1,by rw [f0];exact e0,?_⟩;rw [f3];by_cases e:x.s=y.s
   ·rw [if_pos e] at fo ⊢;exact⟨fo.1,fV fo.2 fun z hz=>hf z (aaW _ hz)⟩
   ·rw [if_neg e] at fo ⊢;exact AQ fo fun z hz=>hf z (aaW _ hz)
theorem Q7 {h:AH} {f:Int} {y z:Sn} {B:List Sn}:∀{A:List Sn} {w:W},(∀u∈A++[z],u.s≠y.s)->Vl h f y w (A++z::B)->Vl h f y (h.cl z.s f) B /\ 1<=z.s /\ h.lv z.s z.g
 | [],w,hu,⟨a,b,m,c,d,e0,fo⟩=>by rw [if_neg (hu z (by simp))] at fo;exact⟨fo,c,d⟩
 | x::A,w,hu,⟨a,b,m,c,d,e0,fo⟩=>by rw [if_neg (hu x (by simp))] at fo;exact Q7 (fun u h=>hu u (aaW _ h)) fo
theorem WJ {h h':AH} {f:Int} {y:Sn}:∀{l:List Sn} {w:W},qS h f w l->(l.map Sn.s).Nodup->(∀x∈l,1<=x.s->h.lv x.s x.g->h'.lv x.s x.g /\ h'.cl x.s 0=h.cl x.s 0 /\ (x.s≠y.s->h'.cl x.s f=h.cl x.s f))->((h'.cl y.s f).mark=true /\ (h'.cl y.s f).ae=(h.cl y.s f).ae /\ (h'.cl y.s f).gen=(h.cl y.s f).gen)->Vl h' f y w l
 | [],_,hp,_,_,_=>hp
 | x::l,w,⟨a,b,m,c,d,e0,fo⟩,hn,hf,hy=>by
   rw [aaU,ads] at hn;obtain⟨f1,f0,f3⟩:=hf x aaV c d;refine⟨a,b,m,c,f1,by rw [f0];exact e0,?_⟩;by_cases e:x.s=y.s
   ·rw [if_pos e,e];rw [e] at fo;refine⟨hy.1,fV (wJ fo hy.2.1 hy.2.2 rfl) fun z hz z1 zl=>?_⟩;obtain⟨g1,g0,g3⟩:=hf z (aaW _ hz) z1 zl;exact⟨g1,g0,g3 fun e2=>hn.1 (by rw [e,<- e2];exact adf hz)⟩
   ·rw [if_neg e,f3 e];exact WJ fo hn.2 (fun z hz=>hf z (aaW _ hz)) hy
end
section
open Go Go.Sx Go.Proofs AH
structure Mk (h hm:AH) (L:List Sn) (y:Sn):Prop where
 hi:jX h L
 hy:y∈L
 lv:hm.lv=h.lv
 bd:hm.bd=h.bd
 cl:∀s f,¬(s=y.s /\ 2<=f /\ f < 2+y.t)->hm.cl s f=h.cl s f
 mr:∀j,0<=j->j < y.t->(hm.cl y.s (2+j)).mark=true /\ (hm.cl y.s (2+j)).ae=(h.cl y.s (2+j)).ae /\ (hm.cl y.s (2+j)).gen=(h.cl y.s (2+j)).gen
theorem sB {h:AH} {L:List Sn} (hi:jX h L) {y z:Sn} (hy:y∈L) (hz:z∈L) (e:z.s=y.s):z=y:=by
 have hn:=hi.nd;obtain⟨A,B,rfl⟩:=List.append_of_mem hy;rw [adA,afN,aaU,ads] at hn;obtain⟨n1,⟨n2,n3⟩,n4⟩:=hn;rcases adg.1 hz with hz | hz
 ·exact absurd e (n4 _ (adf hz) _ aaV)
 ·rcases aaO.1 hz with e2 | hz
  ·exact e2
  ·exact absurd (ac0.2 ⟨z,hz,e⟩) n2
structure Dk (hm:AH) (L:List Sn) (y:Sn) (pm:Int->Ad) (cm:Int->W) (m:Int) (H:AH):Prop where
 lv:H.lv=hm.lv
 un:∀b:Ad,(∀j,m < j->j<=2->j < y.t->¬(b.s=(pm j).s /\ b.f=(pm j).f))->H.rd b=hm.rd b
 to:∀j,m < j->j<=2->j < y.t->H.rd (pm j)=iV (cm j) (hm.cl y.s (2+j))
 sp:∀j,m < j->j<=2->j < y.t->∃k,fB hm (2+j) y.k (bc j) (qZ j L) (pm j) (cm j) k
section
variable {h hm:AH} {L:List Sn} {y:Sn}
theorem Kb (M:Mk h hm L y) {m:Int} (m0:0<=m) (m2:m<=2) (mt:m < y.t):Vl hm (2+m) y (hm.bd m) (qZ m L):=by rw [M.bd];refine WJ (M.hi.SL m m0 m2) ((afr.map Sn.s).nodup M.hi.nd) (fun x hx x1 xl=>⟨by rw [M.lv];exact xl,M.cl _ _ fun e=>by omega,fun dE=>M.cl _ _ fun e=>dE e.1⟩) (M.mr m m0 mt)
theorem EX (M:Mk h hm L y) {m:Int} (m0:0<=m) (m2:m<=2) (mt:¬m < y.t):qS hm (2+m) (hm.bd m) (qZ m L):=by rw [M.bd];exact fV (M.hi.SL m m0 m2) fun x hx x1 xl=>⟨by rw [M.lv];exact xl,M.cl _ _ fun e=>by omega,M.cl _ _ fun e=>by omega⟩
theorem Da (M:Mk h hm L y) {j:Int} (j0:0<=j) (j2:j<=2) {p:Ad} (hp:p=bc j \/ ∃x∈qZ j L,x.k < y.k /\ p=x.dh (2+j)):(p.s=0 /\ p.f=j) \/ (1<=p.s /\ p.f=2+j):=by
 rcases hp with rfl | ⟨x,hx,_,rfl⟩
 ·exact .inl ⟨rfl,rfl⟩
 ·exact .inr ⟨(fq M.hi (eT.1 hx).1).1,rfl⟩
theorem Su (M:Mk h hm L y) {pm:Int->Ad} {cm:Int->W} {m:Int} {H:AH} (D:Dk hm L y pm cm m H) (m0:0<=m):(∀s,1<=s->H.cl s 0=hm.cl s 0 /\ H.cl s (2+m)=hm.cl s (2+m) /\ H.cl s 1=hm.cl s 1) /\ H.bd m=hm.bd m:=by
 have ci:∀(K:AH) (s f:Int),1<=s->K.rd ⟨s,0,f⟩=K.cl s f:=fun K s f hs=>by unfold rd;rw [if_neg (by show ¬s=0;omega)]
 have sl:=fun j (h1:m < j) (h2:j<=2) (h3:j < y.t)=>Da M (by omega) h2 (by
  obtain⟨k,hp⟩:=D.sp j h1 h2 h3;exact(gS hp).1)
 have go:∀s f,1<=s->f<=2+m->H.cl s f=hm.cl s f:=fun s f hs hf=>by rw [<- ci H s f hs,<- ci hm s f hs];refine D.un _ fun j h1 h2 h3=>?_;rintro ⟨e1,e2⟩;have e1:s=(pm j).s:=e1;have e2:f=(pm j).f:=e2;rcases sl j h1 h2 h3 with q | q<;>omega
 refine⟨fun s hs=>⟨go s 0 hs (by omega),go s _ hs (by omega),go s 1 hs (by omega)⟩,?_⟩;have:=D.un (bc m) fun j h1 h2 h3=>by rintro ⟨e1,e2⟩;have e1:(0:Int)=(pm j).s:=e1;have e2:m=(pm j).f:=e2;rcases sl j h1 h2 h3 with q | q<;>omega
 exact this
end
end
section
open Go Go.Sx Go.Proofs AH
theorem yL {h h':AH} {f bd:Int} {p:Ad} {c:W} {k:Int}:∀{l:List Sn} {a:Ad},h'.rd a=h.rd a->(∀x∈l,h'.rd (x.dh f)=h.rd (x.dh f))->fB h' f bd a l p c k->fB h f bd a l p c k
 | [],a,ha,_,hw=>⟨hw.1,hw.2.trans ha⟩
 | x::l,a,ha,hx,hw=>by
   unfold fB at hw ⊢;split
   ·rename_i e;rw [if_pos e] at hw;exact⟨hw.1,hw.2.1.trans ha,hw.2.2⟩
   ·rename_i e;rw [if_neg e] at hw;exact yL (hx x aaV) (fun z hz=>hx z (aaW _ hz)) hw
theorem Q5:∀{L:List Sn} {x y:Sn},xY L->x∈L->y∈L->x.k=y.k->x=y
 | z::L,x,y,hs,hx,hy,e=>by
   unfold xY at hs;rw [adF] at hs;rcases aaO.1 hx with e1 | h1<;>rcases aaO.1 hy with e2 | h2
   ·rw [e1,e2]
   ·have:=hs.1 y h2;rw [e1] at e;omega
   ·have:=hs.1 x h1;rw [e2] at e;omega
   ·exact Q5 hs.2 h1 h2 e
structure DSt (H hm:AH) (L:List Sn) (y:Sn) (m:Int) (pv:Ad) (l:List Sn):Prop where
 va:H.bM pv
 dd:m < y.t->Vl H (2+m) y (H.rd pv) l /\ y∈l
 cc:¬m < y.t->qS H (2+m) (H.rd pv) l
 ln:l.length<=L.length
 ss:xY l
 nd:(l.map Sn.s).Nodup
 ns:pv.s ∉ l.map Sn.s
 sb:∀x∈l,x∈qZ m L
 up:∀bd p c k,y.k<=bd->fB H (2+m) bd pv l p c k->fB hm (2+m) bd (bc m) (qZ m L) p c k
theorem ajJ {h hm H:AH} {L:List Sn} {y:Sn} {pm:Int->Ad} {cm:Int->W} (M:Mk h hm L y) {m:Int} (m0:0<=m) (m2:m<=2) (D:Dk hm L y pm cm m H) {pv:Ad} {l:List Sn} (hs:Start y.k L m pv l):DSt H hm L y m pv l:=by
 obtain⟨dc,db⟩:=Su M D m0;have rx:∀{x:Sn},x∈L->∀K:AH,K.rd (x.dh (2+m))=K.cl x.s (2+m):=fun {x} hx K=>by have:=(fq M.hi hx).1;unfold rd;rw [if_neg (by show ¬x.s=0;omega)];rfl
 have ex:∀x∈L,H.rd (x.dh (2+m))=hm.rd (x.dh (2+m)):=fun x hx=>by rw [rx hx,rx hx];exact(dc _ (fq M.hi hx).1).2.1
 have Ln:((qZ m L).map Sn.s).Nodup:=(afr.map Sn.s).nodup M.hi.nd;have Ls:=Kf (m:=m) M.hi.sr;have yl:m < y.t->y∈qZ m L:=fun h=>eT.2 ⟨M.hy,h⟩;rcases hs with⟨rfl,rfl⟩ | ⟨x,A,e,rfl,hk⟩
 ·have eb:H.rd (bc m)=hm.bd m:=db;refine⟨b4 m0 (by omega),fun mt=>⟨?_,yl mt⟩,fun mt=>?_,Dr,Ls,Ln,fun hx=>?_,fun x hx=>hx,fun bd p c k _ hp=>yL eb (fun x hx=>ex x (eT.1 hx).1) hp⟩
  ·rw [eb];exact AQ (Kb M m0 m2 mt) fun x hx x1 xl=>⟨by rw [D.lv];exact xl,(dc _ x1).1,(dc _ x1).2.1⟩
  ·rw [eb];exact fV (EX M m0 m2 mt) fun x hx x1 xl=>⟨by rw [D.lv];exact xl,(dc _ x1).1,(dc _ x1).2.1⟩
  ·obtain⟨z,hz,e⟩:=ac0.1 hx;have:=(fq M.hi (eT.1 hz).1).1;have e:z.s=0:=e;omega
 ·have YT:x∈L:=(eT.1 (by rw [e];simp:x∈qZ m L)).1;have PQ:x.s≠y.s:=fun e2=>by have:=sB M.hi M.hy YT e2;subst this;omega
  rw [e] at Ln Ls;have Ls0:=Ls;rw [adA,afN,aaU,ads] at Ln;obtain⟨n1,⟨n2,n3⟩,n4⟩:=Ln;unfold xY at Ls;rw [List.pairwise_append,adF] at Ls;obtain⟨s1,⟨s2,s3⟩,s4⟩:=Ls;have x1:=fq M.hi YT;have qg:∀z∈l,z∈qZ m L:=fun z hz=>by rw [e];simp [hz]
  have ylt:m < y.t->y∈l:=fun mt=>by
   have:=yl mt;rw [e] at this;rcases adg.1 this with q | q
   ·have:=s4 y q x aaV;omega
   ·rcases aaO.1 q with q | q
    ·exact absurd (congrArg Sn.s q.symm) PQ
    ·exact q
  refine⟨.inr ⟨x1.1,by rw [D.lv,M.lv];exact x1.2,by show 0<=2+m;omega,by show 2+m < 8;omega⟩,fun mt=>⟨?_,ylt mt⟩,fun mt=>?_,?_,s3,n3,n2,qg,fun bd p c k hb hp=>?_⟩
  ·rw [ex x YT,rx YT];have hd:=Kb M m0 m2 mt;rw [e] at hd;refine AQ (Q7 (fun u hu e2=>?_) hd).1 fun z hz z1 zl=>⟨by rw [D.lv];exact zl,(dc _ z1).1,(dc _ z1).2.1⟩;have huL:u∈L:=by
    rcases adg.1 hu with q | q
    ·exact(eT.1 (by rw [e];simp [q]:u∈qZ m L)).1
    ·rw [aet.1 q];exact YT
   have huy:=sB M.hi M.hy huL e2;subst huy;rcases adg.1 hu with q | q
   ·have:=s4 u q x aaV;omega
   ·exact PQ (congrArg Sn.s (aet.1 q).symm)
  ·rw [ex x YT,rx YT];have hd:=EX M m0 m2 mt;rw [e] at hd;exact fV (uQ hd).1 fun z hz z1 zl=>⟨by rw [D.lv];exact zl,(dc _ z1).1,(dc _ z1).2.1⟩
  ·have:=Dr (m:=m) (L:=L);rw [e,aaP,aaQ] at this;omega
  ·rw [e];exact BN (by omega) (yL (ex x YT) (fun z hz=>ex z (eT.1 (qg z hz)).1) hp) Ls0
end
section
open Go Go.Sx Go.Proofs AH
section
variable {h hm H:AH} {L:List Sn} {y:Sn} {pm:Int->Ad} {cm:Int->W}
theorem adI {m:Int} (mt:¬m < y.t) (D:Dk hm L y pm cm m H):Dk hm L y pm cm (m - 1) H :=
 ⟨D.lv,fun b hb=>D.un b fun j h1 h2 h3=>hb j (by omega) h2 h3,fun j h1 h2 h3=>D.to j (by omega) h2 h3,fun j h1 h2 h3=>D.sp j (by omega) h2 h3⟩
theorem adH (M:Mk h hm L y) {m:Int} (m0:0<=m) (m2:m<=2) (mt:m < y.t) (D:Dk hm L y pm cm m H) {p:Ad} {c0:W} {k0:Int} (hp:fB hm (2+m) y.k (bc m) (qZ m L) p c0 k0) :
 Dk hm L y (fun j=>if j=m then p else pm j) (fun j=>if j=m then c0 else cm j) (m - 1) (H.wr p (iV c0 (H.cl y.s (2+m)))):=by
 have ey:=((Su M D m0).1 _ (fq M.hi M.hy).1).2.1;rw [ey];refine⟨by rw [dm];exact D.lv,fun b hb=>?_,fun j h1 h2 h3=>?_,fun j h1 h2 h3=>?_⟩
 ·have hbm:=hb m (by omega) m2 mt;rw [if_pos rfl] at hbm;rw [mq,if_neg hbm];refine D.un b fun j h1 h2 h3=>?_;have:=hb j (by omega) h2 h3;rwa [if_neg (by omega)] at this
 ·by_cases e:j=m
  ·subst e;rw [if_pos rfl,if_pos rfl,mq,if_pos ⟨rfl,rfl⟩]
  ·rw [if_neg e,if_neg e,mq,if_neg]
   ·exact D.to j (by omega) h2 h3
   ·obtain⟨k,hq⟩:=D.sp j (by omega) h2 h3;have s1:=Da M m0 m2 (gS hp).1;have s2:=Da M (by omega) h2 (gS hq).1;omega
 ·by_cases e:j=m
  ·subst e;rw [if_pos rfl,if_pos rfl];exact⟨k0,hp⟩
  ·rw [if_neg e,if_neg e];exact D.sp j (by omega) h2 h3
def aeC (hm:AH) (L:List Sn) (y:Sn) (c:aQ) (H:AH):Prop:=∃pm cm,Dk hm L y pm cm (-1) H
theorem ajM (M:Mk h hm L y) {m:Int} (m0:0<=m) (m2:m<=2) (D:Dk hm L y pm cm m H) {pv:Ad} {l:List Sn} (hs:Start y.k L m pv l) {bd:Int} (Nw:bd=y.k+1) {la:Cl} {cu nx fd:W} {k i:Int} {sp:S3} {Q:aQ->AH->Prop} {K:Nat}
 (hK:∀pc p c nx k pm' cm' H',Dk hm L y pm' cm' (m - 1) H'->(p=bc m \/ ∃x∈qZ m L,x.k < y.k /\ p=x.dh (2+m))->dY Q K H' (mS ⟨pc,la,p,c,bd,m,nx,k,sp,fd⟩)) :
 dY Q (10 * L.length+13+K) H ((bL pv i,true),⟨2,la,pv,cu,bd,m,nx,k,sp,fd⟩):=by
 have S:=ajJ M m0 m2 D hs;have ln:=S.ln;by_cases mt:m < y.t
 ·obtain⟨d1,d2⟩:=S.dd mt;refine du (fun _ _ h=>h) (by omega:10 * l.length+13+K<=_) (ZP m0 m2 S.va d1 S.ss d2 (fun z hz e=>sB M.hi M.hy (eT.1 (S.sb z hz)).1 e) Nw S.ns S.nd fun pc p c c0 k0 nx k hp hc=>?_);have hp:=S.up _ _ _ _ (adi _) hp;exact hK _ _ _ _ _ _ _ _ (adH M m0 m2 mt D hp) (gS hp).1
 ·refine du (fun _ _ h=>h) (by omega:10 * l.length+5+K<=_) (Dt m0 m2 S.va (S.cc mt) fun pc p c nx k hp=>?_);have hp:=S.up _ _ _ _ (by omega) hp;refine hK _ _ _ _ _ _ _ _ (adI mt D) ?_;rcases (gS hp).1 with e | ⟨x,hx,hxk,e⟩
  ·exact .inl e
  ·refine .inr ⟨x,hx,?_,e⟩;have dE:x.k≠y.k:=fun e2=>by have:=Q5 M.hi.sr (eT.1 hx).1 M.hy e2;subst this;exact mt (eT.1 hx).2
   omega
theorem Cs (M:Mk h hm L y) {m:Int} (m0:0<=m) (m2:m < 2) {p:Ad} (hp:p=bc (m+1) \/ ∃x∈qZ (m+1) L,x.k < y.k /\ p=x.dh (2+(m+1))):(p.s=0 /\ Start y.k L m (bc m) (qZ m L)) \/ (1<=p.s /\ ∃l,Start y.k L m {p with f:=2+m} l):=by
 rcases hp with rfl | ⟨x,hx,hk,rfl⟩
 ·exact .inl ⟨rfl,.inl ⟨rfl,rfl⟩⟩
 ·obtain⟨x1,x2⟩:=eT.1 hx;obtain⟨A,B,e⟩:=List.append_of_mem (eT.2 ⟨x1,(by omega:m < x.t)⟩);exact .inr ⟨(fq M.hi x1).1,B,.inr ⟨x,A,e,rfl,hk⟩⟩
variable {pv:Ad} {l:List Sn} {bd:Int} {la:Cl} {cu nx fd:W} {k i:Int} {sp:S3}
theorem am3 {p:Ad} (e:1<=p.s):(p.s==0)=false:=by
 cases hb:p.s==0 with
 | false=>rfl
 | true=>have:=Sm hb;omega
theorem agj (M:Mk h hm L y) (D:Dk hm L y pm cm 0 H) (hs:Start y.k L 0 pv l) (Nw:bd=y.k+1):dY (aeC hm L y) (10 * L.length+14) H ((bL pv i,true),⟨2,la,pv,cu,bd,0,nx,k,sp,fd⟩):=by refine ajM (K:=1) M (by decide) (by decide) D hs Nw fun pc p c nx k pm' cm' H' D' _=>?_;unfold mS;dsimp only;rw [if_pos rfl];cases gU (!(c.ae==0)) (k==bd)<;>exact yM rfl ⟨pm',cm',D'⟩
theorem agi (M:Mk h hm L y) (D:Dk hm L y pm cm 1 H) (hs:Start y.k L 1 pv l) (Nw:bd=y.k+1):dY (aeC hm L y) (20 * L.length+28) H ((bL pv i,true),⟨2,la,pv,cu,bd,1,nx,k,sp,fd⟩):=by
 refine du (fun _ _ h=>h) (by omega:10 * L.length+13+(10 * L.length+14+1)<=_) (ajM M (by decide) (by decide) D hs Nw fun pc p c nx k pm' cm' H' D' hp=>?_);unfold mS;dsimp only;rw [if_neg (by decide)];rcases Cs (m:=0) M (by decide) (by decide) hp with⟨e,hn⟩ | ⟨e,l',hn⟩
 ·rw [e];exact du (fun _ _ h=>h) (by omega:10 * L.length+14<=_) (agj M D' hn Nw)
 ·rw [am3 e];refine iF rfl (mE ?_);exact agj M D' hn Nw
theorem apM (M:Mk h hm L y) (D:Dk hm L y pm cm 2 H) (hs:Start y.k L 2 pv l) (Nw:bd=y.k+1):dY (aeC hm L y) (30 * L.length+42) H ((bL pv i,true),⟨2,la,pv,cu,bd,2,nx,k,sp,fd⟩):=by
 refine du (fun _ _ h=>h) (by omega:10 * L.length+13+(20 * L.length+28+1)<=_) (ajM M (by decide) (by decide) D hs Nw fun pc p c nx k pm' cm' H' D' hp=>?_);unfold mS;dsimp only;rw [if_neg (by decide)];rcases Cs (m:=1) M (by decide) (by decide) hp with⟨e,hn⟩ | ⟨e,l',hn⟩
 ·rw [e];exact du (fun _ _ h=>h) (by omega:20 * L.length+28<=_) (agi M D' hn Nw)
 ·rw [am3 e];refine iF rfl (mE ?_);exact agi M D' hn Nw
theorem ajQ (M:Mk h hm L y) (Nw:bd=y.k+1) (x:cJ):dY (aeC hm L y) (30 * L.length+42) hm (aL (fx bd) x) :=
 apM (pm:=fun _=>iC) (cm:=fun _=>aq) M ⟨rfl,fun _ _=>rfl,fun j h1 h2 _=>by omega,fun j h1 h2 _=>by omega⟩ (.inl ⟨rfl,rfl⟩) Nw
end
end
section
open Go Go.Sx Go.Proofs AH
theorem RK {m:Int} {y:Sn}:∀{l:List Sn},xY l->y∈l->qZ m (qL y.k l)=if m < y.t then qL y.k (qZ m l) else qZ m l
 | x::l,hs,hy=>by
   have hs0:=hs;unfold xY at hs;rw [adF] at hs;rw [show qL y.k (x::l)=if y.k<=x.k then l else x::qL y.k l from rfl];have lc:∀r:List Sn,qZ m (x::r)=if m < x.t then x::qZ m r else qZ m r:=fun r=>by
    unfold qZ;rw [aeu];by_cases h:m < x.t
    ·rw [if_pos h,if_pos (aaC h)]
    ·rw [if_neg h,if_neg (by simpa using h)]
   by_cases hk:y.k<=x.k
   ·rw [if_pos hk];have e:x=y:=by
     rcases aaO.1 hy with e | h
     ·exact e.symm
     ·have:=hs.1 y h;omega
    subst e;rw [lc];by_cases h:m < x.t
    ·rw [if_pos h,if_pos h];show _=if x.k<=x.k then qZ m l else _
     rw [if_pos (adi _)]
    ·rw [if_neg h,if_neg h]
   ·rw [if_neg hk];have G9:y∈l:=by
     rcases aaO.1 hy with e | h
     ·subst e;exact absurd (adi _) hk
     ·exact h
    rw [lc,lc,RK hs.2 G9];by_cases h:m < x.t
    ·rw [if_pos h,if_pos h];split
     ·show _=if y.k<=x.k then _ else x::qL y.k (qZ m l)
      rw [if_neg hk]
     ·rfl
    ·rw [if_neg h,if_neg h]
theorem WN {h hm H:AH} {L:List Sn} {y:Sn} {pm:Int->Ad} {cm:Int->W} (M:Mk h hm L y) (D:Dk hm L y pm cm (-1) H):jX H (qL y.k L) /\ H.lv=h.lv /\ H.cl y.s 7=h.cl y.s 7:=by
 have ci:∀(K:AH) (s f:Int),1<=s->K.rd ⟨s,0,f⟩=K.cl s f:=fun K s f hs=>by unfold rd;rw [if_neg (by show ¬s=0;omega)]
 have sl:=fun j (h1:-1 < j) (h2:j<=2) (h3:j < y.t)=>Da M (by omega) h2 (by
  obtain⟨k,hp⟩:=D.sp j h1 h2 h3;exact(gS hp).1)
 have cell:∀s f,1<=s->(∀j,-1 < j->j<=2->j < y.t->f=2+j->s≠(pm j).s)->H.cl s f=hm.cl s f:=fun s f hs hf=>by
  rw [<- ci H s f hs,<- ci hm s f hs];refine D.un _ fun j h1 h2 h3=>?_;rintro ⟨e1,e2⟩;have e1:s=(pm j).s:=e1;have e2:f=(pm j).f:=e2;rcases sl j h1 h2 h3 with q | q
  ·omega
  ·exact hf j h1 h2 h3 (by omega) e1
 have root:∀m,0<=m->(∀j,-1 < j->j<=2->j < y.t->j=m->¬(0=(pm j).s))->H.rd (bc m)=hm.rd (bc m):=fun m m0 hr=>by
  refine D.un _ fun j h1 h2 h3=>?_;rintro ⟨e1,e2⟩;have e1:(0:Int)=(pm j).s:=e1;have e2:m=(pm j).f:=e2;rcases sl j h1 h2 h3 with q | q
  ·exact hr j h1 h2 h3 (by omega) e1
  ·omega
 have y1:=fq M.hi M.hy;refine⟨⟨fun m m0 m2=>?_,(oI.map Sn.s).nodup M.hi.nd,List.Pairwise.sublist oI M.hi.sr,fun x hx=>?_,fun x hx=>M.hi.rg x (oI.subset hx)⟩,D.lv.trans M.lv,?_⟩
 ·rw [RK M.hi.sr M.hy];by_cases mt:m < y.t
  ·rw [if_pos mt];obtain⟨k,hp⟩:=D.sp m (by omega) m2 mt;have hto:=D.to m (by omega) m2 mt;refine amR (h:=hm) (a:=bc m) (p:=pm m) (c:=cm m) (k:=k) (by rw [hto];exact⟨rfl,rfl,rfl⟩) (fun s g _ hg=>by rw [D.lv];exact hg) (fun s hs _=>cell s 0 hs fun j h1 _ _ e=>by omega) (fun s hs _ dE=>cell s _ hs fun j h1 h2 h3 e es=>?_) (fun dE=>root m m0 fun j h1 h2 h3 e es=>?_) (Kb M m0 m2 mt) (Kf M.hi.sr) (eT.2 ⟨M.hy,mt⟩) (fun z hz e=>sB M.hi M.hy (eT.1 hz).1 e) hp (fun hx=>?_) ((afr.map Sn.s).nodup M.hi.nd)
   ·have e:j=m:=by omega
    subst e;rcases sl j h1 h2 h3 with q | q
    ·omega
    ·exact dE ⟨es,q.2.symm⟩
   ·subst e;rcases sl j h1 h2 h3 with q | q
    ·exact dE ⟨es,q.2.symm⟩
    ·omega
   ·obtain⟨z,hz,e⟩:=ac0.1 hx;have:=(fq M.hi (eT.1 hz).1).1;have e:z.s=0:=e;omega
  ·rw [if_neg mt];have hr:H.bd m=hm.bd m:=root m m0 fun j h1 h2 h3 e=>absurd (e▸h3) mt;rw [hr];exact fV (EX M m0 m2 mt) fun x hx x1 xl=>⟨by rw [D.lv];exact xl,cell _ _ x1 fun j h1 _ _ e=>by omega,cell _ _ x1 fun j h1 h2 h3 e=>by omega⟩
 ·have YT:=oI.subset hx;obtain⟨x1,xl⟩:=fq M.hi YT;have t3:=(M.hi.da y M.hy).2.2.2.2;rw [cell _ 1 x1 fun j h1 _ _ e=>by omega,cell _ 6 x1 fun j h1 h2 _ e=>by omega,cell _ 7 x1 fun j h1 h2 _ e=>by omega,M.cl _ _ fun e=>by omega,M.cl _ _ fun e=>by omega,M.cl _ _ fun e=>by omega];exact M.hi.da x YT
 ·have t3:=(M.hi.da y M.hy).2.2.2.2;rw [cell _ 7 y1.1 fun j h1 h2 _ e=>by omega,M.cl _ _ fun e=>by omega]
end
section
open Go Go.Sx Go.Proofs AH
theorem Rl {key:Int} {y:Sn}:∀{l:List Sn},xY l->y∈l->y.k=key->∀x∈qL key l,x.k≠key
 | z::l,hs,hy,hk,x,hx=>by
   unfold xY at hs;rw [adF] at hs;rw [show qL key (z::l)=if key<=z.k then l else z::qL key l from rfl] at hx;by_cases h:key<=z.k
   ·rw [if_pos h] at hx;have:=hs.1 x hx;omega
   ·rw [if_neg h] at hx;rcases aaO.1 hx with e | hx
    ·subst e;omega
    ·rcases aaO.1 hy with e | hy
     ·subst e;omega
     ·exact Rl hs.2 hy hk x hx
section
variable {h:AH} {L:List Sn} {y:Sn} {ky va ta:Int} {la:Cl} {inc:Int}
theorem adL {hm:AH} (M:Mk h hm L y) (hky:y.k=ky) (k0:0<=ky) (k1:ky < 256) (bG:Aq ky L=some y) {cb:Option aQ} {lv:Int} (x:cJ):cB aN (KW L ⟨7,ky,va,ta⟩) (60 * L.length+170) hm (aN ⟨6,la,⟨7,ky,va,ta⟩,some (fx (di ky)),⟨y.s,y.g,0,0,false⟩,lv,inc,y.v⟩ x):=by
 have ew:di ky=ky+1:=mD (by omega);refine bW (fun _ _ h=>h) (by omega:(30 * L.length+42)+(30 * L.length+128)<=_) (vU (J:=fun c=>⟨6,la,⟨7,ky,va,ta⟩,some c,⟨y.s,y.g,0,0,false⟩,lv,inc,y.v⟩) (co:=fun c=>O9 2 ⟨6,la,⟨7,ky,va,ta⟩,some c,⟨y.s,y.g,0,0,false⟩,lv,inc,y.v⟩) amj (fun c H hq=>?_) (ajQ M (by rw [ew,hky]) x));obtain⟨pm,cm,D⟩:=hq;obtain⟨hS,Cn,h7⟩:=WN M D;obtain⟨y1,yl⟩:=fq M.hi M.hy;have yl':H.lv y.s y.g:=by rw [Cn];exact yl
 refine bF (dv (bm (w:=⟨y.s,y.g,0,0,false⟩) y1 yl' (by decide) (by decide)) ?_);show cB aN _ _ H (aN ⟨101,la,⟨7,ky,va,ta⟩,some c,⟨y.s,y.g,0,0,false⟩,lv,2,y.v⟩ ⟨H.rd (az ⟨y.s,y.g,0,0,false⟩ 7),true⟩);rw [dQ y1,Wx];have hz:((H.cl y.s 7).bU==0)=false:=by
  cases hb:(H.cl y.s 7).bU==0 with
  | false=>rfl
  | true=>exact absurd (Sm hb) (by rw [h7];exact(M.hi.da y M.hy).2.2.1)
 rw [show ((H.cl (⟨y.s,y.g,0,0,false⟩:W).ae 7).bU==0)=false from hz];have hlen:(qL y.k L).length<=L.length:=oI.length_le;refine bW (fun _ _ h=>h) (by omega:(30 * (qL y.k L).length+20)+105<=_) (vU (J:=fun c=>⟨103,la,⟨7,ky,va,ta⟩,some c,⟨y.s,y.g,0,0,false⟩,lv,2,y.v⟩) (co:=fun c=>Wy ⟨103,la,⟨7,ky,va,ta⟩,some c,⟨y.s,y.g,0,0,false⟩,lv,2,y.v⟩) ahk (fun c H' hq=>?_) (xf hS _));obtain⟨rfl,_⟩:=hq;refine z2 (wx (w:=⟨y.s,y.g,0,0,false⟩) y1 yl' ?_);show jU aN _ _ _ _ (aN ⟨104,la,⟨7,ky,va,ta⟩,some c,⟨y.s,y.g,0,0,false⟩,lv,2,y.v⟩ ⟨aq,true⟩);rw [ahj];refine cP rfl (.inr (.inr ⟨y,bG,rfl,.inl ⟨rfl,?_⟩⟩));show jX (H'.KK y.s) (qL ky L);rw [<- hky];refine JP (h':=H'.KK y.s) hS (fun x hx x1 xl=>⟨⟨fun e=>?_,xl⟩,fun f=>rfl⟩) rfl;have:=sB M.hi M.hy (oI.subset hx) e;subst this;exact Rl M.hi.sr M.hy rfl _ hx rfl
