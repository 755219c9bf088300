import Derived.Test.YtadmfaohjnjajaaGreatDoorBr
set_option linter.unusedVariables false
set_option linter.unusedSimpArgs false
set_option maxHeartbeats 0
set_option maxRecDepth 100000
namespace Go.Proofs.YtadmfaohjnjajaaGreatDoor
section
open Go Go.Sx Go.Proofs AH
structure Gk (h G:AH) (y:Sn) (q:Int):Prop where
 lv:G.lv=h.lv
 bd:G.bd=h.bd
 cl:∀s f,¬(s=y.s /\ 2+q < f /\ f < 2+y.t)->G.cl s f=h.cl s f
 mr:∀j,q < j->j < y.t->(G.cl y.s (2+j)).mark=true /\ (G.cl y.s (2+j)).ae=(h.cl y.s (2+j)).ae /\ (G.cl y.s (2+j)).gen=(h.cl y.s (2+j)).gen
section
variable {h:AH} {L:List Sn} {y:Sn} {ky va ta:Int} {la:Cl} {inc:Int}
theorem Ij (hi:jX h L) (hy:y∈L) (hky:y.k=ky) (k0:0<=ky) (k1:ky < 256) (bG:Aq ky L=some y) {cb:Option aQ}:∀(d:Nat) {q:Int} {G:AH},q=d->q < y.t->Gk h G y q ->
 cB aN (KW L ⟨7,ky,va,ta⟩) (60 * L.length+172+2 * d) G (bC (az ⟨y.s,y.g,0,0,false⟩ (2+q)),⟨4,la,⟨7,ky,va,ta⟩,cb,⟨y.s,y.g,0,0,false⟩,q,inc,y.v⟩)
 | d,q,G,hd,hlt,g=>by
   obtain⟨y1,yl⟩:=fq hi hy;have t3:=(hi.da y hy).2.2.2.2;have yl':G.lv y.s y.g:=by rw [g.lv];exact yl
   have ym:y∈qZ q L:=eT.2 ⟨hy,hlt⟩;have em:(h.cl y.s (2+q)).mark=false:=by have h1:=hi.SL q (by omega) (by omega);obtain⟨A,B,e⟩:=List.append_of_mem ym;rw [e] at h1;exact AR (uQ h1).1
   have eg:G.cl y.s (2+q)=h.cl y.s (2+q):=g.cl _ _ fun e=>by omega
   refine bW (fun _ _ h=>h) (by omega:(60 * L.length+170+2 * d)+1+1<=_) (bF (dv (bm (w:=⟨y.s,y.g,0,0,false⟩) y1 yl' (by omega) (by omega)) ?_));show cB aN _ _ G (aN ⟨4,la,⟨7,ky,va,ta⟩,cb,⟨y.s,y.g,0,0,false⟩,q,inc,y.v⟩ ⟨G.rd (az ⟨y.s,y.g,0,0,false⟩ (2+q)),true⟩);rw [dQ y1,show G.cl (⟨y.s,y.g,0,0,false⟩:W).ae (2+q)=h.cl y.s (2+q) from eg,aml _ em,w2 (by omega) (by omega)];refine bF (hP (bm (w:=⟨y.s,y.g,0,0,false⟩) y1 yl' (by omega) (by omega)) (by rw [dQ y1];exact eg) ?_);show cB aN _ _ _ (aN ⟨5,la,⟨7,ky,va,ta⟩,cb,⟨y.s,y.g,0,0,false⟩,q,inc,y.v⟩ ⟨h.cl y.s (2+q),true⟩);rw [amk];have g':Gk h (G.wr (az ⟨y.s,y.g,0,0,false⟩ (2+q)) (n6 (h.cl y.s (2+q)))) y (q - 1):=by
    have cw:∀s f,(G.wr (az ⟨y.s,y.g,0,0,false⟩ (2+q)) (n6 (h.cl y.s (2+q)))).cl s f=if s=y.s /\ f=2+q then n6 (h.cl y.s (2+q)) else G.cl s f:=fun s f=>gz y1
    refine⟨by rw [dm];exact g.lv,by rw [uz y1];exact g.bd,fun s f dE=>?_,fun j h1 h2=>?_⟩
    ·rw [cw,if_neg fun e=>dE ⟨e.1,by omega,by omega⟩];exact g.cl s f fun e=>dE ⟨e.1,by omega,e.2.2⟩
    ·rw [cw];by_cases e:j=q
     ·subst e;rw [if_pos ⟨rfl,rfl⟩];exact⟨rfl,rfl,rfl⟩
     ·rw [if_neg (by omega)];exact g.mr j (by omega) h2
   cases d with
   | zero =>have hd:q=0:=hd;subst hd;rw [aaK (by decide:¬(0:Int) > 0)];refine bW (fun _ _ h=>h) (by omega:60 * L.length+170<=_) (adL ⟨hi,hy,g'.lv,g'.bd,fun s f dE=>g'.cl s f fun e=>dE ⟨e.1,by omega,e.2.2⟩,fun j h1 h2=>g'.mr j (by omega) h2⟩ hky k0 k1 bG (cb:=cb) _)
   | succ d =>rw [aaC (by omega:q > 0),show IntKind.wrap .i64 (q - 1)=q - 1 from mD (by omega),w2 (by omega) (by omega)];exact bW (fun _ _ h=>h) (by omega:60 * L.length+172+2 * d<=_) (Ij hi hy hky k0 k1 bG d (by omega) (by omega) g')
theorem abx (hi:jX h L) (k0:0<=ky) (k1:ky < 256) {cb:Option aQ} {nd:W} {lv v:Int} (x:cJ):cB aN (KW L ⟨7,ky,va,ta⟩) (90 * L.length+200) h (aN ⟨0,la,⟨7,ky,va,ta⟩,cb,nd,lv,inc,v⟩ x):=by
 rw [amp];refine bW (fun _ _ h=>h) (by omega:(30 * L.length+20)+(60 * L.length+180)<=_) (vU (J:=fun c=>⟨1,la,⟨7,ky,va,ta⟩,some c,nd,lv,inc,v⟩) (co:=fun c=>Wz ⟨1,la,⟨7,ky,va,ta⟩,some c,nd,lv,inc,v⟩) amo (fun c h' hq=>?_) (xf hi x));obtain⟨rfl,hq⟩:=hq;have hf:=hq.fo;show cB aN _ _ h' (cond (c.found.ae==0) (tm 2 0 ⟨1,la,⟨7,ky,va,ta⟩,some c,c.found,lv,inc,v⟩) (bC (az c.found 6),⟨2,la,⟨7,ky,va,ta⟩,some c,c.found,lv,inc,v⟩));cases bG:Aq ky L with
 | none =>rw [bG] at hf;have hf:c.found=aq:=hf;rw [hf];exact cP rfl (.inr (.inl ⟨by show (7:Int)≠6;decide,bG,rfl,hi⟩))
 | some y =>rw [bG] at hf;have hf:c.found=⟨y.s,y.g,0,0,false⟩:=hf;obtain⟨hy,hyk⟩:=qT bG;obtain⟨y1,yl⟩:=fq hi hy;obtain⟨d1,d6,_,t1,t3⟩:=hi.da y hy;rw [hf,gL y1];refine bW (fun _ _ h=>h) (by omega:(60 * L.length+178)+1+1<=_) (bF (dv (bm (w:=⟨y.s,y.g,0,0,false⟩) y1 yl (by decide) (by decide)) ?_));show cB aN _ _ h' (aN ⟨2,la,⟨7,ky,va,ta⟩,some c,⟨y.s,y.g,0,0,false⟩,lv,inc,v⟩ ⟨h'.rd (az ⟨y.s,y.g,0,0,false⟩ 6),true⟩);rw [dQ y1,amn,show (h'.cl (⟨y.s,y.g,0,0,false⟩:W).ae 6).bU=y.t from d6,aaK (by omega:¬y.t < 1),aaK (by omega:¬y.t > 3)];refine bF (dv (bm (w:=⟨y.s,y.g,0,0,false⟩) y1 yl (by decide) (by decide)) ?_);show cB aN _ _ h' (aN ⟨3,la,⟨7,ky,va,ta⟩,some c,⟨y.s,y.g,0,0,false⟩,IntKind.wrap .i64 (y.t - 1),inc,v⟩ ⟨h'.rd (az ⟨y.s,y.g,0,0,false⟩ 1),true⟩);rw [amm,dQ y1,show (h'.cl (⟨y.s,y.g,0,0,false⟩:W).ae 1).bU=y.v from d1,show IntKind.wrap .i64 (y.t - 1)=y.t - 1 from mD (by omega),w2 (by omega) (by omega)];exact bW (fun _ _ h=>h) (by omega:60 * L.length+172+2 * (y.t - 1).toNat<=_) (Ij hi hy hyk k0 k1 bG (y.t - 1).toNat (by omega) (by omega) ⟨rfl,rfl,fun _ _ _=>rfl,fun j h1 h2=>by omega⟩)
end
end
section
open Go Go.Sx Go.Proofs AH
structure aey (h:AH) (l:List Kn):Prop where
 ok:CG h (bc 0) l
 sr:CF l
 rg:∀x∈l,0<=x.k /\ x.k < 256
theorem acx {h:AH} {l:List Kn} (hi:aey h l) {o:O} (ho:o.aj=6 \/ o.aj=7 \/ o.aj=8) (k0:0<=o.key) (k1:o.key < 256) (x:cJ):cB ct (fun a h'=>∃l',rC h o.key o l a l' /\ aey h' l') (10 * l.length+120) h (ct (Ie o) x):=by
 refine bW (fun a h' hq=>?_) (ab4 _) (MR hi.ok ho x);obtain⟨l',ls,ok,_⟩:=hq;suffices h:CF l' /\ ∀x∈l',0<=x.k /\ x.k < 256 from⟨l',ls,ok,h.1,h.2⟩
 rcases ls with⟨_,⟨q1,_,n,nk,_,_,e⟩ | ⟨_,_,e⟩ | ⟨_,e⟩⟩ | ⟨_,_,_,e⟩ | ⟨y,q1,_,⟨_,e⟩ | ⟨_,e⟩⟩<;>subst e
 ·refine⟨C9 hi.sr (by rw [nk];exact q1),fun x hx=>?_⟩;rcases fK.1 hx with rfl | hx
  ·omega
  ·exact hi.rg x hx
 ·exact⟨hi.sr,hi.rg⟩
 ·exact⟨hi.sr,hi.rg⟩
 ·exact⟨hi.sr,hi.rg⟩
 ·exact⟨Q6 hi.sr,fun x hx=>hi.rg x (Em hx)⟩
 ·exact⟨hi.sr,hi.rg⟩
end
section
open Go Go.Sx Go.Proofs AH
def reg (L:List Kn):Nat:=(L.filter fun x=>x.k % 2==1).length
theorem Hz {α:Type} (p:α->Bool):∀(L:List α),L.length=(L.filter p).length+(L.filter fun x=>!p x).length
 | []=>rfl
 | x::L=>by rw [aaQ,Hz p L,aeu,aeu];cases p x<;>simp<;>omega
theorem Zu:∀{E:List Kn} {lo:Int} {n:Nat},CF E->lo % 64=0->(∀x∈E,x.k % 64=0 /\ lo<=x.k /\ x.k < lo+64 * n)->E.length<=n
 | [],_,_,_,_,_=>acX _
 | x::E,lo,n,hs,h0,hr=>by
   unfold CF at hs;rw [adF] at hs;obtain⟨x0,x1,x2⟩:=hr x aaV;have:=Zu (lo:=x.k+64) (n:=((lo+64 * n - x.k - 64) / 64).toNat) hs.2 (by omega) fun y hy=>by have h1:=hs.1 y hy;obtain⟨y0,y1,y2⟩:=hr y (aaW _ hy);omega
   rw [aaQ];omega
theorem abP {h:AH} {L:List Kn} (hi:lB h L):L.length<=reg L+8:=by
 rw [Hz (fun x:Kn=>x.k % 2==1) L];have:=Zu (E:=L.filter fun x=>!(x.k % 2==1)) (lo:=0) (n:=8) (List.Pairwise.sublist afr hi.sr) rfl fun x hx=>by
  obtain⟨h1,h2⟩:=af2.1 hx;have:=hi.rg x h1;have h2:¬x.k % 2=1:=by simpa using h2
  omega
 unfold reg;omega
theorem JK:∀{A B:List Kn},CF A->(∀x∈A,x∈B)->A.length<=B.length
 | [],_,_,_=>acX _
 | x::A,B,hs,hm=>by
   unfold CF at hs;rw [adF] at hs;obtain⟨B1,B2,rfl⟩:=List.append_of_mem (hm x aaV);have:=JK (A:=A) (B:=B1++B2) hs.2 fun y hy=>by
    have h1:=hs.1 y hy;have:=hm y (aaW _ hy);simp only [adg,aaO] at this ⊢;rcases this with h | rfl | h
    ·exact .inl h
    ·omega
    ·exact .inr h
   simp only [aaP,aaQ] at this ⊢;omega
theorem Xf {h:AH} {L0 L:List Kn} (hi:lB h L) (hs:l5 L0 L):reg L<=reg L0 :=
 JK (List.Pairwise.sublist afr hi.sr) fun x hx=>by obtain⟨h1,h2⟩:=af2.1 hx;exact af2.2 ⟨(hs x (by simpa using h2)).1 h1,h2⟩
theorem Ng {p:Kn->Bool} {n:Kn}:∀{L:List Kn},((mT n L).filter p).length<=(L.filter p).length+1
 | []=>by simp only [mT,aeu];split<;>simp
 | x::L=>by
   unfold mT;split
   ·rw [aeu];split
    ·exact ab4 _
    ·exact Nat.le_succ _
   ·have:=Ng (p:=p) (n:=n) (L:=L);rw [aeu,aeu];split
    ·rw [aaQ,aaQ];omega
    ·exact this
theorem RP {h:AH} {key:Int} {o:O} {l l':List Kn} {a:An} (ls:rC h key o l a l') (p:Kn->Bool):(l'.filter p).length<=(l.filter p).length+1:=by
 rcases ls with⟨_,⟨q1,_,n,nk,_,_,e⟩ | ⟨_,_,e⟩ | ⟨_,e⟩⟩ | ⟨_,_,_,e⟩ | ⟨y,q1,_,⟨_,e⟩ | ⟨_,e⟩⟩<;>subst e
 ·exact Ng
 all_goals first | exact Nat.le_succ _ | exact Nat.le_succ_of_le (sE.filter p).length_le
theorem Nb {n:Sn}:∀{L:List Sn},(pe n L).length=L.length+1
 | []=>rfl
 | x::L=>by
   unfold pe;split
   ·rfl
   ·rw [aaQ,Nb];rfl
def aeA (s n:Nat) (h:AH):Prop:=match s with
 | 1=>∃vs,m8 h vs /\ vs.length<=n
 | 2=>∃vs,pP h vs /\ vs.length<=n
 | 3=>∃l,aey h l /\ l.length<=n
 | 4=>∃L,lB h L /\ reg L<=n
 | _=>∃L,jX h L /\ L.length<=n
structure aki (s:Nat) (o:O):Prop where
 k1:s=1->o.aj=1 \/ o.aj=2 \/ o.aj=3
 k2:s=2->o.aj=4 \/ o.aj=5
 k3:3<=s->(o.aj=6 \/ o.aj=7 \/ o.aj=8) /\ 0<=o.key /\ o.key < 256
 k5:s=5->o.aj=6->1<=o.bI /\ o.bI<=3
end
section
open Go Go.Sx Go.Proofs AH
structure Au (m:ah) (h:AH):Prop where
 bd:∀f,0<=f->f < 18->m.read 0 f=h.bd f
 lv:∀s g,1<=s->h.lv s g->s<=(m.aW.length:Int) /\ (m.ae s).used=true /\ (m.ae s).gen=g
 cl:∀s g f,1<=s->h.lv s g->0<=f->f < 8->m.read s f=h.cl s f
theorem mA {m:ah} {h:AH} (A:Au m h) {a:Ad} (hv:h.bM a) (e:Nat):m.lE a.s a.g e=none:=by
 unfold ah.lE;rcases hv with⟨q,_⟩ | ⟨q1,q2,_⟩
 ·rw [if_pos q]
 ·obtain⟨_,u,g⟩:=A.lv _ _ q1 q2;rw [if_neg (by omega),if_neg (by rw [u];decide),if_pos g]
theorem BX {m:ah} {h:AH} (A:Au m h) {a:Ad} (hv:h.bM a):m.read a.s a.f=h.rd a:=by
 unfold rd;rcases hv with⟨q,_,f0,f1⟩ | ⟨q1,q2,f0,f1⟩
 ·rw [if_pos q,q];exact A.bd _ f0 f1
 ·rw [if_neg (by omega)];exact A.cl _ _ _ q1 q2 f0 f1
theorem Gy {m:ah} {h:AH} (A:Au m h) {k:Int}:Au {m with steps:=k} h:=⟨A.bd,A.lv,A.cl⟩
theorem aak {a:Sl} {k j:Nat} {w:W} (hj:j < 10):(a.B8 k w).at j=if j=k then w else a.at j:=by show ((List.range 10).map fun j=>if j=k then w else a.at j).getD j _=_;rw [ac7,aeG,List.getElem?_range hj];rfl
theorem ma {n:Nat} {m:ah} (hm:m.WF n) {s f s' f':Int} {w:W} (h1:0<=s) (h2:s<=(m.aW.length:Int)) (f0:0<=f) (fb:s=0->f < 85) (fc:s≠0->f < 10) (h1':0<=s') (h2':s'<=(m.aW.length:Int)) (f0':0<=f') (fc':s'≠0->f' < 10):(m.fP s f w).read s' f'=if s'=s /\ f'=f then w else m.read s' f':=by
 unfold ah.fP ah.read;by_cases e:s=0
 ·rw [if_pos e];dsimp only;by_cases e':s'=0
  ·rw [if_pos e',if_pos e'];have lb:=hm.lb;rw [ac7,List.getElem?_set];by_cases ef:f'=f
   ·rw [if_pos (by omega),if_pos (by have:=fb e;omega),if_pos ⟨by omega,ef⟩];rfl
   ·rw [if_neg (by omega),if_neg fun q:s'=s /\ f'=f=>ef q.2,ac7]
  ·rw [if_neg e',if_neg e',if_neg fun q:s'=s /\ f'=f=>e' (q.1.trans e)];rfl
 ·rw [if_neg e];by_cases e':s'=0
  ·rw [if_pos e',if_pos e',if_neg fun q:s'=s /\ f'=f=>e (q.1▸e')]
  ·rw [if_neg e',if_neg e',j6 (by omega)];by_cases es:s'=s
   ·subst es;rw [if_pos rfl,aak (by have:=fc' e';omega)];by_cases ef:f'=f
    ·rw [if_pos (by omega),if_pos ⟨rfl,ef⟩]
    ·rw [if_neg (by omega),if_neg fun q:s'=s' /\ f'=f=>ef q.2]
   ·rw [if_neg (by omega),if_neg fun q:s'=s /\ f'=f=>es q.1]
theorem Jr {m:ah} {h:AH} (A:Au m h) {a:Ad} (hv:h.bM a):0<=a.s /\ a.s<=(m.aW.length:Int) /\ 0<=a.f /\ (a.s=0->a.f < 85) /\ (a.s≠0->a.f < 10):=by
 rcases hv with⟨q,_,f0,f1⟩ | ⟨q1,q2,f0,f1⟩
 ·exact⟨by omega,by omega,f0,fun _=>by omega,fun _=>by omega⟩
 ·have:=(A.lv _ _ q1 q2).1;exact⟨by omega,this,f0,fun _=>by omega,fun _=>by omega⟩
theorem l9 {m:ah} {s f:Int} {w:W} (h1:0<=s) (h2:s<=(m.aW.length:Int)) (t:Int):((m.fP s f w).ae t).used=(m.ae t).used /\ ((m.fP s f w).ae t).gen=(m.ae t).gen /\ (m.fP s f w).aW.length=m.aW.length:=by
 unfold ah.fP;by_cases e:s=0
 ·rw [if_pos e];exact⟨rfl,rfl,rfl⟩
 ·rw [if_neg e,j6 (by omega)];refine⟨?_,?_,afX⟩
  ·split
   ·rename_i q;show (m.ae s).used=_;unfold ah.ae;rw [q]
   ·rfl
  ·split
   ·rename_i q;show (m.ae s).gen=_;unfold ah.ae;rw [q]
   ·rfl
theorem BW {n:Nat} {m:ah} (hm:m.WF n) {h:AH} (A:Au m h) {a:Ad} (hv:h.bM a) {w:W}:Au (m.fP a.s a.f w) (h.wr a w):=by
 obtain⟨v1,v2,v3,v4,v5⟩:=Jr A hv;refine⟨fun f f0 f1=>?_,fun s g hs hl=>?_,fun s g f hs hl f0 f1=>?_⟩
 ·rw [ma hm v1 v2 v3 v4 v5 (adi 0) (by omega) f0 (fun e=>absurd rfl e)];have:=mq (h:=h) (a:=a) (w:=w) (b:=bc f);rw [show (h.wr a w).bd f=(h.wr a w).rd (bc f) from rfl,this];show (if 0=a.s /\ f=a.f then w else m.read 0 f)=if 0=a.s /\ f=a.f then w else h.bd f
  rw [A.bd f f0 f1]
 ·rw [dm] at hl;obtain⟨q1,q2,q3⟩:=A.lv s g hs hl;obtain⟨r1,r2,r3⟩:=l9 (f:=a.f) (w:=w) v1 v2 s;exact⟨by rw [r3];exact q1,r1.trans q2,r2.trans q3⟩
 ·rw [dm] at hl;have q1:=(A.lv s g hs hl).1;rw [ma hm v1 v2 v3 v4 v5 (by omega) q1 f0 (fun _=>by omega)];have:=mq (h:=h) (a:=a) (w:=w) (b:=⟨s,g,f⟩);have ci:∀K:AH,K.rd ⟨s,g,f⟩=K.cl s f:=fun K=>by unfold rd;rw [if_neg (by show ¬s=0;omega)]
  rw [<- ci,this,ci];show (if s=a.s /\ f=a.f then w else m.read s f)=if s=a.s /\ f=a.f then w else h.cl s f
  rw [A.cl s g f hs hl f0 f1]
theorem Gz {m:ah} {h:AH} (A:Au m h) {s:Int}:Au m (h.KK s):=⟨A.bd,fun t g ht hl=>A.lv t g ht hl.2,fun t g f ht hl=>A.cl t g f ht hl.2⟩
theorem Oq {n:Nat} {m:ah} (hm:m.WF n) {h:AH} (A:Au m h) {s:Int} (h1:1<=s) (h2:s<=(m.aW.length:Int)) {fr:List N1}:Au {m with aW:=m.aW.set (s - 1).toNat {m.ae s with used:=false},free:=fr} (h.KK s):=by
 have hs:∀t,t≠s->1<=t->({m with aW:=m.aW.set (s - 1).toNat {m.ae s with used:=false},free:=fr}:ah).ae t=m.ae t:=fun t ht h1t=>by show ({m with aW:=m.aW.set (s - 1).toNat {m.ae s with used:=false}}:ah).ae t=_;rw [j6 (by omega),if_neg (by omega)]
 refine⟨A.bd,fun t g ht hl=>?_,fun t g f ht hl f0 f1=>?_⟩
 ·rw [hs t hl.1 ht];obtain⟨q1,q2⟩:=A.lv t g ht hl.2;exact⟨by show t<=((m.aW.set _ _).length:Int);rw [afX];exact q1,q2⟩
 ·have:=A.cl t g f ht hl.2 f0 f1;unfold ah.read at this ⊢;rw [if_neg (by omega)] at this ⊢;rw [hs t hl.1 ht];exact this
theorem Js {n:Nat} {m:ah} (hm:m.WF n) {h:AH} (A:Au m h) (b:Int):(m.alloc b=(⟨aq,false⟩,m)) \/ ∃s g,1<=s /\ (∀g',¬h.lv s g') /\ (m.alloc b).1=⟨⟨s,g,0,0,false⟩,true⟩ /\ Au (m.alloc b).2 (h.new s g):=by
 unfold ah.alloc;by_cases hl:m.free.length=0
 ·rw [if_pos hl];exact .inl rfl
 ·rw [if_neg hl];dsimp only;have nQ:m.free.getD (m.free.length - 1) gx.bK∈m.free:=kz (by omega);generalize m.free.getD (m.free.length - 1) gx.bK=x at nQ;obtain⟨h1,h2⟩:=hm.fr x nQ;have hu:=hm.fu x nQ;have ls:=hm.ls;refine .inr ⟨x.val,di (m.ae x.val).gen,h1,fun g' Cn=>?_,rfl,A.bd,fun t g ht hl=>?_,fun t g f ht hl f0 f1=>?_⟩
  ·have:=(A.lv _ _ h1 Cn).2.1;rw [hu] at this;cases this
  ·have hl:if t=x.val then g=_ else h.lv t g:=hl
   show t<=((m.aW.set _ _).length:Int) /\ (({m with aW:=m.aW.set (x.val - 1).toNat _}:ah).ae t).used=true /\ (({m with aW:=m.aW.set (x.val - 1).toNat _}:ah).ae t).gen=g;rw [j6 (by omega),afX];by_cases e:t=x.val
   ·rw [if_pos e] at hl;rw [if_pos (by omega)];exact⟨by omega,rfl,hl.symm⟩
   ·rw [if_neg e] at hl;rw [if_neg (by omega)];exact A.lv t g ht hl
  ·have hl:if t=x.val then g=_ else h.lv t g:=hl
   unfold ah.read;rw [if_neg (by omega)];show (({m with aW:=m.aW.set (x.val - 1).toNat _}:ah).ae t).at f.toNat=if t=x.val then aq else h.cl t f
   rw [j6 (by omega)];by_cases e:t=x.val
   ·rw [if_pos e,if_pos (by omega)];have:f=0 \/ f=1 \/ f=2 \/ f=3 \/ f=4 \/ f=5 \/ f=6 \/ f=7:=by omega
    rcases this with rfl | rfl | rfl | rfl | rfl | rfl | rfl | rfl<;>rfl
   ·rw [if_neg e] at hl;rw [if_neg e,if_neg (by omega)];have:=A.cl t g f ht hl f0 f1;unfold ah.read at this;rwa [if_neg (by omega)] at this
theorem GA {n:Nat} {m:ah} (hm:m.WF n) {h:AH} (A:Au m h) {f:Int} (h1:18<=f) (h2:f < 85) {w:W}:Au (m.fP 0 f w) h:=by
 refine⟨fun g g0 g1=>?_,fun s g hs hl=>?_,fun s g c hs hl c0 c1=>?_⟩
 ·rw [ma hm (adi 0) (by omega) (by omega) (fun _=>h2) (fun e=>absurd rfl e) (adi 0) (by omega) g0 (fun e=>absurd rfl e),if_neg (by omega)];exact A.bd g g0 g1
 ·exact A.lv s g hs hl
 ·have:=A.cl s g c hs hl c0 c1;unfold ah.read at this ⊢;rw [if_neg (by omega)] at this ⊢;exact this
end
section
open Go Go.Sx Go.Proofs AH
theorem qD {m:ah} {s g f:Int} {o w:W} (h:∀e,m.lE s g e=none):m.aV ⟨1,s,g,f,o,w⟩=(⟨m.read s f,true⟩,m.cI):=by unfold ah.aV ah.oz;simp only [h];rfl
theorem xo {m:ah} {s g f:Int} {o w:W} (h:∀e,m.lE s g e=none):m.aV ⟨2,s,g,f,o,w⟩=(⟨aq,true⟩,m.cI.fP s f w):=by unfold ah.aV ah.oz;simp only [h];rfl
theorem Gx {m:ah} {s g f:Int} {o w:W} (h:∀e,m.lE s g e=none):m.aV ⟨3,s,g,f,o,w⟩=cond (lG (m.read s f) o) (⟨m.read s f,true⟩,m.cI.fP s f w) (⟨m.read s f,false⟩,m.cI):=by unfold ah.aV ah.oz;simp only [h];show (if lG (m.read s f) o then _ else _)=_;cases lG (m.read s f) o<;>rfl
theorem wE {n:Nat} {m:ah} (h:m.WF n):m.cI.WF n:=⟨h.le,h.lb,h.ls,h.bw,h.sl,h.sw,h.fr,h.fu,h.nd⟩
theorem GB {n:Nat} {m:ah} (hm:m.WF n) {h:AH} (A:Au m h) {c:Cl} (hc:qk c) {K:cJ->AH->Prop} (hw:h.Wp c K):∃h',Au (m.aV (wa c)).2 h' /\ K (abJ c (m.aV (wa c)).1) h':=by
 obtain⟨kd,ad,ol,nw,ci,cj,an⟩:=c;unfold qk at hc;dsimp only at hc;have T:Au m.cI h:=Gy A;rcases hc with rfl | rfl | rfl | rfl | rfl | rfl
 ·obtain⟨v,k⟩:=(show h.bM ad /\ K ⟨h.rd ad,true⟩ h from hw);refine⟨h,?_⟩;show Au (m.aV ⟨1,ad.s,ad.g,ad.f,aq,aq⟩).2 h /\ K (m.aV ⟨1,ad.s,ad.g,ad.f,aq,aq⟩).1 h;rw [qD (mA A v),BX A v];exact⟨T,k⟩
 ·obtain⟨v,k⟩:=(show h.bM ad /\ K ⟨aq,true⟩ (h.wr ad nw) from hw);refine⟨h.wr ad nw,?_⟩;show Au (m.aV ⟨2,ad.s,ad.g,ad.f,ol,nw⟩).2 _ /\ K (m.aV ⟨2,ad.s,ad.g,ad.f,ol,nw⟩).1 _;rw [xo (mA A v)];exact⟨BW (wE hm) T v,k⟩
 ·obtain⟨v,k⟩:=(show h.bM ad /\ cond (lG (h.rd ad) ol) (K ⟨h.rd ad,true⟩ (h.wr ad nw)) (K ⟨h.rd ad,false⟩ h) from hw);have e:m.aV (wa ⟨5,ad,ol,nw,ci,cj,an⟩)=cond (lG (h.rd ad) ol) (⟨h.rd ad,true⟩,m.cI.fP ad.s ad.f nw) (⟨h.rd ad,false⟩,m.cI):=by show m.aV ⟨3,ad.s,ad.g,ad.f,ol,nw⟩=_;rw [Gx (mA A v),BX A v]
  rw [e];cases hs:lG (h.rd ad) ol with
  | true=>rw [hs] at k;exact⟨h.wr ad nw,BW (wE hm) T v,k⟩
  | false=>rw [hs] at k;exact⟨h,T,k⟩
 ·obtain⟨v,k⟩:=(show h.bM ad /\ K ⟨h.rd ad,true⟩ h from hw);refine⟨h,?_⟩;show Au (m.aV ⟨1,ad.s,ad.g,ad.f,aq,aq⟩).2 h /\ K ⟨(m.aV ⟨1,ad.s,ad.g,ad.f,aq,aq⟩).1.w,true⟩ h;rw [qD (mA A v),BX A v];exact⟨T,k⟩
 ·obtain⟨k0,k1⟩:=(show K ⟨aq,false⟩ h /\ ∀s g,1<=s->(∀g',¬h.lv s g')->K ⟨⟨s,g,0,0,false⟩,true⟩ (h.new s g) from hw);have e:m.aV (wa ⟨8,ad,ol,nw,ci,cj,an⟩)=m.cI.alloc 0:=rfl;rw [e];rcases Js (wE hm) T 0 with q | ⟨s,g,s1,fr,q1,q2⟩
  ·rw [q];exact⟨h,T,k0⟩
  ·refine⟨h.new s g,q2,?_⟩;rw [q1];exact k1 s g s1 fr
 ·obtain⟨s1,sl,k⟩:=(show 1<=ol.ae /\ h.lv ol.ae ol.gen /\ K ⟨aq,true⟩ (h.KK ol.ae) from hw);obtain⟨q1,q2,q3⟩:=A.lv _ _ s1 sl;have e:m.aV (wa ⟨9,ad,ol,nw,ci,cj,an⟩)=(⟨aq,true⟩,{m.cI with aW:=m.cI.aW.set (ol.ae - 1).toNat {m.cI.ae ol.ae with used:=false},free:=m.cI.free++[⟨ol.ae⟩]}):=by
   show m.aV ⟨5,0,0,0,ol,aq⟩=_;have hs:∀e,m.lE ol.ae ol.gen e=none:=fun e=>by unfold ah.lE;rw [if_neg (by omega),if_neg (by rw [q2];decide),if_pos q3]
   unfold ah.aV ah.oz;simp only [hs];rfl
  rw [e];exact⟨h.KK ol.ae,Oq (wE hm) T s1 q1,k⟩
end
section
open Go Go.Sx Go.Proofs AH
theorem pZ {m:ah} {g:Int} (e:Nat):m.lE 0 g e=none:=by unfold ah.lE;rw [if_pos rfl]
structure EB (n:Nat) (C:Int) (N:List Nt) (p:ah) (h:AH):Prop where
 wf:p.WF n
 ab:Au p h
 c1:1<=(p.read 0 24).bU
 c2:(p.read 0 24).bU<=C
 ns:∀x∈N,1<=x.ae /\ x.ae<=(n:Int) /\ ((p.ae x.ae).used=true /\ (p.ae x.ae).gen=x.gen) /\ ∀g,¬h.lv x.ae g
 nd:(N.map Nt.ae).Nodup
 fl:p.fault=none
variable {n:Nat} {C:Int} {N:List Nt} {p:ah} {h:AH}
theorem NY (E:EB n C N p h) {p':ah} {h':AH} (w:p'.WF n) (A:Au p' h') (hb:p'.read 0 24=p.read 0 24) (hf:p'.fault=p.fault) (hu:∀s,1<=s->s<=(n:Int)->(∀g,¬h.lv s g)->(p.ae s).used=true->((p'.ae s).used=true /\ (p'.ae s).gen=(p.ae s).gen) /\ ∀g,¬h'.lv s g):EB n C N p' h' :=
 ⟨w,A,by rw [hb];exact E.c1,by rw [hb];exact E.c2,fun x hx=>by
   obtain⟨a,b,⟨c,c2⟩,d⟩:=E.ns x hx;obtain⟨⟨u1,u2⟩,u3⟩:=hu _ a b d c;exact⟨a,b,⟨u1,u2.trans c2⟩,u3⟩,E.nd,hf.trans E.fl⟩
theorem jA (E:EB n C N p h):EB n C N p.cI h:=NY E (wE E.wf) (Gy E.ab) rfl rfl fun s _ _ hl hs=>⟨⟨hs,rfl⟩,hl⟩
theorem vM (m:ah) (s f:Int) (w:W):(m.fP s f w).fault=m.fault:=by unfold ah.fP;split<;>rfl
theorem NX (E:EB n C N p h) {a:Ad} (hv:h.bM a) {v:W} (w:(p.cI.fP a.s a.f v).WF n):EB n C N (p.cI.fP a.s a.f v) (h.wr a v):=by
 have E1:=jA E;obtain⟨v1,v2,v3,v4,v5⟩:=Jr E1.ab hv;refine NY E w (BW E1.wf E1.ab hv) ?_ (vM _ _ _ _) fun s s1 sn hl hs=>⟨⟨?_,(l9 v1 v2 s).2.1⟩,fun g=>by rw [dm];exact hl g⟩
 ·rw [ma E1.wf v1 v2 v3 v4 v5 (adi 0) (by omega) (by decide) (fun e=>absurd rfl e),if_neg fun e=>?_]
  ·rfl
  ·rcases hv with⟨_,_,_,q⟩ | ⟨q,_⟩<;>omega
 ·rw [(l9 v1 v2 s).1];exact hs
theorem Sr (E:EB n C N p h) {f:Int} (f1:18<=f) (f2:f < 85) (f3:f≠24) {v:W} (w:(p.cI.fP 0 f v).WF n):EB n C N (p.cI.fP 0 f v) h:=by
 have E1:=jA E;refine NY E w (GA E1.wf E1.ab f1 f2) ?_ (vM _ _ _ _) fun s s1 sn hl hs=>⟨⟨?_,(l9 (adi 0) (by omega) s).2.1⟩,hl⟩
 ·rw [ma E1.wf (adi 0) (by omega) (by omega) (fun _=>f2) (fun e=>absurd rfl e) (adi 0) (by omega) (by decide) (fun e=>absurd rfl e),if_neg fun e=>f3 e.2.symm];rfl
 ·rw [(l9 (adi 0) (by omega) s).1];exact hs
theorem ZF (E:EB n C N p h) {v:W} {C':Int} (v1:1<=v.bU) (v2:v.bU<=C') (w:(p.cI.fP 0 24 v).WF n):EB n C' N (p.cI.fP 0 24 v) h:=by
 have E1:=jA E;have e:(p.cI.fP 0 24 v).read 0 24=v:=by rw [ma E1.wf (adi 0) (by omega) (by decide) (fun _=>by decide) (fun e=>absurd rfl e) (adi 0) (by omega) (by decide) (fun e=>absurd rfl e),if_pos ⟨rfl,rfl⟩]
 refine⟨w,GA E1.wf E1.ab (by decide) (by decide),by rw [e];exact v1,by rw [e];exact v2,fun x hx=>?_,E.nd,(vM _ _ _ _).trans E.fl⟩;obtain⟨a,b,⟨c,c2⟩,d⟩:=E.ns x hx;exact⟨a,b,⟨by rw [(l9 (adi 0) (by omega) x.ae).1];exact c,((l9 (adi 0) (by omega) x.ae).2.1).trans c2⟩,d⟩
theorem ZG (E:EB n C N p h) (b:Int):(p.cI.alloc b=(⟨aq,false⟩,p.cI)) \/ ∃s g,1<=s /\ (∀g',¬h.lv s g') /\ (p.cI.alloc b).1=⟨⟨s,g,0,0,false⟩,true⟩ /\ ((p.cI.alloc b).2.WF n->EB n C N (p.cI.alloc b).2 (h.new s g)):=by
 have E1:=jA E;rcases Js E1.wf E1.ab b with q | ⟨s,g,s1,fr,q1,q2⟩
 ·exact .inl q
 ·refine .inr ⟨s,g,s1,fr,q1,fun w=>NY E w q2 ?_ ?_ fun t t1 tn hl ht=>?_⟩
  ·unfold ah.alloc;split<;>rfl
  ·unfold ah.alloc;split<;>rfl
  ·by_cases hf:p.cI.free.length=0
   ·unfold ah.alloc at q1;rw [if_pos hf] at q1;cases q1
   have es:s=(p.cI.free.getD (p.cI.free.length - 1) gx.bK).val:=by unfold ah.alloc at q1;rw [if_neg hf] at q1;exact(congrArg (fun r=>r.w.ae) q1).symm
   have nQ:p.cI.free.getD (p.cI.free.length - 1) gx.bK∈p.cI.free:=kz (by omega);have hu:=E1.wf.fu _ nQ;have hr:=E1.wf.fr _ nQ;have hts:t≠s:=fun e=>by rw [e,es] at ht;rw [show (p.ae _).used=(p.cI.ae _).used from rfl,hu] at ht;cases ht
   refine⟨?_,fun g'=>by rw [Bk,if_neg hts];exact hl g'⟩;unfold ah.alloc;rw [if_neg hf];dsimp only;have:=E1.wf.ls;have e:(({p.cI with aW:=p.cI.aW.set (s - 1).toNat ⟨di (p.cI.ae s).gen,true,[aq,aq,aq,aq,aq,aq,aq,aq,aq,dZ b]⟩}:ah).ae t)=p.ae t:=by rw [j6 (by omega),if_neg (by omega)];rfl
   rw [es] at e;exact⟨e▸ht,congrArg Sl.gen e⟩
theorem adG (E:EB n C N p h) {s:Int} {g:Int} {fr:List N1} (s1:1<=s) (hl:h.lv s g) (w:({p.cI with aW:=p.cI.aW.set (s - 1).toNat {p.cI.ae s with used:=false},free:=fr}:ah).WF n) :
 EB n C N {p.cI with aW:=p.cI.aW.set (s - 1).toNat {p.cI.ae s with used:=false},free:=fr} (h.KK s):=by
 have E1:=jA E;have hs:=(E1.ab.lv _ _ s1 hl).1;refine NY E w (Oq E1.wf E1.ab s1 hs) rfl rfl fun t t1 tn Iy ht=>⟨?_,fun g' q=>Iy g' q.2⟩;have hts:t≠s:=fun e=>Iy g (e▸hl);show (({p.cI with aW:=p.cI.aW.set _ _}:ah).ae t).used=true /\ (({p.cI with aW:=p.cI.aW.set _ _}:ah).ae t).gen=_;rw [j6 (by omega),if_neg (by omega)];exact⟨ht,rfl⟩
theorem KJ (E:EB n C N p h) {x:Nt} (s1:1<=x.ae) (hl:h.lv x.ae x.gen):EB n C (N++[x]) p (h.KK x.ae):=by
 obtain⟨q1,q2,q3⟩:=E.ab.lv _ _ s1 hl;refine⟨E.wf,Gz E.ab,E.c1,E.c2,fun y hy=>?_,?_,E.fl⟩
 ·rcases adg.1 hy with hy | hy
  ·obtain⟨a,b,c,d⟩:=E.ns y hy;exact⟨a,b,c,fun g' q=>d g' q.2⟩
  ·rw [aet.1 hy];exact⟨s1,by rw [<- E.wf.ls];exact q1,⟨q2,q3⟩,fun g' q=>q.1 rfl⟩
 ·rw [adA,afN];refine⟨E.nd,by simp,fun a ha b hb e=>?_⟩;obtain⟨y,hy,rfl⟩:=ac0.1 ha;have hb:b=x.ae:=by simpa using hb
  exact(E.ns y hy).2.2.2 x.gen (by rw [e,hb];exact hl)
theorem adE (E:EB n C N p h) {x:Nt} (hx:x∈N) {N':List Nt} (hs:N'.Sublist N) (hn:x.ae ∉ N'.map Nt.ae) {t u:Int} {k:Bool} (w:(p.aV ⟨5,0,0,0,⟨x.ae,x.gen,t,u,k⟩,aq⟩).2.WF n):EB n C N' (p.aV ⟨5,0,0,0,⟨x.ae,x.gen,t,u,k⟩,aq⟩).2 h:=by
 have E1:=jA E;obtain⟨x1,xn,⟨xu,xg⟩,xl⟩:=E.ns x hx;have base:EB n C N' p h:=⟨E.wf,E.ab,E.c1,E.c2,fun y hy=>E.ns y (hs.subset hy),E.nd.sublist (hs.map _),E.fl⟩;have tg:p.lE x.ae x.gen 4=none:=by unfold ah.lE;rw [if_neg (by omega),if_neg (by rw [xu];decide),if_pos xg]
 have e:(p.aV ⟨5,0,0,0,⟨x.ae,x.gen,t,u,k⟩,aq⟩).2={p.cI with aW:=p.cI.aW.set (x.ae - 1).toNat {p.cI.ae x.ae with used:=false},free:=p.cI.free++[⟨x.ae⟩]}:=by unfold ah.aV ah.oz;dsimp only;rw [if_neg (by decide:¬(5:Int)=4),if_pos rfl,tg];rfl
 rw [e] at w ⊢;have ls:=E.wf.ls;have sl:∀t:Int,1<=t->t≠x.ae->({p.cI with aW:=p.cI.aW.set (x.ae - 1).toNat {p.cI.ae x.ae with used:=false},free:=p.cI.free++[⟨x.ae⟩]}:ah).ae t=p.ae t:=fun t t1 ht=>by show (({p.cI with aW:=p.cI.aW.set _ _}:ah).ae t)=_;have ls:p.cI.aW.length=n:=E1.wf.ls;rw [j6 (by omega),if_neg (by omega)];rfl
 refine⟨w,⟨E.ab.bd,fun s g hs hl=>?_,fun s g f hs hl f0 f1=>?_⟩,E.c1,E.c2,fun y hy=>?_,base.nd,E.fl⟩
 ·obtain⟨a,b,c⟩:=E.ab.lv s g hs hl;rw [sl s hs fun e=>xl g (e▸hl)];exact⟨by show s<=((p.aW.set _ _).length:Int);rw [afX];exact a,b,c⟩
 ·have:=E.ab.cl s g f hs hl f0 f1;unfold ah.read at this ⊢;rw [if_neg (by omega)] at this ⊢;rw [sl s hs fun e=>xl g (e▸hl)];exact this
 ·obtain⟨a,b,c,d⟩:=base.ns y hy;exact⟨a,b,by rw [sl _ a fun e=>hn (ac0.2 ⟨y,hy,e⟩)];exact c,d⟩
end
section
open Go Go.Sx Go.Proofs AH
def dF (n:Nat) (Q:ax->ah->Prop):Nat->ax->ah->Prop
 | 0,m,p=>m.step=0 /\ Q m p
 | k+1,m,p=>(m.step=0 /\ Q m p) \/ (m.step≠0 /\ ((p.aV m.acc).2.WF n->dF n Q k (bX m (p.aV m.acc).1) (p.aV m.acc).2))
section
variable {n:Nat} {Q:ax->ah->Prop} {k:Nat} {m:ax} {p:ah}
theorem vP (hs:m.step=0) (q:Q m p):dF n Q k m p:=by
 cases k with
 | zero=>exact⟨hs,q⟩
 | succ k=>exact .inl ⟨hs,q⟩
theorem iS {x:cJ} {p':ah} (hs:m.step≠0) (ea:p.aV m.acc=(x,p')) (h:p'.WF n->dF n Q k (bX m x) p'):dF n Q (k+1) m p:=.inr ⟨hs,by rw [ea];exact h⟩
theorem jG {Q':ax->ah->Prop} (hq:∀m p,Q m p->Q' m p):∀{k k':Nat} {m:ax} {p:ah},k<=k'->dF n Q k m p->dF n Q' k' m p
 | 0,_,_,_,_,hh=>vP hh.1 (hq _ _ hh.2)
 | k+1,0,_,_,hle,_=>by omega
 | k+1,k'+1,m,p,hle,hh=>by
   rcases hh with⟨a,b⟩ | ⟨a,b⟩
   ·exact .inl ⟨a,hq _ _ b⟩
   ·exact .inr ⟨a,fun w=>jG hq (by omega) (b w)⟩
theorem wY {Q':ax->ah->Prop} (hq:∀m p,m.step=0->Q m p->Q' m p):∀{k:Nat} {m:ax} {p:ah},dF n Q k m p->dF n Q' k m p
 | 0,_,_,hh=>⟨hh.1,hq _ _ hh.1 hh.2⟩
 | k+1,m,p,hh=>by
   rcases hh with⟨a,b⟩ | ⟨a,b⟩
   ·exact .inl ⟨a,hq _ _ a b⟩
   ·exact .inr ⟨a,fun w=>wY hq (b w)⟩
end
structure RQ (e:Int) (N:List Nt) (m:ax):Prop where
 en:m.au=e
 me:m.me=0
 th:m.dk=1
 no:m.notes=N
def Fin (n:Nat) (e C:Int) (L:Nat) (K:cJ->AH->Prop) (m:ax) (p:ah):Prop:=∃N h,RQ e N m /\ EB n C N p h /\ N.length<=L /\ K m.bD h
section
variable {n:Nat} {e C:Int} {N:List Nt} {L k:Nat} {K:cJ->AH->Prop} {m:ax} {p:ah} {h:AH} {x:cJ} {c:Cl}
theorem eD (I:RQ e N m) (E:EB n C N p h) (hl:N.length<=L) (hk:K x h):dF n (Fin n e C L K) k (dA x (dI m)).m p:=vP rfl ⟨N,h,⟨I.en,I.me,I.th,I.no⟩,E,hl,hk⟩
theorem oH:(dI m).m=m:=rfl
theorem tk1 (hs:m.step=1):bX m x=(dA x (dI m)).m:=by unfold bX jD;simp [oH,hs]<;>rfl
theorem tk2 (hs:m.step=2):bX m x=(dA ⟨aq,true⟩ (dI m)).m:=by unfold bX jD kU;simp [oH,hs]<;>rfl
theorem tk3 (hs:m.step=3):bX m x=(fF 2 ⟨2,0,0,79+m.me,aq,⟨0,0,x.w.bU,x.w.bU,true⟩⟩ {dI m with m:={m with span:=⟨true,x.w.bU,x.w.bU⟩}}).m:=by unfold bX jD kH;simp [oH,hs]<;>rfl
theorem tk4 (hs:m.step=4):bX m x=nM cond NN RT.m (m.index+1).toNat (dI m):=by unfold bX jD;simp [oH,hs]<;>rfl
theorem tk8 (hs:m.step=8):bX m x=(fF 1 ⟨4,0,0,0,aq,dZ x.w.bU⟩ (dI m)).m:=by unfold bX jD;simp [oH,hs]<;>rfl
theorem tk7 (hs:m.step=7):bX m x=(eo 5 m.call.dh (dI m)).m:=by unfold bX jD gK;simp [oH,hs]<;>rfl
theorem arC (hs:m.step=5) (he:m.au=1 \/ m.au=4):bX m x=(dA ⟨x.w,true⟩ (dI m)).m:=by unfold bX jD gK;rcases he with he | he<;>simp [oH,hs,he]<;>rfl
theorem abl (hs:m.step=5) (he:m.au=3 \/ m.au=5):bX m x=(eo 6 lz {dI m with m:={m with word:=x.w}}).m:=by unfold bX jD gK;rcases he with he | he<;>simp [oH,hs,he]<;>rfl
theorem alU (hs:m.step=5) (he:m.au=2):bX m x=cond (gU (!(x.w.ae==0)) (!eqW (H9.get m.holds m.call.i) (dB x.w))) (fF 7 ⟨2,0,0,25+m.me * 9+m.call.i,aq,dB x.w⟩ {dI m with m:={m with word:=x.w,holds:=H9.put m.holds m.call.i (dB x.w)}}).m (dA ⟨x.w,true⟩ (dI m)).m:=by unfold bX jD gK uY;simp [oH,hs,he]<;>rfl
theorem alT (hs:m.step=6) (he:m.au=3):bX m x=cond (gU (!isZero (H9.get m.holds m.call.i)) ((H9.get m.holds m.call.i).bU==x.w.bU)) (dA ⟨m.word,true⟩ (dI m)).m (fF 7 ⟨2,0,0,25+m.me * 9+m.call.i,aq,dZ x.w.bU⟩ {dI m with m:={m with holds:=H9.put m.holds m.call.i (dZ x.w.bU)}}).m:=by unfold bX jD gK uY;simp [oH,hs,he]<;>rfl
theorem alS (hs:m.step=6) (he:m.au=5):bX m x=cond (gU m.span.is (m.span.Ks==x.w.bU)) (dA ⟨m.word,true⟩ (dI m)).m (cond m.span.is (fF 7 ⟨2,0,0,79+m.me,aq,⟨0,0,x.w.bU,m.span.Cj,true⟩⟩ {dI m with m:={m with span:=⟨true,m.span.Cj,x.w.bU⟩}}).m (fF 7 ⟨2,0,0,79+m.me,aq,⟨0,0,x.w.bU,x.w.bU,true⟩⟩ {dI m with m:={m with span:=⟨true,x.w.bU,x.w.bU⟩}}).m):=by unfold bX jD gK kH;simp [oH,hs,he]<;>rfl
theorem au7 (hk:c.aj=1) (he:m.au=4 \/ m.au=5):bj m c=(eo 3 lz (cC c (dI m))).m:=by unfold bj fW j8;rcases he with he | he<;>simp [hk,cC,dI,he]<;>rfl
theorem au6 (hk:c.aj=1) (he:m.au=1 \/ m.au=2 \/ m.au=3):bj m c=(dA ⟨aq,true⟩ (cC c (dI m))).m:=by unfold bj fW j8 kU;rcases he with he | he | he<;>simp [hk,cC,dI,he]<;>rfl
theorem bg2 (hk:c.aj=2):bj m c=nM cond NN RT.m 0 (cC c (dI m)):=by unfold bj fW j8;simp [hk]<;>rfl
theorem bg3 (hk:c.aj=3):bj m c=(eo 1 c.dh (cC c (dI m))).m:=by unfold bj fW j8;simp [hk]
theorem bg4 (hk:c.aj=4):bj m c=(fF 1 ⟨2,c.dh.s,c.dh.g,c.dh.f,c.dy,c.new⟩ (cC c (dI m))).m:=by unfold bj fW j8;simp [hk]
theorem bg5 (hk:c.aj=5):bj m c=(fF 1 ⟨3,c.dh.s,c.dh.g,c.dh.f,c.dy,c.new⟩ (cC c (dI m))).m:=by unfold bj fW j8;simp [hk]
theorem bg6 (hk:c.aj=6):bj m c=(eo 5 c.dh (cC c (dI m))).m:=by unfold bj fW j8;simp [hk]
theorem au5 (hk:c.aj=7) (he:m.au=2 \/ m.au=3):bj m c=cond (!eqW (H9.get m.holds c.i) (H9.get m.holds c.j)) (fF 2 ⟨2,0,0,25+m.me * 9+c.i,aq,H9.get m.holds c.j⟩ {cC c (dI m) with m:={(cC c (dI m)).m with holds:=H9.put m.holds c.i (H9.get m.holds c.j)}}).m (dA ⟨aq,true⟩ (cC c (dI m))).m:=by unfold bj fW j8 uY kU;rcases he with he | he<;>simp [hk,cC,dI,he]<;>rfl
theorem au4 (hk:c.aj=7) (he:m.au=1 \/ m.au=4 \/ m.au=5):bj m c=(dA ⟨aq,true⟩ (cC c (dI m))).m:=by unfold bj fW j8 kU;rcases he with he | he | he<;>simp [hk,cC,dI,he]<;>rfl
theorem aj1 (hk:c.aj=8) (he:m.au=3 \/ m.au=5):bj m c=(eo 8 lz (cC c (dI m))).m:=by unfold bj fW j8;rcases he with he | he<;>simp [hk,cC,dI,he]<;>rfl
theorem aj0 (hk:c.aj=8) (he:m.au=1 \/ m.au=2 \/ m.au=4):bj m c=(fF 1 ⟨4,0,0,0,aq,aq⟩ (cC c (dI m))).m:=by unfold bj fW j8;rcases he with he | he | he<;>simp [hk,cC,dI,he]<;>rfl
theorem bg9 (hk:c.aj=9):bj m c=(fF 2 ⟨5,0,0,0,c.dy,aq⟩ (cC c (dI m))).m:=by unfold bj fW j8;simp [hk]
theorem oG (I:RQ e N m):RQ e N (cC c (dI m)).m:=⟨I.en,I.me,I.th,I.no⟩
theorem Uz (he:1<=e /\ e<=5):e=1 \/ e=2 \/ e=3 \/ e=4 \/ e=5:=by omega
theorem af7 (s:H9) {i:Int} (w:W) (i0:0<=i) (i9:i < 9):(s.put i w).get i=w:=by rcases (by omega:i=0 \/ i=1 \/ i=2 \/ i=3 \/ i=4 \/ i=5 \/ i=6 \/ i=7 \/ i=8) with rfl | rfl | rfl | rfl | rfl | rfl | rfl | rfl | rfl<;>rfl
theorem Z0 (E:EB n C N p h) {f:Int} {v:W} (f1:18<=f) (f2:f < 85) (f3:f≠24):(p.cI.fP 0 f v).read 0 24=p.read 0 24:=by have E1:=jA E;rw [ma E1.wf (adi 0) (by omega) (by omega) (fun _=>f2) (fun e=>absurd rfl e) (adi 0) (by omega) (by decide) (fun e=>absurd rfl e),if_neg fun e=>f3 e.2.symm];rfl
theorem adC (I:RQ e N m) (E:EB n C N p h) (hl:N.length<=L) (hk:c.aj=3 \/ c.aj=4 \/ c.aj=5 \/ c.aj=9) (hw:h.Wp c K):dF n (Fin n e C L K) 1 (bj m c) p:=by
 have J:=oG (c:=c) I;unfold Wp at hw;rcases hk with hk | hk | hk | hk
 ·rw [if_pos (.inl hk)] at hw;obtain⟨v,q⟩:=hw;rw [bg3 hk];refine iS (x:=⟨h.rd c.dh,true⟩) (p':=p.cI) (by show (1:Int)≠0;decide) ((qD (mA E.ab v)).trans (by rw [BX E.ab v])) fun w=>?_;rw [tk1 rfl];exact eD ⟨J.en,J.me,J.th,J.no⟩ (jA E) hl q
 ·rw [if_neg (by omega),if_pos hk] at hw;obtain⟨v,q⟩:=hw;rw [bg4 hk];refine iS (by show (1:Int)≠0;decide) (xo (mA E.ab v)) fun w=>?_;rw [tk1 rfl];exact eD ⟨J.en,J.me,J.th,J.no⟩ (NX E v w) hl q
 ·rw [if_neg (by omega),if_neg (by omega),if_pos hk] at hw;obtain⟨v,q⟩:=hw;rw [bg5 hk];have ea:=Gx (m:=p) (f:=c.dh.f) (o:=c.dy) (w:=c.new) (mA E.ab v);rw [BX E.ab v] at ea;cases hs:lG (h.rd c.dh) c.dy with
  | true =>rw [hs] at ea q;refine iS (by show (1:Int)≠0;decide) ea fun w=>?_;rw [tk1 rfl];exact eD ⟨J.en,J.me,J.th,J.no⟩ (NX E v w) hl q
  | false =>rw [hs] at ea q;refine iS (by show (1:Int)≠0;decide) ea fun w=>?_;rw [tk1 rfl];exact eD ⟨J.en,J.me,J.th,J.no⟩ (jA E) hl q
 ·rw [if_neg (by omega),if_neg (by omega),if_neg (by omega),if_neg (by omega),if_neg (by omega),if_pos (.inl hk)] at hw;obtain⟨s1,sl,q⟩:=hw;rw [bg9 hk];obtain⟨q1,q2,q3⟩:=E.ab.lv _ _ s1 sl;have ea:p.aV ⟨5,0,0,0,c.dy,aq⟩=(⟨aq,true⟩,{p.cI with aW:=p.cI.aW.set (c.dy.ae - 1).toNat {p.cI.ae c.dy.ae with used:=false},free:=p.cI.free++[⟨c.dy.ae⟩]}):=by
   have hs:∀e,p.lE c.dy.ae c.dy.gen e=none:=fun e=>by unfold ah.lE;rw [if_neg (by omega),if_neg (by rw [q2];decide),if_pos q3]
   unfold ah.aV ah.oz;simp only [hs];rfl
  refine iS (by show (2:Int)≠0;decide) ea fun w=>?_;rw [tk2 rfl];exact eD ⟨J.en,J.me,J.th,J.no⟩ (adG E s1 sl w) hl q
theorem apy (I:RQ e N m) (he:1<=e /\ e<=5) (E:EB n C N p h) (hl:N.length<=L) (hk:c.aj=7) (hi:0<=c.i /\ c.i < 9) (hw:h.Wp c K):dF n (Fin n e C L K) 1 (bj m c) p:=by
 have J:=oG (c:=c) I;unfold Wp at hw;rw [if_neg (by omega),if_neg (by omega),if_neg (by omega),if_pos hk] at hw;have go:m.au=2 \/ m.au=3->dF n (Fin n e C L K) 1 (bj m c) p:=fun h23=>by
  rw [au5 hk h23];cases !eqW (H9.get m.holds c.i) (H9.get m.holds c.j) with
  | false=>exact eD J E hl hw
  | true =>rw [I.me];refine iS (by show (2:Int)≠0;decide) (xo fun e=>pZ e) fun w=>?_;rw [tk2 rfl];exact eD ⟨J.en,J.me,J.th,J.no⟩ (Sr E (by omega) (by omega) (by omega) w) hl hw
 have no:m.au=1 \/ m.au=4 \/ m.au=5->dF n (Fin n e C L K) 1 (bj m c) p:=fun aug=>by rw [au4 hk aug];exact eD J E hl hw
 have:=I.en;rcases Uz he with h | h | h | h | h
 ·exact no (by omega)
 ·exact go (by omega)
 ·exact go (by omega)
 ·exact no (by omega)
 ·exact no (by omega)
end
end
section
open Go Go.Sx Go.Proofs AH
section
variable {n:Nat} {e C:Int} {N:List Nt} {L k:Nat} {K:cJ->AH->Prop} {m:ax} {p:ah} {h:AH} {x:cJ} {c:Cl}
theorem oq {Q:ax->ah->Prop} {M:ax} (hs:M.step≠0) (ha:M.acc=⟨1,0,0,24,aq,aq⟩) (E:EB n C N p h) (go:EB n C N p.cI h->dF n Q k (bX M ⟨p.read 0 24,true⟩) p.cI):dF n Q (k+1) M p :=
 iS hs (by rw [ha];exact qD fun e=>pZ e) fun _=>go (jA E)
theorem qq {Q:ax->ah->Prop} {M:ax} {f:Int} {v:W} (hs:M.step≠0) (ha:M.acc=⟨2,0,0,f,aq,v⟩) (f1:18<=f) (f2:f < 85) (f3:f≠24) (E:EB n C N p h) (go:EB n C N (p.cI.fP 0 f v) h->(p.cI.fP 0 f v).read 0 24=p.read 0 24->dF n Q k (bX M ⟨aq,true⟩) (p.cI.fP 0 f v)):dF n Q (k+1) M p :=
 iS hs (by rw [ha];exact xo fun e=>pZ e) fun w=>go (Sr E f1 f2 f3 w) (Z0 E f1 f2 f3)
theorem apx (I:RQ e N m) (he:1<=e /\ e<=5) (E:EB n C N p h) (hl:N.length<=L) (hk:c.aj=8) (hw:h.Wp c K):dF n (Fin n e C L K) 2 (bj m c) p:=by
 have J:=oG (c:=c) I;unfold Wp at hw;rw [if_neg (by omega),if_neg (by omega),if_neg (by omega),if_neg (by omega),if_pos hk] at hw;obtain⟨k0,k1⟩:=hw;have fin:∀{M:ax} {p:ah} {b:Int} {o:W},RQ e N M->M.step=1->M.acc=⟨4,0,0,0,aq,o⟩->EB n C N p h->dF n (Fin n e C L K) 1 M p:=fun {M p b o} R hs ha E=>by
  have ea:p.aV M.acc=p.cI.alloc o.bU:=by rw [ha];rfl
  rcases ZG E o.bU with q | ⟨s,g,s1,fr,q1,q2⟩
  ·refine iS (by rw [hs];decide) (ea.trans q) fun w=>?_;rw [tk1 hs];exact eD R (jA E) hl k0
  ·refine iS (x:=⟨⟨s,g,0,0,false⟩,true⟩) (p':=(p.cI.alloc o.bU).2) (by rw [hs];decide) (ea.trans (by rw [<- q1])) fun w=>?_;rw [tk1 hs];exact eD R (q2 w) hl (k1 s g s1 fr)
 have a:m.au=3 \/ m.au=5->dF n (Fin n e C L K) 2 (bj m c) p:=fun h35=>by rw [aj1 hk h35];refine oq (by show (8:Int)≠0;decide) rfl E fun E1=>?_;rw [tk8 rfl];exact fin (b:=0) ⟨J.en,J.me,J.th,J.no⟩ rfl rfl E1
 have b:m.au=1 \/ m.au=2 \/ m.au=4->dF n (Fin n e C L K) 2 (bj m c) p:=fun auh=>by rw [aj0 hk auh];exact jG (fun _ _ h=>h) (by decide:1<=2) (fin (b:=0) ⟨J.en,J.me,J.th,J.no⟩ rfl rfl E)
 have:=I.en;rcases Uz he with h | h | h | h | h
 ·exact b (by omega)
 ·exact b (by omega)
 ·exact a (by omega)
 ·exact b (by omega)
 ·exact a (by omega)
theorem yG {Q:ax->ah->Prop} {M:ax} {a:Ad} (hs:M.step≠0) (ha:M.acc=⟨1,a.s,a.g,a.f,aq,aq⟩) (hv:h.bM a) (E:EB n C N p h) (go:EB n C N p.cI h->dF n Q k (bX M ⟨h.rd a,true⟩) p.cI):dF n Q (k+1) M p :=
 iS (x:=⟨h.rd a,true⟩) (p':=p.cI) hs (by rw [ha];exact(qD (mA E.ab hv)).trans (by rw [BX E.ab hv])) fun _=>go (jA E)
theorem Zv (w:W):eqW w w=true:=by unfold eqW;simp
theorem ahU {v:Int} (h:1<=v):isZero (dZ v)=false:=by unfold isZero dZ;simp;omega
structure SU (e:Int) (N:List Nt) (c:Cl) (s:Int) (a:pB) (M:ax):Prop extends RQ e N M where
 st:M.step=s
 ac:M.acc=a
 cl:M.call=c
def PJ (a:Ad):pB:=⟨1,a.s,a.g,a.f,aq,aq⟩
theorem ash {M:ax} (P:SU 2 N c 5 (PJ c.dh) M) (E:EB n C N p h) (hl:N.length<=L) (v:h.bM c.dh) (q:K ⟨h.rd c.dh,true⟩ h) (hg:M.holds.get c.i=dB (h.rd c.dh)):dF n (Fin n 2 C L K) (k+1) M p:=by refine yG (by rw [P.st];decide) P.ac v E fun E1=>?_;rw [alU P.st P.en,P.cl];dsimp only;rw [hg,Zv];cases (h.rd c.dh).ae==0<;>exact eD P.toRQ E1 hl q
theorem asi {M:ax} (P:SU 2 N c 5 (PJ c.dh) M) (E:EB n C N p h) (hl:N.length<=L) (v:h.bM c.dh) (q:K ⟨h.rd c.dh,true⟩ h) (hi:0<=c.i /\ c.i < 9):dF n (Fin n 2 C L K) (k+3) M p:=by
 refine yG (by rw [P.st];decide) P.ac v E fun E1=>?_;rw [alU P.st P.en,P.cl,P.me];dsimp only;cases gU (!((h.rd c.dh).ae==0)) (!eqW (H9.get M.holds c.i) (dB (h.rd c.dh))) with
 | false=>exact eD P.toRQ E1 hl q
 | true =>refine qq (by show (7:Int)≠0;decide) rfl (by omega) (by omega) (by omega) E1 fun E2 _=>?_;rw [tk7 rfl];exact ash ⟨⟨P.en,rfl,P.th,P.no⟩,rfl,rfl,rfl⟩ E2 hl v q (af7 _ _ hi.1 hi.2)
theorem ase {M:ax} (P:SU 3 N c 6 (PJ lz) M) (E:EB n C N p h) (hl:N.length<=L) (q:K ⟨M.word,true⟩ h) (hg:M.holds.get c.i=dZ (p.read 0 24).bU):dF n (Fin n 3 C L K) (k+1) M p:=by refine oq (by rw [P.st];decide) P.ac E fun E1=>?_;rw [alT P.st P.en,P.cl];dsimp only;rw [hg,ahU E.c1];rw [show ((dZ (p.read 0 24).bU).bU==(p.read 0 24).bU)=true by simp [dZ]];exact eD P.toRQ E1 hl q
theorem asf {M:ax} (P:SU 3 N c 5 (PJ c.dh) M) (E:EB n C N p h) (hl:N.length<=L) (v:h.bM c.dh) (q:K ⟨h.rd c.dh,true⟩ h) (hg:M.holds.get c.i=dZ (p.read 0 24).bU):dF n (Fin n 3 C L K) (k+2) M p:=by refine yG (by rw [P.st];decide) P.ac v E fun E1=>?_;rw [abl P.st (.inl P.en)];exact ase ⟨⟨P.en,P.me,P.th,P.no⟩,rfl,rfl,P.cl⟩ E1 hl q hg
theorem asd {M:ax} (P:SU 3 N c 6 (PJ lz) M) (E:EB n C N p h) (hl:N.length<=L) (v:h.bM c.dh) (q:K ⟨h.rd c.dh,true⟩ h) (hw:M.word=h.rd c.dh) (hi:0<=c.i /\ c.i < 9):dF n (Fin n 3 C L K) 4 M p:=by
 refine oq (by rw [P.st];decide) P.ac E fun E2=>?_;rw [alT P.st P.en,P.cl,P.me];dsimp only;cases gU (!isZero (H9.get M.holds c.i)) ((H9.get M.holds c.i).bU==(p.read 0 24).bU) with
 | true=>exact eD P.toRQ E2 hl (by rw [hw];exact q)
 | false =>refine qq (by show (7:Int)≠0;decide) rfl (by omega) (by omega) (by omega) E2 fun E3 hc=>?_;rw [tk7 rfl];refine asf (k:=0) ⟨⟨P.en,rfl,P.th,P.no⟩,rfl,rfl,rfl⟩ E3 hl v q ?_;show (H9.put M.holds c.i (dZ (p.read 0 24).bU)).get c.i=_;rw [af7 _ _ hi.1 hi.2,hc];rfl
theorem asg {M:ax} (P:SU 3 N c 5 (PJ c.dh) M) (E:EB n C N p h) (hl:N.length<=L) (v:h.bM c.dh) (q:K ⟨h.rd c.dh,true⟩ h) (hi:0<=c.i /\ c.i < 9):dF n (Fin n 3 C L K) 5 M p:=by refine yG (by rw [P.st];decide) P.ac v E fun E1=>?_;rw [abl P.st (.inl P.en)];exact asd ⟨⟨P.en,P.me,P.th,P.no⟩,rfl,rfl,P.cl⟩ E1 hl v q rfl hi
theorem asb {M:ax} (P:SU 5 N c 6 (PJ lz) M) (E:EB n C N p h) (hl:N.length<=L) (q:K ⟨M.word,true⟩ h) (hg:M.span.is=true /\ M.span.Ks=(p.read 0 24).bU):dF n (Fin n 5 C L K) (k+1) M p:=by refine oq (by rw [P.st];decide) P.ac E fun E1=>?_;rw [alS P.st P.en];dsimp only;rw [hg.1,hg.2,show ((p.read 0 24).bU==(p.read 0 24).bU)=true by simp];exact eD P.toRQ E1 hl q
theorem am4 {M:ax} (P:SU 5 N c 5 (PJ c.dh) M) (E:EB n C N p h) (hl:N.length<=L) (v:h.bM c.dh) (q:K ⟨h.rd c.dh,true⟩ h) (hg:M.span.is=true /\ M.span.Ks=(p.read 0 24).bU):dF n (Fin n 5 C L K) (k+2) M p:=by refine yG (by rw [P.st];decide) P.ac v E fun E1=>?_;rw [abl P.st (.inr P.en)];exact asb ⟨⟨P.en,P.me,P.th,P.no⟩,rfl,rfl,P.cl⟩ E1 hl q hg
theorem asa {M:ax} (P:SU 5 N c 6 (PJ lz) M) (E:EB n C N p h) (hl:N.length<=L) (v:h.bM c.dh) (q:K ⟨h.rd c.dh,true⟩ h) (hw:M.word=h.rd c.dh):dF n (Fin n 5 C L K) 4 M p:=by
 refine oq (by rw [P.st];decide) P.ac E fun E2=>?_;rw [alS P.st P.en,P.me];dsimp only;cases gU M.span.is (M.span.Ks==(p.read 0 24).bU) with
 | true=>exact eD P.toRQ E2 hl (by rw [hw];exact q)
 | false =>
   cases M.span.is with
   | true =>refine qq (by show (7:Int)≠0;decide) rfl (by decide) (by decide) (by decide) E2 fun E3 hc=>?_;rw [tk7 rfl];exact am4 (k:=0) ⟨⟨P.en,rfl,P.th,P.no⟩,rfl,by show PJ M.call.dh=_;rw [P.cl],P.cl⟩ E3 hl v q ⟨rfl,(congrArg W.bU hc).symm⟩
   | false =>refine qq (by show (7:Int)≠0;decide) rfl (by decide) (by decide) (by decide) E2 fun E3 hc=>?_;rw [tk7 rfl];exact am4 (k:=0) ⟨⟨P.en,rfl,P.th,P.no⟩,rfl,by show PJ M.call.dh=_;rw [P.cl],P.cl⟩ E3 hl v q ⟨rfl,(congrArg W.bU hc).symm⟩
theorem asc {M:ax} (P:SU 5 N c 5 (PJ c.dh) M) (E:EB n C N p h) (hl:N.length<=L) (v:h.bM c.dh) (q:K ⟨h.rd c.dh,true⟩ h):dF n (Fin n 5 C L K) 5 M p:=by refine yG (by rw [P.st];decide) P.ac v E fun E1=>?_;rw [abl P.st (.inr P.en)];exact asa ⟨⟨P.en,P.me,P.th,P.no⟩,rfl,rfl,P.cl⟩ E1 hl v q rfl
theorem apz (I:RQ e N m) (he:1<=e /\ e<=5) (E:EB n C N p h) (hl:N.length<=L) (hk:c.aj=6) (hi:0<=c.i /\ c.i < 9) (hw:h.Wp c K):dF n (Fin n e C L K) 5 (bj m c) p:=by
 have J:=oG (c:=c) I;unfold Wp at hw;rw [if_pos (.inr hk)] at hw;obtain⟨v,q⟩:=hw;rw [bg6 hk];have P:SU e N c 5 (PJ c.dh) (eo 5 c.dh (cC c (dI m))).m:=⟨⟨J.en,J.me,J.th,J.no⟩,rfl,rfl,rfl⟩;generalize (eo 5 c.dh (cC c (dI m))).m=M at P;have h14:e=1 \/ e=4->dF n (Fin n e C L K) 5 M p:=fun h14=>by refine yG (by rw [P.st];decide) P.ac v E fun E1=>?_;rw [arC P.st (by rw [P.en];exact h14)];exact eD P.toRQ E1 hl q
 rcases Uz he with rfl | rfl | rfl | rfl | rfl
 ·exact h14 (.inl rfl)
 ·exact asi (k:=2) P E hl v q hi
 ·exact asg P E hl v q hi
 ·exact h14 (.inr rfl)
 ·exact asc P E hl v q
theorem agf (I:RQ e N m) (he:1<=e /\ e<=5) (E:EB n C N p h) (hl:N.length<=L) (hk:c.aj=1) (q:K ⟨aq,true⟩ h):dF n (Fin n e C L K) 2 (bj m c) p:=by
 have J:=oG (c:=c) I;have a:m.au=4 \/ m.au=5->dF n (Fin n e C L K) 2 (bj m c) p:=fun h45=>by rw [au7 hk h45];refine oq (by show (3:Int)≠0;decide) rfl E fun E1=>?_;rw [tk3 rfl,show (eo 3 lz (cC c (dI m))).m.me=0 from I.me];refine qq (by show (2:Int)≠0;decide) rfl (by decide) (by decide) (by decide) E1 fun E2 _=>?_;rw [tk2 rfl];exact eD ⟨J.en,rfl,J.th,J.no⟩ E2 hl q
 have b:m.au=1 \/ m.au=2 \/ m.au=3->dF n (Fin n e C L K) 2 (bj m c) p:=fun aui=>by rw [au6 hk aui];exact eD J E hl q
 have:=I.en;rcases Uz he with h | h | h | h | h
 ·exact b (by omega)
 ·exact b (by omega)
 ·exact b (by omega)
 ·exact a (by omega)
 ·exact a (by omega)
theorem Qf:∀{k:Nat} {j:Int} {M:ax} {p:ah} {r:RT},r.m=M->RQ e N M->(e=2 \/ e=3)->EB n C N p h->N.length<=L->K ⟨aq,true⟩ h->0<=j->j+k=9->dF n (Fin n e C L K) k (qV cond NN RT.m r k j) p
 | 0,j,M,p,r,hr,R,he,E,hl,q,j0,jk=>by subst hr;exact eD (m:=r.m) R E hl q
 | k+1,j,M,p,r,hr,R,he,E,hl,q,j0,jk=>by
   subst hr;show dF n _ _ (cond (!isZero (H9.get r.m.holds j)) (uY NN RT.m 4 j aq {r with m:={r.m with index:=j}}) (qV cond NN RT.m r k (j+1))) _;cases !isZero (H9.get r.m.holds j) with
   | false=>exact jG (fun _ _ h=>h) (by omega) (Qf rfl R he E hl q (by omega) (by omega))
   | true =>
     show dF n _ _ (fF 4 ⟨2,0,0,25+r.m.me * 9+j,aq,aq⟩ {r with m:={r.m with index:=j,holds:=H9.put r.m.holds j aq}}).m _;rw [R.me];refine qq (by show (4:Int)≠0;decide) rfl (by omega) (by omega) (by omega) E fun E1 _=>?_;rw [tk4 rfl];have ei:(j+1).toNat=9 - k:=by omega
     show dF n _ k (nM cond NN RT.m (j+1).toNat _) _;unfold nM;rw [if_neg (by show ¬(r.m.au=4 \/ r.m.au=5);rw [R.en];omega),if_pos (by show r.m.au=2 \/ r.m.au=3;rw [R.en];exact he),show 9 - (j+1).toNat=k by omega];exact Qf rfl ⟨R.en,R.me,R.th,R.no⟩ he E1 hl q (by omega) (by omega)
theorem apA (I:RQ e N m) (he:1<=e /\ e<=5) (E:EB n C N p h) (hl:N.length<=L) (hk:c.aj=2) (q:K ⟨aq,true⟩ h):dF n (Fin n e C L K) 9 (bj m c) p:=by
 have J:=oG (c:=c) I;rw [bg2 hk];unfold nM;by_cases h45:(cC c (dI m)).m.au=4 \/ (cC c (dI m)).m.au=5
 ·rw [if_pos h45];show dF n _ _ (cond (!Pc m.span) (fF 2 ⟨2,0,0,79+m.me,aq,aq⟩ {cC c (dI m) with m:={(cC c (dI m)).m with span:=⟨false,0,0⟩}}).m (dA ⟨aq,true⟩ (cC c (dI m))).m) _;cases !Pc m.span with
  | false=>exact eD J E hl q
  | true =>rw [I.me];refine qq (by show (2:Int)≠0;decide) rfl (by decide) (by decide) (by decide) E fun E1 _=>?_;rw [tk2 rfl];exact eD ⟨J.en,J.me,J.th,J.no⟩ E1 hl q
 ·rw [if_neg h45];by_cases h23:(cC c (dI m)).m.au=2 \/ (cC c (dI m)).m.au=3
  ·rw [if_pos h23];exact Qf (k:=9) rfl J (by have:=J.en;omega) E hl q (by decide) (by decide)
  ·rw [if_neg h23];exact eD J E hl q
