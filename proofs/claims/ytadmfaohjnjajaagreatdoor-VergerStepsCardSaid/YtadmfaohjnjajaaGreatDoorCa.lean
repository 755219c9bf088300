import Derived.Test.YtadmfaohjnjajaaGreatDoorBr
set_option linter.unusedVariables false
set_option linter.unusedSimpArgs false
set_option maxHeartbeats 0
set_option maxRecDepth 100000
namespace Go.Proofs.YtadmfaohjnjajaaGreatDoor
section
open Go Go.Sx Go.Proofs AH
structure Gk (h G:AH) (y:Sn) (q:Int):Prop where
 lv:G.lv=h.lv
 bd:G.bd=h.bd
 cl:∀s f,¬(s=y.s /\ 2+q < f /\ f < 2+y.t)->G.cl s f=h.cl s f
 mr:∀j,q < j->j < y.t->(G.cl y.s (2+j)).mark=true /\ (G.cl y.s (2+j)).af=(h.cl y.s (2+j)).af /\ (G.cl y.s (2+j)).gen=(h.cl y.s (2+j)).gen
section
variable {h:AH} {L:List Sn} {y:Sn} {ky va ta:Int} {la:Cl} {inc:Int}
theorem G7 (hi:ke h L) (hy:y∈L) (hky:y.k=ky) (k0:0<=ky) (k1:ky < 256) (bC:Gf ky L=some y) {cb:Option aN}:∀(d:Nat) {q:Int} {G:AH},q=d->q < y.t->Gk h G y q ->
 b9 aM (MS L ⟨7,ky,va,ta⟩) (60 * L.length+172+2 * d) G (br (ay ⟨y.s,y.g,0,0,false⟩ (2+q)),⟨4,la,⟨7,ky,va,ta⟩,cb,⟨y.s,y.g,0,0,false⟩,q,inc,y.v⟩)
 | d,q,G,hd,du,g=>by
   obtain⟨y1,yl⟩:=eR hi hy
   have t3:=(hi.da y hy).2.2.2.2
   have yl':G.lv y.s y.g:=by rw [g.lv];exact yl
   have ym:y∈qt q L:=eI.2 ⟨hy,du⟩
   have em:(h.cl y.s (2+q)).mark=false:=by
    have h1:=hi.QT q (by omega) (by omega)
    obtain⟨A,B,e⟩:=List.append_of_mem ym
    rw [e] at h1
    exact zY (ua h1).1
   have eg:G.cl y.s (2+q)=h.cl y.s (2+q):=g.cl _ _ fun e=>by omega
   refine bT (fun _ _ h=>h) (by omega:(60 * L.length+170+2 * d)+1+1<=_) (bB (dm (aZ (w:=⟨y.s,y.g,0,0,false⟩) y1 yl' (by omega) (by omega)) ?_))
   show b9 aM _ _ G (aM ⟨4,la,⟨7,ky,va,ta⟩,cb,⟨y.s,y.g,0,0,false⟩,q,inc,y.v⟩ ⟨G.rd (ay ⟨y.s,y.g,0,0,false⟩ (2+q)),true⟩)
   rw [dJ y1,show G.cl (⟨y.s,y.g,0,0,false⟩:W).af (2+q)=h.cl y.s (2+q) from eg,aj5 _ em,w2 (by omega) (by omega)]
   refine bB (gG (aZ (w:=⟨y.s,y.g,0,0,false⟩) y1 yl' (by omega) (by omega)) (by rw [dJ y1];exact eg) ?_)
   show b9 aM _ _ _ (aM ⟨5,la,⟨7,ky,va,ta⟩,cb,⟨y.s,y.g,0,0,false⟩,q,inc,y.v⟩ ⟨h.cl y.s (2+q),true⟩)
   rw [aj4]
   have g':Gk h (G.wr (ay ⟨y.s,y.g,0,0,false⟩ (2+q)) (nM (h.cl y.s (2+q)))) y (q - 1):=by
    have cw:∀s f,(G.wr (ay ⟨y.s,y.g,0,0,false⟩ (2+q)) (nM (h.cl y.s (2+q)))).cl s f=if s=y.s /\ f=2+q then nM (h.cl y.s (2+q)) else G.cl s f:=fun s f=>gb y1
    refine⟨by rw [de];exact g.lv,by rw [tj y1];exact g.bd,fun s f dA=>?_,fun j h1 h2=>?_⟩
    ·rw [cw,if_neg fun e=>dA ⟨e.1,by omega,by omega⟩]
     exact g.cl s f fun e=>dA ⟨e.1,by omega,e.2.2⟩
    ·rw [cw]
     by_cases e:j=q
     ·subst e;rw [if_pos ⟨rfl,rfl⟩];exact⟨rfl,rfl,rfl⟩
     ·rw [if_neg (by omega)];exact g.mr j (by omega) h2
   cases d with
   | zero =>
     have hd:q=0:=hd
     subst hd
     rw [aaZ (by decide:¬(0:Int) > 0)]
     refine bT (fun _ _ h=>h) (by omega:60 * L.length+170<=_) (ab3 ⟨hi,hy,g'.lv,g'.bd,fun s f dA=>g'.cl s f fun e=>dA ⟨e.1,by omega,e.2.2⟩,fun j h1 h2=>g'.mr j (by omega) h2⟩ hky k0 k1 bC (cb:=cb) _)
   | succ d =>
     rw [aaS (by omega:q > 0),show IntKind.wrap .i64 (q - 1)=q - 1 from ma (by omega),w2 (by omega) (by omega)]
     exact bT (fun _ _ h=>h) (by omega:60 * L.length+172+2 * d<=_) (G7 hi hy hky k0 k1 bC d (by omega) (by omega) g')
theorem ZX (hi:ke h L) (k0:0<=ky) (k1:ky < 256) {cb:Option aN} {nd:W} {lv v:Int} (x:cr):b9 aM (MS L ⟨7,ky,va,ta⟩) (90 * L.length+200) h (aM ⟨0,la,⟨7,ky,va,ta⟩,cb,nd,lv,inc,v⟩ x):=by
 rw [aj9]
 refine bT (fun _ _ h=>h) (by omega:(30 * L.length+20)+(60 * L.length+180)<=_) (uZ (J:=fun c=>⟨1,la,⟨7,ky,va,ta⟩,some c,nd,lv,inc,v⟩) (co:=fun c=>UL ⟨1,la,⟨7,ky,va,ta⟩,some c,nd,lv,inc,v⟩) aj8 (fun c h' hq=>?_) (wh hi x))
 obtain⟨rfl,hq⟩:=hq
 have hf:=hq.fo
 show b9 aM _ _ h' (cond (c.found.af==0) (rY 2 0 ⟨1,la,⟨7,ky,va,ta⟩,some c,c.found,lv,inc,v⟩) (br (ay c.found 6),⟨2,la,⟨7,ky,va,ta⟩,some c,c.found,lv,inc,v⟩))
 cases bC:Gf ky L with
 | none =>
   rw [bC] at hf
   have hf:c.found=ao:=hf
   rw [hf]
   exact cK rfl (.inr (.inl ⟨by show (7:Int)≠6;decide,bC,rfl,hi⟩))
 | some y =>
   rw [bC] at hf
   have hf:c.found=⟨y.s,y.g,0,0,false⟩:=hf
   obtain⟨hy,hyk⟩:=vC bC
   obtain⟨y1,yl⟩:=eR hi hy
   obtain⟨d1,d6,_,t1,t3⟩:=hi.da y hy
   rw [hf,gp y1]
   refine bT (fun _ _ h=>h) (by omega:(60 * L.length+178)+1+1<=_) (bB (dm (aZ (w:=⟨y.s,y.g,0,0,false⟩) y1 yl (by decide) (by decide)) ?_))
   show b9 aM _ _ h' (aM ⟨2,la,⟨7,ky,va,ta⟩,some c,⟨y.s,y.g,0,0,false⟩,lv,inc,v⟩ ⟨h'.rd (ay ⟨y.s,y.g,0,0,false⟩ 6),true⟩)
   rw [dJ y1,aj7,show (h'.cl (⟨y.s,y.g,0,0,false⟩:W).af 6).bS=y.t from d6,aaZ (by omega:¬y.t < 1),aaZ (by omega:¬y.t > 3)]
   refine bB (dm (aZ (w:=⟨y.s,y.g,0,0,false⟩) y1 yl (by decide) (by decide)) ?_)
   show b9 aM _ _ h' (aM ⟨3,la,⟨7,ky,va,ta⟩,some c,⟨y.s,y.g,0,0,false⟩,IntKind.wrap .i64 (y.t - 1),inc,v⟩ ⟨h'.rd (ay ⟨y.s,y.g,0,0,false⟩ 1),true⟩)
   rw [aj6,dJ y1,show (h'.cl (⟨y.s,y.g,0,0,false⟩:W).af 1).bS=y.v from d1,show IntKind.wrap .i64 (y.t - 1)=y.t - 1 from ma (by omega),w2 (by omega) (by omega)]
   exact bT (fun _ _ h=>h) (by omega:60 * L.length+172+2 * (y.t - 1).toNat<=_) (G7 hi hy hyk k0 k1 bC (y.t - 1).toNat (by omega) (by omega) ⟨rfl,rfl,fun _ _ _=>rfl,fun j h1 h2=>by omega⟩)
end
end
section
open Go Go.Sx Go.Proofs AH
structure aie (h:AH) (l:List Kn):Prop where
 ok:BZ h (aV 0) l
 sr:Is l
 rg:∀x∈l,0<=x.k /\ x.k < 256
theorem aaX {h:AH} {l:List Kn} (hi:aie h l) {o:O} (ho:o.aj=6 \/ o.aj=7 \/ o.aj=8) (k0:0<=o.key) (k1:o.key < 256) (x:cr):b9 b6 (fun a h'=>∃l',sS h o.key o l a l' /\ aie h' l') (10 * l.length+120) h (b6 (G3 o) x):=by
 refine bT (fun a h' hq=>?_) (abV _) (Lu hi.ok ho x)
 obtain⟨l',ls,ok,_⟩:=hq
 suffices h:Is l' /\ ∀x∈l',0<=x.k /\ x.k < 256 from⟨l',ls,ok,h.1,h.2⟩
 rcases ls with⟨_,⟨q1,_,n,nk,_,_,e⟩ | ⟨_,_,e⟩ | ⟨_,e⟩⟩ | ⟨_,_,_,e⟩ | ⟨y,q1,_,⟨_,e⟩ | ⟨_,e⟩⟩<;>subst e
 ·refine⟨Ct hi.sr (by rw [nk];exact q1),fun x hx=>?_⟩
  rcases g9.1 hx with rfl | hx
  ·omega
  ·exact hi.rg x hx
 ·exact⟨hi.sr,hi.rg⟩
 ·exact⟨hi.sr,hi.rg⟩
 ·exact⟨hi.sr,hi.rg⟩
 ·exact⟨Pz hi.sr,fun x hx=>hi.rg x (Dw hx)⟩
 ·exact⟨hi.sr,hi.rg⟩
end
section
open Go Go.Sx Go.Proofs AH
def reg (L:List Kn):Nat:=(L.filter fun x=>x.k % 2==1).length
theorem Gv {α:Type} (p:α->Bool):∀(L:List α),L.length=(L.filter p).length+(L.filter fun x=>!p x).length
 | []=>rfl
 | x::L=>by
   rw [abn,Gv p L,aeB,aeB]
   cases p x<;>simp<;>omega
theorem XY:∀{E:List Kn} {lo:Int} {n:Nat},Is E->lo % 64=0->(∀x∈E,x.k % 64=0 /\ lo<=x.k /\ x.k < lo+64 * n)->E.length<=n
 | [],_,_,_,_,_=>adr _
 | x::E,lo,n,hs,h0,hr=>by
   unfold Is at hs
   rw [aeo] at hs
   obtain⟨x0,x1,x2⟩:=hr x abw
   have:=XY (lo:=x.k+64) (n:=((lo+64 * n - x.k - 64) / 64).toNat) hs.2 (by omega) fun y hy=>by
    have h1:=hs.1 y hy
    obtain⟨y0,y1,y2⟩:=hr y (aby _ hy)
    omega
   rw [abn]
   omega
theorem aal {h:AH} {L:List Kn} (hi:kZ h L):L.length<=reg L+8:=by
 rw [Gv (fun x:Kn=>x.k % 2==1) L]
 have:=XY (E:=L.filter fun x=>!(x.k % 2==1)) (lo:=0) (n:=8) (List.Pairwise.sublist aeW hi.sr) rfl fun x hx=>by
  obtain⟨h1,h2⟩:=agS.1 hx
  have:=hi.rg x h1
  have h2:¬x.k % 2=1:=by simpa using h2
  omega
 unfold reg
 omega
theorem II:∀{A B:List Kn},Is A->(∀x∈A,x∈B)->A.length<=B.length
 | [],_,_,_=>adr _
 | x::A,B,hs,hm=>by
   unfold Is at hs
   rw [aeo] at hs
   obtain⟨B1,B2,rfl⟩:=List.append_of_mem (hm x abw)
   have:=II (A:=A) (B:=B1++B2) hs.2 fun y hy=>by
    have h1:=hs.1 y hy
    have:=hm y (aby _ hy)
    simp only [aec,abk] at this ⊢
    rcases this with h | rfl | h
    ·exact .inl h
    ·omega
    ·exact .inr h
   simp only [abl,abn] at this ⊢
   omega
theorem Vv {h:AH} {L0 L:List Kn} (hi:kZ h L) (hs:lB L0 L):reg L<=reg L0 :=
 II (List.Pairwise.sublist aeW hi.sr) fun x hx=>by
  obtain⟨h1,h2⟩:=agS.1 hx
  exact agS.2 ⟨(hs x (by simpa using h2)).1 h1,h2⟩
theorem LL {p:Kn->Bool} {n:Kn}:∀{L:List Kn},((mQ n L).filter p).length<=(L.filter p).length+1
 | []=>by simp only [mQ,aeB];split<;>simp
 | x::L=>by
   unfold mQ
   split
   ·rw [aeB]
    split
    ·exact abV _
    ·exact Nat.le_succ _
   ·have:=LL (p:=p) (n:=n) (L:=L)
    rw [aeB,aeB]
    split
    ·rw [abn,abn];omega
    ·exact this
theorem P9 {h:AH} {key:Int} {o:O} {l l':List Kn} {a:An} (ls:sS h key o l a l') (p:Kn->Bool):(l'.filter p).length<=(l.filter p).length+1:=by
 rcases ls with⟨_,⟨q1,_,n,nk,_,_,e⟩ | ⟨_,_,e⟩ | ⟨_,e⟩⟩ | ⟨_,_,_,e⟩ | ⟨y,q1,_,⟨_,e⟩ | ⟨_,e⟩⟩<;>subst e
 ·exact LL
 all_goals first | exact Nat.le_succ _ | exact Nat.le_succ_of_le (rC.filter p).length_le
theorem LK {n:Sn}:∀{L:List Sn},(o5 n L).length=L.length+1
 | []=>rfl
 | x::L=>by
   unfold o5
   split
   ·rfl
   ·rw [abn,LK];rfl
def MV (s n:Nat) (h:AH):Prop:=match s with
 | 1=>∃vs,sQ h vs /\ vs.length<=n
 | 2=>∃vs,wy h vs /\ vs.length<=n
 | 3=>∃l,aie h l /\ l.length<=n
 | 4=>∃L,kZ h L /\ reg L<=n
 | _=>∃L,ke h L /\ L.length<=n
structure anW (s:Nat) (o:O):Prop where
 k1:s=1->o.aj=1 \/ o.aj=2 \/ o.aj=3
 k2:s=2->o.aj=4 \/ o.aj=5
 k3:3<=s->(o.aj=6 \/ o.aj=7 \/ o.aj=8) /\ 0<=o.key /\ o.key < 256
 k5:s=5->o.aj=6->1<=o.bO /\ o.bO<=3
theorem W5 {s n:Nat} (hs:s=1 \/ s=2 \/ s=3 \/ s=4 \/ s=5) (hn:n<=40) {h:AH} (hi:MV s n h) {o:O} (hf:anW s o):lg (fun _ h'=>MV s (n+1) h') 3900 h ((uF s o).next ⟨ao,true⟩):=by
 rcases hs with rfl | rfl | rfl | rfl | rfl
 ·obtain⟨vs,hi,hl⟩:=hi
  refine bT (fun a h' hq=>?_) (by omega:120<=3900) (RO hi (hf.k1 rfl))
  rcases hq with⟨_,⟨_,q⟩ | ⟨_,q⟩⟩ | ⟨_,_,_,q⟩ | ⟨v,r,e,_,⟨_,q⟩ | ⟨_,q⟩⟩
  ·exact⟨_,q,afc hl⟩
  ·exact⟨_,q,Nat.le_succ_of_le hl⟩
  ·exact⟨_,q,adr _⟩
  ·subst e;exact⟨_,q,by rw [abn] at hl;omega⟩
  ·exact⟨_,q,Nat.le_succ_of_le hl⟩
 ·obtain⟨vs,hi,hl⟩:=hi
  refine bT (fun a h' hq=>?_) (by omega:120<=3900) (S5 hi (hf.k2 rfl))
  rcases hq with⟨_,⟨_,q⟩ | ⟨_,q⟩⟩ | ⟨_,⟨_,_,q⟩ | ⟨v,r,e,_,q⟩⟩
  ·exact⟨_,q,by rw [abl];exact afc hl⟩
  ·exact⟨_,q,Nat.le_succ_of_le hl⟩
  ·exact⟨_,q,adr _⟩
  ·subst e;exact⟨_,q,by rw [abn] at hl;omega⟩
 ·obtain⟨l,hi,hl⟩:=hi
  obtain⟨k,k0,k1⟩:=hf.k3 (by decide)
  refine bT (fun a h' hq=>?_) (by omega:10 * l.length+120<=3900) (zk (f:=dU.lit) (fun _ _=>rfl) (aaX hi k k0 k1 ⟨ao,true⟩))
  obtain⟨l',ls,q⟩:=hq
  have:=P9 ls fun _=>true
  rw [List.filter_eq_self.2 fun _ _=>rfl,List.filter_eq_self.2 fun _ _=>rfl] at this
  exact⟨l',q,by omega⟩
 ·obtain⟨L,hi,hl⟩:=hi
  obtain⟨k,k0,k1⟩:=hf.k3 (by decide)
  refine bT (fun a h' hq=>?_) (by omega:40 * 48+260<=3900) (zk (f:=dU.ph) (fun _ _=>rfl) (T0 hi k (aaS ⟨k0,k1⟩) (M:=48) (fun {g L'} hv hs=>by have:=aal hv;have:=Vv hv hs;omega) ⟨ao,true⟩))
  obtain⟨L1,L',h1,hs,hr,ls,q⟩:=hq
  refine⟨L',q,abL (P9 ls _) (afc (abL ?_ hl))⟩
  exact II (List.Pairwise.sublist aeW hr) fun x hx=>by
   obtain⟨g1,g2⟩:=agS.1 hx
   exact agS.2 ⟨(hs x (by simpa using g2)).1 g1,g2⟩
 ·obtain⟨L,hi,hl⟩:=hi
  obtain⟨k,k0,k1⟩:=hf.k3 (by decide)
  have fin:∀{a:An} {h':AH},MS L o a h'->∃L,ke h' L /\ L.length<=n+1:=fun {a h'} hq=>by
   rcases hq with⟨_,⟨_,_,m,_,_,_,q⟩ | ⟨_,_,q⟩ | ⟨_,q⟩⟩ | ⟨_,_,_,q⟩ | ⟨_,_,_,⟨_,q⟩ | ⟨_,q⟩⟩
   ·exact⟨_,q,by rw [LK];exact afc hl⟩
   ·exact⟨_,q,Nat.le_succ_of_le hl⟩
   ·exact⟨_,q,Nat.le_succ_of_le hl⟩
   ·exact⟨_,q,Nat.le_succ_of_le hl⟩
   ·exact⟨_,q,Nat.le_succ_of_le (abL od.length_le hl)⟩
   ·exact⟨_,q,Nat.le_succ_of_le hl⟩
  obtain⟨kd,ky,va,ta⟩:=o
  dsimp only at k k0 k1
  rcases k with rfl | rfl | rfl
  ·obtain⟨t1,t3⟩:=hf.k5 rfl rfl
   exact bT (fun _ _ hq=>fin hq) (by omega:30 * L.length+58+2<=3900) (zk (f:=dU.oM) (fun _ _=>rfl) (ZV hi k0 k1 t1 t3 (la:=aW) (cb:=none) (nd:=ao) (lv:=0) (inc:=0) ⟨ao,true⟩))
  ·exact bT (fun _ _ hq=>fin hq) (by omega:90 * L.length+200<=3900) (zk (f:=dU.oM) (fun _ _=>rfl) (ZX hi k0 k1 (la:=aW) (cb:=none) (nd:=ao) (lv:=0) (inc:=0) (v:=0) ⟨ao,true⟩))
  ·exact bT (fun _ _ hq=>fin hq) (by omega:30 * L.length+30<=3900) (zk (f:=dU.oM) (fun _ _=>rfl) (ZW hi (la:=aW) (cb:=none) (nd:=ao) (lv:=0) (inc:=0) (v:=0) ⟨ao,true⟩))
end
section
open Go Go.Sx Go.Proofs AH
structure zF (m:ai) (h:AH):Prop where
 bd:∀f,0<=f->f < 18->m.read 0 f=h.bd f
 lv:∀s g,1<=s->h.lv s g->s<=(m.aS.length:Int) /\ (m.af s).used=true /\ (m.af s).gen=g
 cl:∀s g f,1<=s->h.lv s g->0<=f->f < 8->m.read s f=h.cl s f
theorem l5 {m:ai} {h:AH} (A:zF m h) {a:Ad} (hv:h.bG a) (e:Nat):m.kK a.s a.g e=none:=by
 unfold ai.kK
 rcases hv with⟨q,_⟩ | ⟨q1,q2,_⟩
 ·rw [if_pos q]
 ·obtain⟨_,u,g⟩:=A.lv _ _ q1 q2
  rw [if_neg (by omega),if_neg (by rw [u];decide),if_pos g]
theorem Bk {m:ai} {h:AH} (A:zF m h) {a:Ad} (hv:h.bG a):m.read a.s a.f=h.rd a:=by
 unfold rd
 rcases hv with⟨q,_,f0,f1⟩ | ⟨q1,q2,f0,f1⟩
 ·rw [if_pos q,q];exact A.bd _ f0 f1
 ·rw [if_neg (by omega)];exact A.cl _ _ _ q1 q2 f0 f1
theorem Fs {m:ai} {h:AH} (A:zF m h) {k:Int}:zF {m with steps:=k} h:=⟨A.bd,A.lv,A.cl⟩
theorem YP {a:Sl} {k j:Nat} {w:W} (hj:j < 10):(a.Bq k w).at j=if j=k then w else a.at j:=by
 show ((List.range 10).map fun j=>if j=k then w else a.at j).getD j _=_
 rw [adX,aeR,List.getElem?_range hj]
 rfl
theorem lH {n:Nat} {m:ai} (hm:m.WF n) {s f s' f':Int} {w:W} (h1:0<=s) (h2:s<=(m.aS.length:Int)) (f0:0<=f) (fb:s=0->f < 85) (fc:s≠0->f < 10) (h1':0<=s') (h2':s'<=(m.aS.length:Int)) (f0':0<=f') (fc':s'≠0->f' < 10):(m.fE s f w).read s' f'=if s'=s /\ f'=f then w else m.read s' f':=by
 unfold ai.fE ai.read
 by_cases e:s=0
 ·rw [if_pos e]
  dsimp only
  by_cases e':s'=0
  ·rw [if_pos e',if_pos e']
   have lb:=hm.lb
   rw [adX,List.getElem?_set]
   by_cases ef:f'=f
   ·rw [if_pos (by omega),if_pos (by have:=fb e;omega),if_pos ⟨by omega,ef⟩];rfl
   ·rw [if_neg (by omega),if_neg fun q:s'=s /\ f'=f=>ef q.2,adX]
  ·rw [if_neg e',if_neg e',if_neg fun q:s'=s /\ f'=f=>e' (q.1.trans e)];rfl
 ·rw [if_neg e]
  by_cases e':s'=0
  ·rw [if_pos e',if_pos e',if_neg fun q:s'=s /\ f'=f=>e (q.1▸e')]
  ·rw [if_neg e',if_neg e',jJ (by omega)]
   by_cases es:s'=s
   ·subst es
    rw [if_pos rfl,YP (by have:=fc' e';omega)]
    by_cases ef:f'=f
    ·rw [if_pos (by omega),if_pos ⟨rfl,ef⟩]
    ·rw [if_neg (by omega),if_neg fun q:s'=s' /\ f'=f=>ef q.2]
   ·rw [if_neg (by omega),if_neg fun q:s'=s /\ f'=f=>es q.1]
theorem Ip {m:ai} {h:AH} (A:zF m h) {a:Ad} (hv:h.bG a):0<=a.s /\ a.s<=(m.aS.length:Int) /\ 0<=a.f /\ (a.s=0->a.f < 85) /\ (a.s≠0->a.f < 10):=by
 rcases hv with⟨q,_,f0,f1⟩ | ⟨q1,q2,f0,f1⟩
 ·exact⟨by omega,by omega,f0,fun _=>by omega,fun _=>by omega⟩
 ·have:=(A.lv _ _ q1 q2).1
  exact⟨by omega,this,f0,fun _=>by omega,fun _=>by omega⟩
theorem lG {m:ai} {s f:Int} {w:W} (h1:0<=s) (h2:s<=(m.aS.length:Int)) (t:Int):((m.fE s f w).af t).used=(m.af t).used /\ ((m.fE s f w).af t).gen=(m.af t).gen /\ (m.fE s f w).aS.length=m.aS.length:=by
 unfold ai.fE
 by_cases e:s=0
 ·rw [if_pos e];exact⟨rfl,rfl,rfl⟩
 ·rw [if_neg e,jJ (by omega)]
  refine⟨?_,?_,agO⟩
  ·split
   ·rename_i q
    show (m.af s).used=_
    unfold ai.af;rw [q]
   ·rfl
  ·split
   ·rename_i q
    show (m.af s).gen=_
    unfold ai.af;rw [q]
   ·rfl
theorem Bj {n:Nat} {m:ai} (hm:m.WF n) {h:AH} (A:zF m h) {a:Ad} (hv:h.bG a) {w:W}:zF (m.fE a.s a.f w) (h.wr a w):=by
 obtain⟨v1,v2,v3,v4,v5⟩:=Ip A hv
 refine⟨fun f f0 f1=>?_,fun s g hs hl=>?_,fun s g f hs hl f0 f1=>?_⟩
 ·rw [lH hm v1 v2 v3 v4 v5 (aef 0) (by omega) f0 (fun e=>absurd rfl e)]
  have:=lT (h:=h) (a:=a) (w:=w) (b:=aV f)
  rw [show (h.wr a w).bd f=(h.wr a w).rd (aV f) from rfl,this]
  show (if 0=a.s /\ f=a.f then w else m.read 0 f)=if 0=a.s /\ f=a.f then w else h.bd f
  rw [A.bd f f0 f1]
 ·rw [de] at hl
  obtain⟨q1,q2,q3⟩:=A.lv s g hs hl
  obtain⟨r1,r2,r3⟩:=lG (f:=a.f) (w:=w) v1 v2 s
  exact⟨by rw [r3];exact q1,r1.trans q2,r2.trans q3⟩
 ·rw [de] at hl
  have q1:=(A.lv s g hs hl).1
  rw [lH hm v1 v2 v3 v4 v5 (by omega) q1 f0 (fun _=>by omega)]
  have:=lT (h:=h) (a:=a) (w:=w) (b:=⟨s,g,f⟩)
  have ci:∀K:AH,K.rd ⟨s,g,f⟩=K.cl s f:=fun K=>by unfold rd;rw [if_neg (by show ¬s=0;omega)]
  rw [<- ci,this,ci]
  show (if s=a.s /\ f=a.f then w else m.read s f)=if s=a.s /\ f=a.f then w else h.cl s f
  rw [A.cl s g f hs hl f0 f1]
theorem Ft {m:ai} {h:AH} (A:zF m h) {s:Int}:zF m (h.JM s):=⟨A.bd,fun t g ht hl=>A.lv t g ht hl.2,fun t g f ht hl=>A.cl t g f ht hl.2⟩
theorem MQ {n:Nat} {m:ai} (hm:m.WF n) {h:AH} (A:zF m h) {s:Int} (h1:1<=s) (h2:s<=(m.aS.length:Int)) {fr:List N1}:zF {m with aS:=m.aS.set (s - 1).toNat {m.af s with used:=false},free:=fr} (h.JM s):=by
 have hs:∀t,t≠s->1<=t->({m with aS:=m.aS.set (s - 1).toNat {m.af s with used:=false},free:=fr}:ai).af t=m.af t:=fun t ht h1t=>by
  show ({m with aS:=m.aS.set (s - 1).toNat {m.af s with used:=false}}:ai).af t=_
  rw [jJ (by omega),if_neg (by omega)]
 refine⟨A.bd,fun t g ht hl=>?_,fun t g f ht hl f0 f1=>?_⟩
 ·rw [hs t hl.1 ht]
  obtain⟨q1,q2⟩:=A.lv t g ht hl.2
  exact⟨by show t<=((m.aS.set _ _).length:Int);rw [agO];exact q1,q2⟩
 ·have:=A.cl t g f ht hl.2 f0 f1
  unfold ai.read at this ⊢
  rw [if_neg (by omega)] at this ⊢
  rw [hs t hl.1 ht]
  exact this
theorem Iq {n:Nat} {m:ai} (hm:m.WF n) {h:AH} (A:zF m h) (b:Int):(m.alloc b=(⟨ao,false⟩,m)) \/ ∃s g,1<=s /\ (∀g',¬h.lv s g') /\ (m.alloc b).1=⟨⟨s,g,0,0,false⟩,true⟩ /\ zF (m.alloc b).2 (h.new s g):=by
 unfold ai.alloc
 by_cases hl:m.free.length=0
 ·rw [if_pos hl];exact .inl rfl
 ·rw [if_neg hl]
  dsimp only
  have nB:m.free.getD (m.free.length - 1) kt.bR∈m.free:=mD (by omega)
  generalize m.free.getD (m.free.length - 1) kt.bR=x at nB
  obtain⟨h1,h2⟩:=hm.fr x nB
  have hu:=hm.fu x nB
  have ls:=hm.ls
  refine .inr ⟨x.val,cX (m.af x.val).gen,h1,fun g' BG=>?_,rfl,A.bd,fun t g ht hl=>?_,fun t g f ht hl f0 f1=>?_⟩
  ·have:=(A.lv _ _ h1 BG).2.1
   rw [hu] at this;cases this
  ·have hl:if t=x.val then g=_ else h.lv t g:=hl
   show t<=((m.aS.set _ _).length:Int) /\ (({m with aS:=m.aS.set (x.val - 1).toNat _}:ai).af t).used=true /\ (({m with aS:=m.aS.set (x.val - 1).toNat _}:ai).af t).gen=g
   rw [jJ (by omega),agO]
   by_cases e:t=x.val
   ·rw [if_pos e] at hl
    rw [if_pos (by omega)]
    exact⟨by omega,rfl,hl.symm⟩
   ·rw [if_neg e] at hl
    rw [if_neg (by omega)]
    exact A.lv t g ht hl
  ·have hl:if t=x.val then g=_ else h.lv t g:=hl
   unfold ai.read
   rw [if_neg (by omega)]
   show (({m with aS:=m.aS.set (x.val - 1).toNat _}:ai).af t).at f.toNat=if t=x.val then ao else h.cl t f
   rw [jJ (by omega)]
   by_cases e:t=x.val
   ·rw [if_pos e,if_pos (by omega)]
    have:f=0 \/ f=1 \/ f=2 \/ f=3 \/ f=4 \/ f=5 \/ f=6 \/ f=7:=by omega
    rcases this with rfl | rfl | rfl | rfl | rfl | rfl | rfl | rfl<;>rfl
   ·rw [if_neg e] at hl
    rw [if_neg e,if_neg (by omega)]
    have:=A.cl t g f ht hl f0 f1
    unfold ai.read at this
    rwa [if_neg (by omega)] at this
theorem Fu {n:Nat} {m:ai} (hm:m.WF n) {h:AH} (A:zF m h) {f:Int} (h1:18<=f) (h2:f < 85) {w:W}:zF (m.fE 0 f w) h:=by
 refine⟨fun g g0 g1=>?_,fun s g hs hl=>?_,fun s g c hs hl c0 c1=>?_⟩
 ·rw [lH hm (aef 0) (by omega) (by omega) (fun _=>h2) (fun e=>absurd rfl e) (aef 0) (by omega) g0 (fun e=>absurd rfl e),if_neg (by omega)]
  exact A.bd g g0 g1
 ·exact A.lv s g hs hl
 ·have:=A.cl s g c hs hl c0 c1
  unfold ai.read at this ⊢
  rw [if_neg (by omega)] at this ⊢
  exact this
end
section
open Go Go.Sx Go.Proofs AH
theorem qb {m:ai} {s g f:Int} {o w:W} (h:∀e,m.kK s g e=none):m.aU ⟨1,s,g,f,o,w⟩=(⟨m.read s f,true⟩,m.cq):=by
 unfold ai.aU ai.nY
 simp only [h]
 rfl
theorem wx {m:ai} {s g f:Int} {o w:W} (h:∀e,m.kK s g e=none):m.aU ⟨2,s,g,f,o,w⟩=(⟨ao,true⟩,m.cq.fE s f w):=by
 unfold ai.aU ai.nY
 simp only [h]
 rfl
theorem Fq {m:ai} {s g f:Int} {o w:W} (h:∀e,m.kK s g e=none):m.aU ⟨3,s,g,f,o,w⟩=cond (kM (m.read s f) o) (⟨m.read s f,true⟩,m.cq.fE s f w) (⟨m.read s f,false⟩,m.cq):=by
 unfold ai.aU ai.nY
 simp only [h]
 show (if kM (m.read s f) o then _ else _)=_
 cases kM (m.read s f) o<;>rfl
theorem vu {n:Nat} {m:ai} (h:m.WF n):m.cq.WF n:=⟨h.le,h.lb,h.ls,h.bw,h.sl,h.sw,h.fr,h.fu,h.nd⟩
theorem Fv {n:Nat} {m:ai} (hm:m.WF n) {h:AH} (A:zF m h) {c:Cl} (hc:pP c) {K:cr->AH->Prop} (hw:h.Wp c K):∃h',zF (m.aU (vc c)).2 h' /\ K (aaf c (m.aU (vc c)).1) h':=by
 obtain⟨kd,ad,ol,nw,ci,cj,an⟩:=c
 unfold pP at hc
 dsimp only at hc
 have T:zF m.cq h:=Fs A
 rcases hc with rfl | rfl | rfl | rfl | rfl | rfl
 ·obtain⟨v,k⟩:=(show h.bG ad /\ K ⟨h.rd ad,true⟩ h from hw)
  refine⟨h,?_⟩
  show zF (m.aU ⟨1,ad.s,ad.g,ad.f,ao,ao⟩).2 h /\ K (m.aU ⟨1,ad.s,ad.g,ad.f,ao,ao⟩).1 h
  rw [qb (l5 A v),Bk A v]
  exact⟨T,k⟩
 ·obtain⟨v,k⟩:=(show h.bG ad /\ K ⟨ao,true⟩ (h.wr ad nw) from hw)
  refine⟨h.wr ad nw,?_⟩
  show zF (m.aU ⟨2,ad.s,ad.g,ad.f,ol,nw⟩).2 _ /\ K (m.aU ⟨2,ad.s,ad.g,ad.f,ol,nw⟩).1 _
  rw [wx (l5 A v)]
  exact⟨Bj (vu hm) T v,k⟩
 ·obtain⟨v,k⟩:=(show h.bG ad /\ cond (kM (h.rd ad) ol) (K ⟨h.rd ad,true⟩ (h.wr ad nw)) (K ⟨h.rd ad,false⟩ h) from hw)
  have e:m.aU (vc ⟨5,ad,ol,nw,ci,cj,an⟩)=cond (kM (h.rd ad) ol) (⟨h.rd ad,true⟩,m.cq.fE ad.s ad.f nw) (⟨h.rd ad,false⟩,m.cq):=by
   show m.aU ⟨3,ad.s,ad.g,ad.f,ol,nw⟩=_
   rw [Fq (l5 A v),Bk A v]
  rw [e]
  cases hs:kM (h.rd ad) ol with
  | true=>rw [hs] at k;exact⟨h.wr ad nw,Bj (vu hm) T v,k⟩
  | false=>rw [hs] at k;exact⟨h,T,k⟩
 ·obtain⟨v,k⟩:=(show h.bG ad /\ K ⟨h.rd ad,true⟩ h from hw)
  refine⟨h,?_⟩
  show zF (m.aU ⟨1,ad.s,ad.g,ad.f,ao,ao⟩).2 h /\ K ⟨(m.aU ⟨1,ad.s,ad.g,ad.f,ao,ao⟩).1.w,true⟩ h
  rw [qb (l5 A v),Bk A v]
  exact⟨T,k⟩
 ·obtain⟨k0,k1⟩:=(show K ⟨ao,false⟩ h /\ ∀s g,1<=s->(∀g',¬h.lv s g')->K ⟨⟨s,g,0,0,false⟩,true⟩ (h.new s g) from hw)
  have e:m.aU (vc ⟨8,ad,ol,nw,ci,cj,an⟩)=m.cq.alloc 0:=rfl
  rw [e]
  rcases Iq (vu hm) T 0 with q | ⟨s,g,s1,fr,q1,q2⟩
  ·rw [q];exact⟨h,T,k0⟩
  ·refine⟨h.new s g,q2,?_⟩
   rw [q1];exact k1 s g s1 fr
 ·obtain⟨s1,sl,k⟩:=(show 1<=ol.af /\ h.lv ol.af ol.gen /\ K ⟨ao,true⟩ (h.JM ol.af) from hw)
  obtain⟨q1,q2,q3⟩:=A.lv _ _ s1 sl
  have e:m.aU (vc ⟨9,ad,ol,nw,ci,cj,an⟩)=(⟨ao,true⟩,{m.cq with aS:=m.cq.aS.set (ol.af - 1).toNat {m.cq.af ol.af with used:=false},free:=m.cq.free++[⟨ol.af⟩]}):=by
   show m.aU ⟨5,0,0,0,ol,ao⟩=_
   have hs:∀e,m.kK ol.af ol.gen e=none:=fun e=>by
    unfold ai.kK
    rw [if_neg (by omega),if_neg (by rw [q2];decide),if_pos q3]
   unfold ai.aU ai.nY
   simp only [hs]
   rfl
  rw [e]
  exact⟨h.JM ol.af,MQ (vu hm) T s1 q1,k⟩
end
section
open Go Go.Sx Go.Proofs AH
theorem pB {m:ai} {g:Int} (e:Nat):m.kK 0 g e=none:=by unfold ai.kK;rw [if_pos rfl]
structure EB (n:Nat) (C:Int) (N:List Nt) (p:ai) (h:AH):Prop where
 wf:p.WF n
 ab:zF p h
 c1:1<=(p.read 0 24).bS
 c2:(p.read 0 24).bS<=C
 ns:∀x∈N,1<=x.af /\ x.af<=(n:Int) /\ ((p.af x.af).used=true /\ (p.af x.af).gen=x.gen) /\ ∀g,¬h.lv x.af g
 nd:(N.map Nt.af).Nodup
 fl:p.fault=none
variable {n:Nat} {C:Int} {N:List Nt} {p:ai} {h:AH}
theorem Mm (E:EB n C N p h) {p':ai} {h':AH} (w:p'.WF n) (A:zF p' h') (hb:p'.read 0 24=p.read 0 24) (hf:p'.fault=p.fault) (hu:∀s,1<=s->s<=(n:Int)->(∀g,¬h.lv s g)->(p.af s).used=true->((p'.af s).used=true /\ (p'.af s).gen=(p.af s).gen) /\ ∀g,¬h'.lv s g):EB n C N p' h' :=
 ⟨w,A,by rw [hb];exact E.c1,by rw [hb];exact E.c2,fun x hx=>by
   obtain⟨a,b,⟨c,c2⟩,d⟩:=E.ns x hx
   obtain⟨⟨u1,u2⟩,u3⟩:=hu _ a b d c
   exact⟨a,b,⟨u1,u2.trans c2⟩,u3⟩,E.nd,hf.trans E.fl⟩
theorem iW (E:EB n C N p h):EB n C N p.cq h:=Mm E (vu E.wf) (Fs E.ab) rfl rfl fun s _ _ hl hs=>⟨⟨hs,rfl⟩,hl⟩
theorem uT (m:ai) (s f:Int) (w:W):(m.fE s f w).fault=m.fault:=by unfold ai.fE;split<;>rfl
theorem Ml (E:EB n C N p h) {a:Ad} (hv:h.bG a) {v:W} (w:(p.cq.fE a.s a.f v).WF n):EB n C N (p.cq.fE a.s a.f v) (h.wr a v):=by
 have E1:=iW E
 obtain⟨v1,v2,v3,v4,v5⟩:=Ip E1.ab hv
 refine Mm E w (Bj E1.wf E1.ab hv) ?_ (uT _ _ _ _) fun s s1 sn hl hs=>⟨⟨?_,(lG v1 v2 s).2.1⟩,fun g=>by rw [de];exact hl g⟩
 ·rw [lH E1.wf v1 v2 v3 v4 v5 (aef 0) (by omega) (by decide) (fun e=>absurd rfl e),if_neg fun e=>?_]
  ·rfl
  ·rcases hv with⟨_,_,_,q⟩ | ⟨q,_⟩<;>omega
 ·rw [(lG v1 v2 s).1];exact hs
theorem QF (E:EB n C N p h) {f:Int} (f1:18<=f) (f2:f < 85) (f3:f≠24) {v:W} (w:(p.cq.fE 0 f v).WF n):EB n C N (p.cq.fE 0 f v) h:=by
 have E1:=iW E
 refine Mm E w (Fu E1.wf E1.ab f1 f2) ?_ (uT _ _ _ _) fun s s1 sn hl hs=>⟨⟨?_,(lG (aef 0) (by omega) s).2.1⟩,hl⟩
 ·rw [lH E1.wf (aef 0) (by omega) (by omega) (fun _=>f2) (fun e=>absurd rfl e) (aef 0) (by omega) (by decide) (fun e=>absurd rfl e),if_neg fun e=>f3 e.2.symm]
  rfl
 ·rw [(lG (aef 0) (by omega) s).1];exact hs
theorem X9 (E:EB n C N p h) {v:W} {C':Int} (v1:1<=v.bS) (v2:v.bS<=C') (w:(p.cq.fE 0 24 v).WF n):EB n C' N (p.cq.fE 0 24 v) h:=by
 have E1:=iW E
 have e:(p.cq.fE 0 24 v).read 0 24=v:=by
  rw [lH E1.wf (aef 0) (by omega) (by decide) (fun _=>by decide) (fun e=>absurd rfl e) (aef 0) (by omega) (by decide) (fun e=>absurd rfl e),if_pos ⟨rfl,rfl⟩]
 refine⟨w,Fu E1.wf E1.ab (by decide) (by decide),by rw [e];exact v1,by rw [e];exact v2,fun x hx=>?_,E.nd,(uT _ _ _ _).trans E.fl⟩
 obtain⟨a,b,⟨c,c2⟩,d⟩:=E.ns x hx
 exact⟨a,b,⟨by rw [(lG (aef 0) (by omega) x.af).1];exact c,((lG (aef 0) (by omega) x.af).2.1).trans c2⟩,d⟩
theorem Ya (E:EB n C N p h) (b:Int):(p.cq.alloc b=(⟨ao,false⟩,p.cq)) \/ ∃s g,1<=s /\ (∀g',¬h.lv s g') /\ (p.cq.alloc b).1=⟨⟨s,g,0,0,false⟩,true⟩ /\ ((p.cq.alloc b).2.WF n->EB n C N (p.cq.alloc b).2 (h.new s g)):=by
 have E1:=iW E
 rcases Iq E1.wf E1.ab b with q | ⟨s,g,s1,fr,q1,q2⟩
 ·exact .inl q
 ·refine .inr ⟨s,g,s1,fr,q1,fun w=>Mm E w q2 ?_ ?_ fun t t1 tn hl ht=>?_⟩
  ·unfold ai.alloc
   split<;>rfl
  ·unfold ai.alloc
   split<;>rfl
  ·by_cases hf:p.cq.free.length=0
   ·unfold ai.alloc at q1
    rw [if_pos hf] at q1;cases q1
   have es:s=(p.cq.free.getD (p.cq.free.length - 1) kt.bR).val:=by
    unfold ai.alloc at q1
    rw [if_neg hf] at q1
    exact(congrArg (fun r=>r.w.af) q1).symm
   have nB:p.cq.free.getD (p.cq.free.length - 1) kt.bR∈p.cq.free:=mD (by omega)
   have hu:=E1.wf.fu _ nB
   have hr:=E1.wf.fr _ nB
   have hts:t≠s:=fun e=>by rw [e,es] at ht;rw [show (p.af _).used=(p.cq.af _).used from rfl,hu] at ht;cases ht
   refine⟨?_,fun g'=>by rw [Aw,if_neg hts];exact hl g'⟩
   unfold ai.alloc
   rw [if_neg hf]
   dsimp only
   have:=E1.wf.ls
   have e:(({p.cq with aS:=p.cq.aS.set (s - 1).toNat ⟨cX (p.cq.af s).gen,true,[ao,ao,ao,ao,ao,ao,ao,ao,ao,dX b]⟩}:ai).af t)=p.af t:=by
    rw [jJ (by omega),if_neg (by omega)];rfl
   rw [es] at e
   exact⟨e▸ht,congrArg Sl.gen e⟩
theorem ab0 (E:EB n C N p h) {s:Int} {g:Int} {fr:List N1} (s1:1<=s) (hl:h.lv s g) (w:({p.cq with aS:=p.cq.aS.set (s - 1).toNat {p.cq.af s with used:=false},free:=fr}:ai).WF n) :
 EB n C N {p.cq with aS:=p.cq.aS.set (s - 1).toNat {p.cq.af s with used:=false},free:=fr} (h.JM s):=by
 have E1:=iW E
 have hs:=(E1.ab.lv _ _ s1 hl).1
 refine Mm E w (MQ E1.wf E1.ab s1 hs) rfl rfl fun t t1 tn Hn ht=>⟨?_,fun g' q=>Hn g' q.2⟩
 have hts:t≠s:=fun e=>Hn g (e▸hl)
 show (({p.cq with aS:=p.cq.aS.set _ _}:ai).af t).used=true /\ (({p.cq with aS:=p.cq.aS.set _ _}:ai).af t).gen=_
 rw [jJ (by omega),if_neg (by omega)]
 exact⟨ht,rfl⟩
theorem JL (E:EB n C N p h) {x:Nt} (s1:1<=x.af) (hl:h.lv x.af x.gen):EB n C (N++[x]) p (h.JM x.af):=by
 obtain⟨q1,q2,q3⟩:=E.ab.lv _ _ s1 hl
 refine⟨E.wf,Ft E.ab,E.c1,E.c2,fun y hy=>?_,?_,E.fl⟩
 ·rcases aec.1 hy with hy | hy
  ·obtain⟨a,b,c,d⟩:=E.ns y hy
   exact⟨a,b,c,fun g' q=>d g' q.2⟩
  ·rw [aez.1 hy]
   exact⟨s1,by rw [<- E.wf.ls];exact q1,⟨q2,q3⟩,fun g' q=>q.1 rfl⟩
 ·rw [aen,agd]
  refine⟨E.nd,by simp,fun a ha b hb e=>?_⟩
  obtain⟨y,hy,rfl⟩:=adK.1 ha
  have hb:b=x.af:=by simpa using hb
  exact(E.ns y hy).2.2.2 x.gen (by rw [e,hb];exact hl)
theorem abZ (E:EB n C N p h) {x:Nt} (hx:x∈N) {N':List Nt} (hs:N'.Sublist N) (hn:x.af ∉ N'.map Nt.af) {t u:Int} {k:Bool} (w:(p.aU ⟨5,0,0,0,⟨x.af,x.gen,t,u,k⟩,ao⟩).2.WF n):EB n C N' (p.aU ⟨5,0,0,0,⟨x.af,x.gen,t,u,k⟩,ao⟩).2 h:=by
 have E1:=iW E
 obtain⟨x1,xn,⟨xu,xg⟩,xl⟩:=E.ns x hx
 have base:EB n C N' p h:=⟨E.wf,E.ab,E.c1,E.c2,fun y hy=>E.ns y (hs.subset hy),E.nd.sublist (hs.map _),E.fl⟩
 have uO:p.kK x.af x.gen 4=none:=by
  unfold ai.kK
  rw [if_neg (by omega),if_neg (by rw [xu];decide),if_pos xg]
 have e:(p.aU ⟨5,0,0,0,⟨x.af,x.gen,t,u,k⟩,ao⟩).2={p.cq with aS:=p.cq.aS.set (x.af - 1).toNat {p.cq.af x.af with used:=false},free:=p.cq.free++[⟨x.af⟩]}:=by
  unfold ai.aU ai.nY
  dsimp only
  rw [if_neg (by decide:¬(5:Int)=4),if_pos rfl,uO];rfl
 rw [e] at w ⊢
 have ls:=E.wf.ls
 have sl:∀t:Int,1<=t->t≠x.af->({p.cq with aS:=p.cq.aS.set (x.af - 1).toNat {p.cq.af x.af with used:=false},free:=p.cq.free++[⟨x.af⟩]}:ai).af t=p.af t:=fun t t1 ht=>by
  show (({p.cq with aS:=p.cq.aS.set _ _}:ai).af t)=_
  have ls:p.cq.aS.length=n:=E1.wf.ls
  rw [jJ (by omega),if_neg (by omega)];rfl
 refine⟨w,⟨E.ab.bd,fun s g hs hl=>?_,fun s g f hs hl f0 f1=>?_⟩,E.c1,E.c2,fun y hy=>?_,base.nd,E.fl⟩
 ·obtain⟨a,b,c⟩:=E.ab.lv s g hs hl
  rw [sl s hs fun e=>xl g (e▸hl)]
  exact⟨by show s<=((p.aS.set _ _).length:Int);rw [agO];exact a,b,c⟩
 ·have:=E.ab.cl s g f hs hl f0 f1
  unfold ai.read at this ⊢
  rw [if_neg (by omega)] at this ⊢
  rw [sl s hs fun e=>xl g (e▸hl)]
  exact this
 ·obtain⟨a,b,c,d⟩:=base.ns y hy
  exact⟨a,b,by rw [sl _ a fun e=>hn (adK.2 ⟨y,hy,e⟩)];exact c,d⟩
end
section
open Go Go.Sx Go.Proofs AH
def dI (n:Nat) (Q:au->ai->Prop):Nat->au->ai->Prop
 | 0,m,p=>m.step=0 /\ Q m p
 | k+1,m,p=>(m.step=0 /\ Q m p) \/ (m.step≠0 /\ ((p.aU m.acc).2.WF n->dI n Q k (bV m (p.aU m.acc).1) (p.aU m.acc).2))
section
variable {n:Nat} {Q:au->ai->Prop} {k:Nat} {m:au} {p:ai}
theorem uV (hs:m.step=0) (q:Q m p):dI n Q k m p:=by
 cases k with
 | zero=>exact⟨hs,q⟩
 | succ k=>exact .inl ⟨hs,q⟩
theorem iy {x:cr} {p':ai} (hs:m.step≠0) (ea:p.aU m.acc=(x,p')) (h:p'.WF n->dI n Q k (bV m x) p'):dI n Q (k+1) m p:=.inr ⟨hs,by rw [ea];exact h⟩
theorem jf {Q':au->ai->Prop} (hq:∀m p,Q m p->Q' m p):∀{k k':Nat} {m:au} {p:ai},k<=k'->dI n Q k m p->dI n Q' k' m p
 | 0,_,_,_,_,hh=>uV hh.1 (hq _ _ hh.2)
 | k+1,0,_,_,hle,_=>by omega
 | k+1,k'+1,m,p,hle,hh=>by
   rcases hh with⟨a,b⟩ | ⟨a,b⟩
   ·exact .inl ⟨a,hq _ _ b⟩
   ·exact .inr ⟨a,fun w=>jf hq (by omega) (b w)⟩
theorem vZ {Q':au->ai->Prop} (hq:∀m p,m.step=0->Q m p->Q' m p):∀{k:Nat} {m:au} {p:ai},dI n Q k m p->dI n Q' k m p
 | 0,_,_,hh=>⟨hh.1,hq _ _ hh.1 hh.2⟩
 | k+1,m,p,hh=>by
   rcases hh with⟨a,b⟩ | ⟨a,b⟩
   ·exact .inl ⟨a,hq _ _ a b⟩
   ·exact .inr ⟨a,fun w=>vZ hq (b w)⟩
end
structure RQ (e:Int) (N:List Nt) (m:au):Prop where
 en:m.ax=e
 me:m.me=0
 th:m.cR=1
 no:m.notes=N
def Fin (n:Nat) (e C:Int) (L:Nat) (K:cr->AH->Prop) (m:au) (p:ai):Prop:=∃N h,RQ e N m /\ EB n C N p h /\ N.length<=L /\ K m.bz h
section
variable {n:Nat} {e C:Int} {N:List Nt} {L k:Nat} {K:cr->AH->Prop} {m:au} {p:ai} {h:AH} {x:cr} {c:Cl}
theorem eh (I:RQ e N m) (E:EB n C N p h) (hl:N.length<=L) (hk:K x h):dI n (Fin n e C L K) k (dt x (dz m)).m p:=uV rfl ⟨N,h,⟨I.en,I.me,I.th,I.no⟩,E,hl,hk⟩
theorem oc:(dz m).m=m:=rfl
theorem tk1 (hs:m.step=1):bV m x=(dt x (dz m)).m:=by unfold bV jd;simp [oc,hs]<;>rfl
theorem tk2 (hs:m.step=2):bV m x=(dt ⟨ao,true⟩ (dz m)).m:=by unfold bV jd jM;simp [oc,hs]<;>rfl
theorem tk3 (hs:m.step=3):bV m x=(fA 2 ⟨2,0,0,79+m.me,ao,⟨0,0,x.w.bS,x.w.bS,true⟩⟩ {dz m with m:={m with span:=⟨true,x.w.bS,x.w.bS⟩}}).m:=by unfold bV jd jX;simp [oc,hs]<;>rfl
theorem tk4 (hs:m.step=4):bV m x=m9 cond NN RT.m (m.index+1).toNat (dz m):=by unfold bV jd;simp [oc,hs]<;>rfl
theorem tk8 (hs:m.step=8):bV m x=(fA 1 ⟨4,0,0,0,ao,dX x.w.bS⟩ (dz m)).m:=by unfold bV jd;simp [oc,hs]<;>rfl
theorem tk7 (hs:m.step=7):bV m x=(dY 5 m.call.cW (dz m)).m:=by unfold bV jd gm;simp [oc,hs]<;>rfl
theorem apc (hs:m.step=5) (he:m.ax=1 \/ m.ax=4):bV m x=(dt ⟨x.w,true⟩ (dz m)).m:=by unfold bV jd gm;rcases he with he | he<;>simp [oc,hs,he]<;>rfl
theorem ZL (hs:m.step=5) (he:m.ax=3 \/ m.ax=5):bV m x=(dY 6 kG {dz m with m:={m with word:=x.w}}).m:=by unfold bV jd gm;rcases he with he | he<;>simp [oc,hs,he]<;>rfl
theorem ajJ (hs:m.step=5) (he:m.ax=2):bV m x=cond (gC (!(x.w.af==0)) (!eqW (H9.get m.holds m.call.i) (dv x.w))) (fA 7 ⟨2,0,0,25+m.me * 9+m.call.i,ao,dv x.w⟩ {dz m with m:={m with word:=x.w,holds:=H9.put m.holds m.call.i (dv x.w)}}).m (dt ⟨x.w,true⟩ (dz m)).m:=by unfold bV jd gm uf;simp [oc,hs,he]<;>rfl
theorem ajI (hs:m.step=6) (he:m.ax=3):bV m x=cond (gC (!isZero (H9.get m.holds m.call.i)) ((H9.get m.holds m.call.i).bS==x.w.bS)) (dt ⟨m.word,true⟩ (dz m)).m (fA 7 ⟨2,0,0,25+m.me * 9+m.call.i,ao,dX x.w.bS⟩ {dz m with m:={m with holds:=H9.put m.holds m.call.i (dX x.w.bS)}}).m:=by unfold bV jd gm uf;simp [oc,hs,he]<;>rfl
theorem ajH (hs:m.step=6) (he:m.ax=5):bV m x=cond (gC m.span.is (m.span.Jy==x.w.bS)) (dt ⟨m.word,true⟩ (dz m)).m (cond m.span.is (fA 7 ⟨2,0,0,79+m.me,ao,⟨0,0,x.w.bS,m.span.BD,true⟩⟩ {dz m with m:={m with span:=⟨true,m.span.BD,x.w.bS⟩}}).m (fA 7 ⟨2,0,0,79+m.me,ao,⟨0,0,x.w.bS,x.w.bS,true⟩⟩ {dz m with m:={m with span:=⟨true,x.w.bS,x.w.bS⟩}}).m):=by unfold bV jd gm jX;simp [oc,hs,he]<;>rfl
theorem asi (hk:c.aj=1) (he:m.ax=4 \/ m.ax=5):aX m c=(dY 3 kG (bX c (dz m))).m:=by unfold aX fz jA;rcases he with he | he<;>simp [hk,bX,dz,he]<;>rfl
theorem ash (hk:c.aj=1) (he:m.ax=1 \/ m.ax=2 \/ m.ax=3):aX m c=(dt ⟨ao,true⟩ (bX c (dz m))).m:=by unfold aX fz jA jM;rcases he with he | he | he<;>simp [hk,bX,dz,he]<;>rfl
theorem bg2 (hk:c.aj=2):aX m c=m9 cond NN RT.m 0 (bX c (dz m)):=by unfold aX fz jA;simp [hk]<;>rfl
theorem bg3 (hk:c.aj=3):aX m c=(dY 1 c.cW (bX c (dz m))).m:=by unfold aX fz jA;simp [hk]
theorem bg4 (hk:c.aj=4):aX m c=(fA 1 ⟨2,c.cW.s,c.cW.g,c.cW.f,c.cU,c.new⟩ (bX c (dz m))).m:=by unfold aX fz jA;simp [hk]
theorem bg5 (hk:c.aj=5):aX m c=(fA 1 ⟨3,c.cW.s,c.cW.g,c.cW.f,c.cU,c.new⟩ (bX c (dz m))).m:=by unfold aX fz jA;simp [hk]
theorem bg6 (hk:c.aj=6):aX m c=(dY 5 c.cW (bX c (dz m))).m:=by unfold aX fz jA;simp [hk]
theorem asg (hk:c.aj=7) (he:m.ax=2 \/ m.ax=3):aX m c=cond (!eqW (H9.get m.holds c.i) (H9.get m.holds c.j)) (fA 2 ⟨2,0,0,25+m.me * 9+c.i,ao,H9.get m.holds c.j⟩ {bX c (dz m) with m:={(bX c (dz m)).m with holds:=H9.put m.holds c.i (H9.get m.holds c.j)}}).m (dt ⟨ao,true⟩ (bX c (dz m))).m:=by unfold aX fz jA uf jM;rcases he with he | he<;>simp [hk,bX,dz,he]<;>rfl
theorem asf (hk:c.aj=7) (he:m.ax=1 \/ m.ax=4 \/ m.ax=5):aX m c=(dt ⟨ao,true⟩ (bX c (dz m))).m:=by unfold aX fz jA jM;rcases he with he | he | he<;>simp [hk,bX,dz,he]<;>rfl
theorem ase (hk:c.aj=8) (he:m.ax=3 \/ m.ax=5):aX m c=(dY 8 kG (bX c (dz m))).m:=by unfold aX fz jA;rcases he with he | he<;>simp [hk,bX,dz,he]<;>rfl
theorem asd (hk:c.aj=8) (he:m.ax=1 \/ m.ax=2 \/ m.ax=4):aX m c=(fA 1 ⟨4,0,0,0,ao,ao⟩ (bX c (dz m))).m:=by unfold aX fz jA;rcases he with he | he | he<;>simp [hk,bX,dz,he]<;>rfl
theorem bg9 (hk:c.aj=9):aX m c=(fA 2 ⟨5,0,0,0,c.cU,ao⟩ (bX c (dz m))).m:=by unfold aX fz jA;simp [hk]
theorem oa (I:RQ e N m):RQ e N (bX c (dz m)).m:=⟨I.en,I.me,I.th,I.no⟩
theorem Ov (he:1<=e /\ e<=5):e=1 \/ e=2 \/ e=3 \/ e=4 \/ e=5:=by omega
theorem aev (s:H9) {i:Int} (w:W) (i0:0<=i) (i9:i < 9):(s.put i w).get i=w:=by
 rcases (by omega:i=0 \/ i=1 \/ i=2 \/ i=3 \/ i=4 \/ i=5 \/ i=6 \/ i=7 \/ i=8) with rfl | rfl | rfl | rfl | rfl | rfl | rfl | rfl | rfl<;>rfl
theorem Ys (E:EB n C N p h) {f:Int} {v:W} (f1:18<=f) (f2:f < 85) (f3:f≠24):(p.cq.fE 0 f v).read 0 24=p.read 0 24:=by
 have E1:=iW E
 rw [lH E1.wf (aef 0) (by omega) (by omega) (fun _=>f2) (fun e=>absurd rfl e) (aef 0) (by omega) (by decide) (fun e=>absurd rfl e),if_neg fun e=>f3 e.2.symm]
 rfl
theorem abX (I:RQ e N m) (E:EB n C N p h) (hl:N.length<=L) (hk:c.aj=3 \/ c.aj=4 \/ c.aj=5 \/ c.aj=9) (hw:h.Wp c K):dI n (Fin n e C L K) 1 (aX m c) p:=by
 have J:=oa (c:=c) I
 unfold Wp at hw
 rcases hk with hk | hk | hk | hk
 ·rw [if_pos (.inl hk)] at hw
  obtain⟨v,q⟩:=hw
  rw [bg3 hk]
  refine iy (x:=⟨h.rd c.cW,true⟩) (p':=p.cq) (by show (1:Int)≠0;decide) ((qb (l5 E.ab v)).trans (by rw [Bk E.ab v])) fun w=>?_
  rw [tk1 rfl]
  exact eh ⟨J.en,J.me,J.th,J.no⟩ (iW E) hl q
 ·rw [if_neg (by omega),if_pos hk] at hw
  obtain⟨v,q⟩:=hw
  rw [bg4 hk]
  refine iy (by show (1:Int)≠0;decide) (wx (l5 E.ab v)) fun w=>?_
  rw [tk1 rfl]
  exact eh ⟨J.en,J.me,J.th,J.no⟩ (Ml E v w) hl q
 ·rw [if_neg (by omega),if_neg (by omega),if_pos hk] at hw
  obtain⟨v,q⟩:=hw
  rw [bg5 hk]
  have ea:=Fq (m:=p) (f:=c.cW.f) (o:=c.cU) (w:=c.new) (l5 E.ab v)
  rw [Bk E.ab v] at ea
  cases hs:kM (h.rd c.cW) c.cU with
  | true =>
    rw [hs] at ea q
    refine iy (by show (1:Int)≠0;decide) ea fun w=>?_
    rw [tk1 rfl]
    exact eh ⟨J.en,J.me,J.th,J.no⟩ (Ml E v w) hl q
  | false =>
    rw [hs] at ea q
    refine iy (by show (1:Int)≠0;decide) ea fun w=>?_
    rw [tk1 rfl]
    exact eh ⟨J.en,J.me,J.th,J.no⟩ (iW E) hl q
 ·rw [if_neg (by omega),if_neg (by omega),if_neg (by omega),if_neg (by omega),if_neg (by omega),if_pos (.inl hk)] at hw
  obtain⟨s1,sl,q⟩:=hw
  rw [bg9 hk]
  obtain⟨q1,q2,q3⟩:=E.ab.lv _ _ s1 sl
  have ea:p.aU ⟨5,0,0,0,c.cU,ao⟩=(⟨ao,true⟩,{p.cq with aS:=p.cq.aS.set (c.cU.af - 1).toNat {p.cq.af c.cU.af with used:=false},free:=p.cq.free++[⟨c.cU.af⟩]}):=by
   have hs:∀e,p.kK c.cU.af c.cU.gen e=none:=fun e=>by
    unfold ai.kK
    rw [if_neg (by omega),if_neg (by rw [q2];decide),if_pos q3]
   unfold ai.aU ai.nY
   simp only [hs]
   rfl
  refine iy (by show (2:Int)≠0;decide) ea fun w=>?_
  rw [tk2 rfl]
  exact eh ⟨J.en,J.me,J.th,J.no⟩ (ab0 E s1 sl w) hl q
theorem ani (I:RQ e N m) (he:1<=e /\ e<=5) (E:EB n C N p h) (hl:N.length<=L) (hk:c.aj=7) (hi:0<=c.i /\ c.i < 9) (hw:h.Wp c K):dI n (Fin n e C L K) 1 (aX m c) p:=by
 have J:=oa (c:=c) I
 unfold Wp at hw
 rw [if_neg (by omega),if_neg (by omega),if_neg (by omega),if_pos hk] at hw
 have go:m.ax=2 \/ m.ax=3->dI n (Fin n e C L K) 1 (aX m c) p:=fun h23=>by
  rw [asg hk h23]
  cases !eqW (H9.get m.holds c.i) (H9.get m.holds c.j) with
  | false=>exact eh J E hl hw
  | true =>
    rw [I.me]
    refine iy (by show (2:Int)≠0;decide) (wx fun e=>pB e) fun w=>?_
    rw [tk2 rfl]
    exact eh ⟨J.en,J.me,J.th,J.no⟩ (QF E (by omega) (by omega) (by omega) w) hl hw
 have no:m.ax=1 \/ m.ax=4 \/ m.ax=5->dI n (Fin n e C L K) 1 (aX m c) p:=fun arw=>by
  rw [asf hk arw]
  exact eh J E hl hw
 have:=I.en
 rcases Ov he with h | h | h | h | h
 ·exact no (by omega)
 ·exact go (by omega)
 ·exact go (by omega)
 ·exact no (by omega)
 ·exact no (by omega)
