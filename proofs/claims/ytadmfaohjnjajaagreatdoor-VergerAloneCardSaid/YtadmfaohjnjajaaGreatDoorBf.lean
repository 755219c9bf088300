import Derived.Test.YtadmfaohjnjajaaGreatDoorBa
set_option linter.unusedVariables false
set_option linter.unusedSimpArgs false
set_option maxHeartbeats 0
set_option maxRecDepth 100000
namespace Go.Proofs.YtadmfaohjnjajaaGreatDoor
section
open Go Go.Sx Go.Proofs AH
theorem ku {h h':AH}:∀{l:List Kn} {w:W},lh h w l->(∀x∈l,h.lv x.s x.g->h'.lv x.s x.g /\ h'.cl x.s 0=h.cl x.s 0 /\ h'.cl x.s 1=h.cl x.s 1 /\ h'.cl x.s 2=h.cl x.s 2)->lh h' w l
 | [],_,hp,_=>hp
 | x::l,w,⟨a,b,m,c,d,e0,e1,f⟩,hf=>by obtain⟨f1,f0,f2,f3⟩:=hf x aaV d;exact⟨a,b,m,c,f1,by rw [f0];exact e0,by rw [f2];exact e1,by rw [f3];exact ku f fun y hy=>hf y (aaW _ hy)⟩
theorem Fi {h:AH} {l:List Kn} {w w':W} (hl:lh h w l) (e1:w'.ae=w.ae) (e2:w'.gen=w.gen) (e3:w'.mark=false):lh h w' l:=by
 cases l with
 | nil=>exact⟨e1.trans hl.1,e3⟩
 | cons x l=>exact⟨e1.trans hl.1,e2.trans hl.2.1,e3,hl.2.2.2⟩
def mT (n:Kn):List Kn->List Kn
 | []=>[n]
 | x::l=>if n.k<=x.k then n::x::l else x::mT n l
def rG (key:Int):List Kn->List Kn
 | []=>[]
 | x::l=>if key<=x.k then l else x::rG key l
theorem JV {h:AH} {x:Kn} (h1:1<=x.s):h.rd x.dh=h.cl x.s 2:=by unfold rd;rw [if_neg (by show ¬x.s=0;omega)];rfl
theorem PN {h h':AH} {n:Kn} {w:bs} (n1:1<=n.s) (nl:h'.lv n.s n.g) (n0:(h'.cl n.s 0).bU=n.k) (nv:(h'.cl n.s 1).bU=n.v) (n2:h'.cl n.s 2=dB w.cur)
 (to:(h'.rd w.prev).ae=n.s /\ (h'.rd w.prev).gen=n.g /\ (h'.rd w.prev).mark=false) (hc:∀b:Ad,¬(b.s=w.prev.s /\ b.f=w.prev.f)->b.s≠n.s->h'.rd b=h.rd b) (Cn:∀s g,s≠n.s->h.lv s g->h'.lv s g) :
 ∀{l:List Kn} {a:Ad},a.f=2 \/ a.s=0->lh h (h.rd a) l->lR h n.k a l w->a.s ∉ l.map Kn.s->a.s≠n.s->n.s ∉ l.map Kn.s->(l.map Kn.s).Nodup->lh h' (h'.rd a) (mT n l)
 | [],a,hf,hl,hw,ha,han,hn,hd=>by obtain⟨w1,w2,w3⟩:=hw;rw [w1] at to;refine⟨to.1,to.2.1,to.2.2,n1,nl,n0,nv,?_⟩;rw [n2,w2];exact⟨hl.1,rfl⟩
 | x::l,a,hf,hl,hw,ha,han,hn,hd=>by
   unfold lR at hw;unfold mT;rw [aaU,aaO,not_or] at ha hn;rw [aaU,ads] at hd;have cell:∀{y:Kn} {f:Int},1<=y.s->y.s≠n.s->¬(y.s=w.prev.s /\ f=w.prev.f)->h'.cl y.s f=h.cl y.s f:=fun {y f} hy1 Km dE=>by have:=hc ⟨y.s,y.g,f⟩ dE Km;unfold rd at this;rwa [if_neg (by show ¬y.s=0;omega),if_neg (by show ¬y.s=0;omega)] at this
   by_cases hk:n.k<=x.k
   ·rw [if_pos hk] at hw ⊢;obtain⟨w1,w2,w3,w4⟩:=hw;rw [w1] at to;refine⟨to.1,to.2.1,to.2.2,n1,nl,n0,nv,?_⟩;rw [n2,w2];refine ku (Fi hl rfl rfl rfl) fun y hy G9=>?_;have Km:y.s≠n.s:=fun e=>(not_or.2 hn) (aaO.1 (e▸adf (f:=Kn.s) hy));have hya:y.s≠a.s:=fun e=>(not_or.2 ha) (aaO.1 (e▸adf (f:=Kn.s) hy));have hy1:=(ga hl y hy).1;rw [w1] at cell;exact⟨Cn _ _ Km G9,cell hy1 Km fun e=>hya e.1,cell hy1 Km fun e=>hya e.1,cell hy1 Km fun e=>hya e.1⟩
   ·rw [if_neg hk] at hw ⊢;have hp:w.prev.f=2 /\ w.prev.s≠a.s:=by
     rcases l6 hw with e | ⟨y,hy,e⟩
     ·rw [e];exact⟨rfl,fun e=>ha.1 e.symm⟩
     ·rw [e];exact⟨rfl,fun e=>ha.2 (ac0.2 ⟨y,hy,e⟩)⟩
    obtain⟨q1,q2,m,c,d,e0,e1,f⟩:=hl;rw [hc a (fun e=>hp.2 e.1.symm) han];have zP:x.s≠n.s:=fun e=>hn.1 e.symm;refine⟨q1,q2,m,c,Cn _ _ zP d,?_,?_,?_⟩
    ·rw [cell c zP fun e=>by have:=e.2;omega];exact e0
    ·rw [cell c zP fun e=>by have:=e.2;omega];exact e1
    ·rw [<- JV c] at f ⊢;exact PN n1 nl n0 nv n2 to hc Cn (.inl rfl) f hw hd.1 zP hn.2 hd.2
theorem Xe {h h':AH} {key:Int} {w:bs} {x0:Kn}
 (to:(h'.rd w.prev).ae=w.next.ae /\ (h'.rd w.prev).gen=w.next.gen /\ (h'.rd w.prev).mark=false) (hc:∀b:Ad,¬(b.s=w.prev.s /\ b.f=w.prev.f)->b.s≠x0.s->h'.rd b=h.rd b) (Cn:∀s g,s≠x0.s->h.lv s g->h'.lv s g) :
 ∀{l:List Kn} {a:Ad},a.f=2 \/ a.s=0->lh h (h.rd a) l->lR h key a l w->At key l=some x0->a.s ∉ l.map Kn.s->(l.map Kn.s).Nodup->lh h' (h'.rd a) (rG key l)
 | [],a,hf,hl,hw,hx,ha,hd=>by cases hx
 | x::l,a,hf,hl,hw,hx,ha,hd=>by
   unfold lR at hw;unfold rG;unfold At at hx;rw [aaU,aaO,not_or] at ha;rw [aaU,ads] at hd;have cell:∀{y:Kn} {f:Int},1<=y.s->y.s≠x0.s->¬(y.s=w.prev.s /\ f=w.prev.f)->h'.cl y.s f=h.cl y.s f:=fun {y f} hy1 Km dE=>by have:=hc ⟨y.s,y.g,f⟩ dE Km;unfold rd at this;rwa [if_neg (by show ¬y.s=0;omega),if_neg (by show ¬y.s=0;omega)] at this
   obtain⟨q1,q2,m,c,d,e0,e1,f⟩:=hl;by_cases hk:key<=x.k
   ·rw [if_pos hk] at hw hx ⊢;obtain⟨w1,w2,w3,w4⟩:=hw;split at hx
    ·cases hx;rw [w1,w3] at to;refine ku (Fi f to.1 to.2.1 to.2.2) fun y hy G9=>?_;have Km:y.s≠x0.s:=fun e=>hd.1 (e▸adf (f:=Kn.s) hy);have hya:y.s≠a.s:=fun e=>ha.2 (e▸adf (f:=Kn.s) hy);have hy1:=(ga f y hy).1;rw [w1] at cell;exact⟨Cn _ _ Km G9,cell hy1 Km fun e=>hya e.1,cell hy1 Km fun e=>hya e.1,cell hy1 Km fun e=>hya e.1⟩
    ·cases hx
   ·rw [if_neg hk] at hw hx ⊢;have hp:w.prev.f=2 /\ w.prev.s≠a.s:=by
     rcases l6 hw with e | ⟨y,hy,e⟩
     ·rw [e];exact⟨rfl,fun e=>ha.1 e.symm⟩
     ·rw [e];exact⟨rfl,fun e=>ha.2 (ac0.2 ⟨y,hy,e⟩)⟩
    have hx0:=adf (f:=Kn.s) (yN hx).1;have zP:x.s≠x0.s:=fun e=>hd.1 (e▸hx0);rw [hc a (fun e=>hp.2 e.1.symm) (fun e=>ha.2 (e▸hx0))];refine⟨q1,q2,m,c,Cn _ _ zP d,?_,?_,?_⟩
    ·rw [cell c zP fun e=>by have:=e.2;omega];exact e0
    ·rw [cell c zP fun e=>by have:=e.2;omega];exact e1
    ·rw [<- JV c] at f ⊢;exact Xe to hc Cn (.inl rfl) f hw hx hd.1 hd.2
theorem fK {n y:Kn}:∀{l:List Kn},y∈mT n l↔y=n \/ y∈l
 | []=>by simp [mT]
 | x::l=>by
   unfold mT;split
   ·simp
   ·rw [aaO,fK,aaO];exact⟨fun h=>by rcases h with h | h | h<;>simp [h],fun h=>by rcases h with h | h | h<;>simp [h]⟩
theorem sE {key:Int}:∀{l:List Kn},(rG key l).Sublist l
 | []=>.slnil
 | x::l=>by
   unfold rG;split
   ·exact List.sublist_cons_self _ _
   ·exact sE.cons_cons _
theorem yv {n:Kn}:∀{l:List Kn},(l.map Kn.s).Nodup->n.s ∉ l.map Kn.s->((mT n l).map Kn.s).Nodup
 | [],_,_=>by simp [mT]
 | x::l,hd,hn=>by
   unfold mT;split
   ·rw [aaU,ads];exact⟨hn,hd⟩
   ·rw [aaU,ads] at hd ⊢;rw [aaU,aaO,not_or] at hn;refine⟨fun hm=>?_,yv hd.2 hn.2⟩;obtain⟨y,hy,e⟩:=ac0.1 hm;rcases fK.1 hy with rfl | hy
    ·exact hn.1 e
    ·exact hd.1 (ac0.2 ⟨y,hy,e⟩)
end
section
open Go Go.Sx Go.Proofs AH
structure FrA (h h':AH) (st:Ad) (l:List Kn):Prop where
 lv:∀s g,h.lv s g->s ∉ l.map Kn.s->h'.lv s g
 cl:∀s g f,1<=s->h.lv s g->s ∉ l.map Kn.s->¬(s=st.s /\ f=2)->h'.cl s f=h.cl s f
 bd:∀f,¬(st.s=0 /\ f=st.f)->h'.bd f=h.bd f
theorem FrA.refl {h:AH} {st:Ad} {l:List Kn}:FrA h h st l:=⟨fun _ _ h _=>h,fun _ _ _ _ _ _ _=>rfl,fun _ _=>rfl⟩
def rC (h:AH) (key:Int) (o:O) (l:List Kn) (a:An) (l':List Kn):Prop :=
 (o.aj=6 /\ ((At key l=none /\ a=⟨1,0⟩ /\ ∃n:Kn,n.k=key /\ n.v=o.val /\ (∀g,¬h.lv n.s g) /\ l'=mT n l) \/ (At key l≠none /\ a=⟨3,0⟩ /\ l'=l) \/ (a=⟨4,0⟩ /\ l'=l)))
 \/ (o.aj≠6 /\ At key l=none /\ a=⟨2,0⟩ /\ l'=l)
 \/ (∃x,At key l=some x /\ a=⟨1,x.v⟩ /\ ((o.aj=7 /\ l'=rG key l) \/ (o.aj=8 /\ l'=l)))
structure CG (h:AH) (st:Ad) (l:List Kn):Prop where
 va:h.bM st
 f2:st.f=2 \/ st.s=0
 li:lh h (h.rd st) l
 nd:(l.map Kn.s).Nodup
 ns:st.s ∉ l.map Kn.s
def avh (h:AH) (st:Ad) (key:Int) (o:O) (l:List Kn) (a:An) (h':AH):Prop:=∃l',rC h key o l a l' /\ CG h' st l' /\ FrA h h' st l
section
variable {la:Cl} {st:Ad} {key:Int} {o:O} {nd:W} {v:Int}
def afM (la:Cl) (st:Ad) (key:Int) (o:O) (nd:W) (v:Int) (w:bs):Cl×cU:=cond w.found (qz nd,⟨5,la,st,key,o,some w,nd,v⟩) (cW (az nd 2) (dB w.cur),⟨6,la,st,key,o,some w,nd,v⟩)
def Rm (la:Cl) (st:Ad) (key:Int) (o:O) (nd:W) (v:Int) (w:bs):Cl×cU:=cond (!w.found) (jS 2 0,⟨-1,jS 2 0,st,key,o,some w,nd,v⟩) (bC (az w.cur 1),⟨2,la,st,key,o,some w,nd,v⟩)
theorem Yo {ky va ta:Int} (w:bs) (x:cJ):ct ⟨4,la,st,key,⟨6,ky,va,ta⟩,some w,nd,v⟩ x=cond (bh w x).1.2 ((bh w x).1.1,⟨4,la,st,key,⟨6,ky,va,ta⟩,some (bh w x).2,nd,v⟩) (afM la st key ⟨6,ky,va,ta⟩ nd v (bh w x).2):=rfl
theorem Ym {ky va ta:Int} (w:bs) (x:cJ):ct ⟨1,la,st,key,⟨7,ky,va,ta⟩,some w,nd,v⟩ x=cond (bh w x).1.2 ((bh w x).1.1,⟨1,la,st,key,⟨7,ky,va,ta⟩,some (bh w x).2,nd,v⟩) (Rm la st key ⟨7,ky,va,ta⟩ nd v (bh w x).2):=rfl
theorem Yl {ky va ta:Int} (w:bs) (x:cJ):ct ⟨1,la,st,key,⟨8,ky,va,ta⟩,some w,nd,v⟩ x=cond (bh w x).1.2 ((bh w x).1.1,⟨1,la,st,key,⟨8,ky,va,ta⟩,some (bh w x).2,nd,v⟩) (Rm la st key ⟨8,ky,va,ta⟩ nd v (bh w x).2):=rfl
end
theorem Lg {h:AH} {key:Int} {x0:Kn}:∀{l:List Kn} {a:Ad} {w:bs},lR h key a l w->At key l=some x0->a.s ∉ l.map Kn.s->(l.map Kn.s).Nodup->w.prev.s≠x0.s
 | [],a,w,hw,hx,ha,hd=>by cases hx
 | x::l,a,w,hw,hx,ha,hd=>by
   unfold lR at hw;unfold At at hx;rw [aaU,aaO,not_or] at ha;rw [aaU,ads] at hd;by_cases hk:key<=x.k
   ·rw [if_pos hk] at hw hx;split at hx
    ·cases hx;rw [hw.1];exact ha.1
    ·cases hx
   ·rw [if_neg hk] at hw hx;exact Lg hw hx hd.1 hd.2
theorem MR {h:AH} {st:Ad} {l:List Kn} (hi:CG h st l) {key:Int} {o:O} (ho:o.aj=6 \/ o.aj=7 \/ o.aj=8) (x:cJ):cB ct (avh h st key o l) (10 * l.length+120) h (ct (jO (st,key,o)) x):=by
 obtain⟨Um,Bv,K9,jQ,GR⟩:=hi;obtain⟨kd,ky,val,bI⟩:=o;dsimp only at ho;rcases ho with rfl | rfl | rfl
 ·show cB ct _ ((10 * l.length+118)+2) h (kP,⟨1,bf,st,key,⟨6,ky,val,bI⟩,none,aq,0⟩);refine z7 (rV (cP rfl ⟨l,.inl ⟨rfl,.inr (.inr ⟨rfl,rfl⟩)⟩,⟨Um,Bv,K9,jQ,GR⟩,FrA.refl⟩) fun n h1 hf=>?_);have Av:(h.new n.ae n.gen).lv n.ae n.gen:=by show if n.ae=n.ae then n.gen=n.gen else _;rw [if_pos rfl]
  have hs:∀y∈l,y.s≠n.ae:=fun y hy e=>hf y.g (e▸(ga K9 y hy).2);have tg:st.s≠n.ae:=fun e=>by
   rcases Um with q | q
   ·omega
   ·exact hf st.g (e▸q.2.1)
  show cB ct _ _ _ (cW (az n 0) (dZ key),⟨2,bf,st,key,⟨6,ky,val,bI⟩,none,n,0⟩);refine bF (iw (bm h1 Av (by decide) (by decide)) ?_);show cB ct _ _ _ (cW (az n 1) (dZ val),⟨3,bf,st,key,⟨6,ky,val,bI⟩,none,n,0⟩);refine bF (iw (bm h1 (by rw [dm];exact Av) (by decide) (by decide)) ?_);generalize e1:((h.new n.ae n.gen).wr (az n 0) (dZ key)).wr (az n 1) (dZ val)=h2;have b2:h2.bd=h.bd:=by subst e1;rw [uz h1,uz h1];rfl
  have c2:∀y k,y≠n.ae->h2.cl y k=h.cl y k:=fun y k hy=>by subst e1;rw [gz h1,if_neg fun e=>hy e.1,gz h1,if_neg fun e=>hy e.1,AH.m6,if_neg hy]
  have l2:∀y g,y≠n.ae->(h2.lv y g↔h.lv y g):=fun y g hy=>by subst e1;rw [dm,dm,Bk,if_neg hy]
  have Vd:h2.lv n.ae n.gen:=by subst e1;rw [dm,dm];exact Av
  have n0:(h2.cl n.ae 0).bU=key:=by subst e1;rw [gz h1,if_neg (by rintro ⟨_,e⟩;cases e),gz h1,if_pos ⟨rfl,rfl⟩];rfl
  have n1:(h2.cl n.ae 1).bU=val:=by subst e1;rw [gz h1,if_pos ⟨rfl,rfl⟩];rfl
  clear e1;have r2:∀b:Ad,b.s≠n.ae->h2.rd b=h.rd b:=fun b hb=>by unfold rd;rw [b2];split<;>first | rfl | exact c2 _ _ hb
  have ac1:h2.bM st:=by
   rcases Um with q | q
   ·exact .inl q
   ·exact .inr ⟨q.1,(l2 _ _ tg).2 q.2.1,q.2.2⟩
  have Y4:lh h2 (h2.rd st) l:=by rw [r2 _ tg];exact ku K9 fun y hy G9=>⟨(l2 _ _ (hs y hy)).2 G9,c2 _ _ (hs y hy),c2 _ _ (hs y hy),c2 _ _ (hs y hy)⟩
  show cB ct _ _ _ (ct ⟨4,bf,st,key,⟨6,ky,val,bI⟩,some (iD (st,key)),n,0⟩ ⟨aq,true⟩);refine bW (fun _ _ h=>h) (by omega:(10 * l.length+6)+5<=_) (C3 Yo (fun w hw=>?_) (yU ac1 Y4));have qH:=oA Y4 hw;unfold afM;cases bG:At key l with
  | some x0 =>
    rw [bG] at qH;rw [qH.1];refine bF (Jw h1 Vd ?_);refine cP rfl ⟨l,.inl ⟨rfl,.inr (.inl ⟨(by rw [bG];intro e;cases e),rfl,rfl⟩)⟩,⟨?_,Bv,?_,jQ,GR⟩,?_,?_,?_⟩
    ·rcases ac1 with q | q
     ·exact .inl q
     ·exact .inr ⟨q.1,⟨tg,q.2.1⟩,q.2.2⟩
    ·exact ku Y4 fun y hy G9=>⟨⟨hs y hy,G9⟩,rfl,rfl,rfl⟩
    ·exact fun s g hl _=>⟨fun e=>hf g (e▸hl),(l2 _ _ fun e=>hf g (e▸hl)).2 hl⟩
    ·exact fun s g f _ hl _ _=>c2 _ _ fun e=>hf g (e▸hl)
    ·exact fun f _=>congrFun b2 f
  | none =>
    rw [bG] at qH;have qH:w.found=false:=qH;rw [qH];have Oz:=l6 hw;have OA:w.prev.s≠n.ae:=by
     rcases Oz with e | ⟨y,hy,e⟩
     ·rw [e];exact tg
     ·rw [e];exact hs y hy
    refine bF (iw (bm h1 Vd (by decide) (by decide)) ?_);show cB ct _ _ _ (cr w.prev w.cur (iV w.cur n),⟨7,bf,st,key,⟨6,ky,val,bI⟩,some w,n,0⟩);refine bF (hP (yZ.2 (uH ac1 Y4 hw)) ?_ ?_)
    ·rw [mq,if_neg fun e=>OA e.1,wv hw]
    generalize e3:(h2.wr (az n 2) (dB w.cur)).wr w.prev (iV w.cur n)=h3;have l3:h3.lv=h2.lv:=by subst e3;rw [dm,dm]
    have r3:∀b:Ad,h3.rd b=if b.s=w.prev.s /\ b.f=w.prev.f then iV w.cur n else if b.s=n.ae /\ b.f=2 then dB w.cur else h2.rd b:=fun b=>by subst e3;rw [mq,mq];rfl
    have n3:∀f,h3.cl n.ae f=if f=2 then dB w.cur else h2.cl n.ae f:=fun f=>by
     have:=r3 ⟨n.ae,0,f⟩;rw [if_neg fun e=>OA e.1.symm] at this;have q:∀H:AH,H.rd ⟨n.ae,0,f⟩=H.cl n.ae f:=fun H=>by unfold rd;rw [if_neg (by show ¬n.ae=0;omega)]
     rw [q,q] at this;rw [this];by_cases Bv:f=2
     ·rw [if_pos Bv,if_pos ⟨rfl,Bv⟩]
     ·rw [if_neg Bv,if_neg fun e=>Bv e.2]
    clear e3;have nin:n.ae ∉ l.map Kn.s:=fun hm=>by obtain⟨y,hy,e⟩:=ac0.1 hm;exact hs y hy e
    refine cP rfl ⟨mT ⟨n.ae,n.gen,key,val⟩ l,.inl ⟨rfl,.inl ⟨bG,rfl,⟨n.ae,n.gen,key,val⟩,rfl,rfl,hf,rfl⟩⟩,⟨?_,Bv,?_,yv jQ nin,?_⟩,?_,?_,?_⟩
    ·unfold bM;rw [l3];exact ac1
    ·refine PN (n:=⟨n.ae,n.gen,key,val⟩) h1 (by rw [l3];exact Vd) ?_ ?_ ?_ ?_ (fun b hb hbn=>?_) (fun s g _ hl=>by rw [l3];exact hl) Bv Y4 hw GR tg nin jQ
     ·show (h3.cl n.ae 0).bU=key;rw [n3,if_neg (by decide)];exact n0
     ·show (h3.cl n.ae 1).bU=val;rw [n3,if_neg (by decide)];exact n1
     ·show h3.cl n.ae 2=_;rw [n3,if_pos rfl]
     ·rw [r3,if_pos ⟨rfl,rfl⟩];exact⟨rfl,rfl,rfl⟩
     ·rw [r3,if_neg hb,if_neg fun e=>hbn e.1]
    ·intro hm;obtain⟨y,hy,e⟩:=ac0.1 hm;rcases fK.1 hy with rfl | hy
     ·exact tg e.symm
     ·exact GR (ac0.2 ⟨y,hy,e⟩)
    ·exact fun s g hl _=>by rw [l3];exact(l2 _ _ fun e=>hf g (e▸hl)).2 hl
    ·intro s g f hs1 hl K8 dE;have Ha:s≠n.ae:=fun e=>hf g (e▸hl);have hsr:h3.rd ⟨s,g,f⟩=h2.rd ⟨s,g,f⟩:=by
      rw [r3,if_neg,if_neg fun e=>Ha e.1];rintro ⟨p1,p2⟩;rcases Oz with e | ⟨y,hy,e⟩
      ·rw [e] at p1 p2;have p1:s=st.s:=p1;have p2:f=st.f:=p2;rcases Bv with q | q
       ·exact dE ⟨p1,p2.trans q⟩
       ·omega
      ·rw [e] at p1;exact K8 (ac0.2 ⟨y,hy,p1.symm⟩)
     have q:∀H:AH,H.rd ⟨s,g,f⟩=H.cl s f:=fun H=>by unfold rd;rw [if_neg (by show ¬s=0;omega)]
     rw [q,q] at hsr;rw [hsr];exact c2 _ _ Ha
    ·intro f dE;have:=r3 (bc f);rw [if_neg (fun e=>?_),if_neg (fun e=>?_)] at this
     ·exact this.trans (congrFun b2 f)
     ·have e1:(0:Int)=n.ae:=e.1;omega
     ·obtain⟨p1,p2⟩:=e;rcases Oz with e | ⟨y,hy,e⟩
      ·rw [e] at p1 p2;exact dE ⟨p1.symm,p2⟩
      ·rw [e] at p1;have:=(ga K9 y hy).1;have p1:(0:Int)=y.s:=p1;omega
 ·show cB ct _ _ _ (ct ⟨1,bf,st,key,⟨7,ky,val,bI⟩,some (iD (st,key)),aq,0⟩ x);refine bW (fun _ _ h=>h) (by omega:(10 * l.length+6)+110<=_) (C3 Ym (fun w hw=>?_) (yU Um K9));have qH:=oA K9 hw;unfold Rm;cases bG:At key l with
  | none =>rw [bG] at qH;have qH:w.found=false:=qH;rw [qH];exact cP rfl ⟨l,.inr (.inl ⟨by show (7:Int)≠6;decide,bG,rfl,rfl⟩),⟨Um,Bv,K9,jQ,GR⟩,FrA.refl⟩
  | some x0 =>
    rw [bG] at qH;obtain⟨fd,q1,q2,q3,q4,q5,q6⟩:=qH;rw [fd];have c1:1<=w.cur.ae:=by omega
    have cl:h.lv w.cur.ae w.cur.gen:=by rw [q1,q2];exact q5
    have hx0:=adf (f:=Kn.s) (yN bG).1;have Un:w.prev.s≠x0.s:=Lg hw bG GR jQ;refine bF (dv (bm c1 cl (by decide) (by decide)) ?_);have hv:(h.rd (az w.cur 1)).bU=x0.v:=by rw [dQ c1,q1];exact q6
    show cB ct _ _ _ (cr (az w.cur 2) w.next (n6 w.next),⟨3,bf,st,key,⟨7,ky,val,bI⟩,some w,aq,(h.rd (az w.cur 1)).bU⟩);rw [hv];refine bF (hP (bm c1 cl (by decide) (by decide)) (by rw [dQ c1,q1,q3]) ?_);show cB ct _ _ _ (cr w.prev w.cur (iV w.cur w.next),⟨4,bf,st,key,⟨7,ky,val,bI⟩,some w,aq,x0.v⟩);refine bF (hP (yZ.2 (uH Um K9 hw)) ?_ ?_)
    ·rw [mq,if_neg (fun e=>Un (e.1.trans q1)),wv hw]
    show cB ct _ _ _ (kD w.cur,⟨5,bf,st,key,⟨7,ky,val,bI⟩,some w,aq,x0.v⟩);refine z2 (wx c1 (by rw [dm,dm];exact cl) ?_);generalize e3:(((h.wr (az w.cur 2) (n6 w.next)).wr w.prev (iV w.cur w.next)).KK w.cur.ae)=h3;have l3:∀s g,h3.lv s g↔(s≠x0.s /\ h.lv s g):=fun s g=>by subst e3;show _ /\ _↔_;rw [dm,dm,q1]
    have r3:∀b:Ad,h3.rd b=if b.s=w.prev.s /\ b.f=w.prev.f then iV w.cur w.next else if b.s=x0.s /\ b.f=2 then n6 w.next else h.rd b:=fun b=>by subst e3;rw [ahB,mq,mq,<- q1];rfl
    clear e3;have Oz:=l6 hw;refine cP rfl ⟨rG key l,.inr (.inr ⟨x0,bG,rfl,.inl ⟨rfl,rfl⟩⟩),⟨?_,Bv,?_,?_,?_⟩,?_,?_,?_⟩
    ·rcases Um with q | q
     ·exact .inl q
     ·exact .inr ⟨q.1,(l3 _ _).2 ⟨fun e=>GR (e▸hx0),q.2.1⟩,q.2.2⟩
    ·refine Xe (x0:=x0) ?_ (fun b hb hbn=>?_) (fun s g hs hl=>(l3 _ _).2 ⟨hs,hl⟩) Bv K9 hw bG GR jQ
     ·rw [r3,if_pos ⟨rfl,rfl⟩];exact⟨rfl,rfl,rfl⟩
     ·rw [r3,if_neg hb,if_neg fun e=>hbn e.1]
    ·exact jQ.sublist (sE.map _)
    ·exact fun hm=>GR ((sE.map Kn.s).subset hm)
    ·exact fun s g hl K8=>(l3 _ _).2 ⟨fun e=>K8 (e▸hx0),hl⟩
    ·intro s g f hs1 hl K8 dE;have hsr:h3.rd ⟨s,g,f⟩=h.rd ⟨s,g,f⟩:=by
      rw [r3,if_neg,if_neg fun e:s=x0.s /\ f=2=>K8 (e.1▸hx0)];rintro ⟨p1,p2⟩;rcases Oz with e | ⟨y,hy,e⟩
      ·rw [e] at p1 p2;have p1:s=st.s:=p1;have p2:f=st.f:=p2;rcases Bv with q | q
       ·exact dE ⟨p1,p2.trans q⟩
       ·omega
      ·rw [e] at p1;exact K8 (ac0.2 ⟨y,hy,p1.symm⟩)
     have q:∀H:AH,H.rd ⟨s,g,f⟩=H.cl s f:=fun H=>by unfold rd;rw [if_neg (by show ¬s=0;omega)]
     rw [q,q] at hsr;exact hsr
    ·intro f dE;have:=r3 (bc f);rw [if_neg (fun e=>?_),if_neg (fun e=>?_)] at this
     ·exact this
     ·have e1:(0:Int)=x0.s:=e.1;omega
     ·obtain⟨p1,p2⟩:=e;rcases Oz with e | ⟨y,hy,e⟩
      ·rw [e] at p1 p2;exact dE ⟨p1.symm,p2⟩
      ·rw [e] at p1;have:=(ga K9 y hy).1;have p1:(0:Int)=y.s:=p1;omega
 ·show cB ct _ _ _ (ct ⟨1,bf,st,key,⟨8,ky,val,bI⟩,some (iD (st,key)),aq,0⟩ x);refine bW (fun _ _ h=>h) (by omega:(10 * l.length+6)+110<=_) (C3 Yl (fun w hw=>?_) (yU Um K9));have qH:=oA K9 hw;unfold Rm;cases bG:At key l with
  | none =>rw [bG] at qH;have qH:w.found=false:=qH;rw [qH];exact cP rfl ⟨l,.inr (.inl ⟨by show (8:Int)≠6;decide,bG,rfl,rfl⟩),⟨Um,Bv,K9,jQ,GR⟩,FrA.refl⟩
  | some x0 =>
    rw [bG] at qH;obtain⟨fd,q1,q2,q3,q4,q5,q6⟩:=qH;rw [fd];have c1:1<=w.cur.ae:=by omega
    have cl:h.lv w.cur.ae w.cur.gen:=by rw [q1,q2];exact q5
    refine bF (dv (bm c1 cl (by decide) (by decide)) ?_);have hv:(h.rd (az w.cur 1)).bU=x0.v:=by rw [dQ c1,q1];exact q6
    refine cP rfl ⟨l,.inr (.inr ⟨x0,bG,?_,.inr ⟨rfl,rfl⟩⟩),⟨Um,Bv,K9,jQ,GR⟩,FrA.refl⟩;show (⟨1,(h.rd (az w.cur 1)).bU⟩:An)=_;rw [hv]
end
section
open Go Go.Sx Go.Proofs AH
def CF (l:List Kn):Prop:=l.Pairwise fun a b=>a.k < b.k
theorem C9 {n:Kn}:∀{l:List Kn},CF l->At n.k l=none->CF (mT n l)
 | [],_,_=>by simp [mT,CF]
 | x::l,hs,ha=>by
   unfold mT;unfold At at ha;have hs0:=hs;unfold CF at hs;rw [adF] at hs;by_cases hk:n.k<=x.k
   ·rw [if_pos hk] at ha ⊢;have dE:x.k≠n.k:=fun e=>by rw [if_pos e] at ha;cases ha
    unfold CF;rw [adF];refine⟨fun y hy=>?_,hs0⟩;rcases aaO.1 hy with rfl | hy
    ·omega
    ·have:=hs.1 y hy;omega
   ·rw [if_neg hk] at ha ⊢;unfold CF;rw [adF];refine⟨fun y hy=>?_,C9 hs.2 ha⟩;rcases fK.1 hy with rfl | hy
    ·omega
    ·exact hs.1 y hy
theorem Q6 {key:Int} {l:List Kn} (hs:CF l):CF (rG key l):=List.Pairwise.sublist sE hs
theorem SJ {key:Int}:∀{l:List Kn},CF l->At key l=none->∀x∈l,x.k≠key
 | y::l,hs,ha,x,hx=>by
   unfold At at ha;unfold CF at hs;rw [adF] at hs;by_cases hk:key<=y.k
   ·rw [if_pos hk] at ha;have dE:y.k≠key:=fun e=>by rw [if_pos e] at ha;cases ha
    rcases aaO.1 hx with rfl | hx
    ·exact dE
    ·have:=hs.1 x hx;omega
   ·rw [if_neg hk] at ha;rcases aaO.1 hx with rfl | hx
    ·omega
    ·exact SJ hs.2 ha x hx
theorem Gp {key:Int} {y:Kn} {B:List Kn} (hy:y.k < key):∀{A:List Kn},CF (A++y::B)->At key (A++y::B)=At key B /\ rG key (A++y::B)=A++y::rG key B /\ ∀n:Kn,n.k=key->mT n (A++y::B)=A++y::mT n B
 | [],_=>by
   refine⟨?_,?_,fun n hn=>?_⟩
   ·show At key (y::B)=_;rw [At,if_neg (by omega)]
   ·show rG key (y::B)=_;rw [rG,if_neg (by omega)];rfl
   ·show mT n (y::B)=_;rw [mT,if_neg (by omega)];rfl
 | x::A,hs=>by
   rw [acY] at hs;unfold CF at hs;rw [adF] at hs;have hx:=hs.1 y (by simp);obtain⟨a1,a2,a3⟩:=Gp hy hs.2;refine⟨?_,?_,fun n hn=>?_⟩
   ·show At key (x::(A++y::B))=_;rw [At,if_neg (by omega)];exact a1
   ·show rG key (x::(A++y::B))=_;rw [rG,if_neg (by omega),a2];rfl
   ·show mT n (x::(A++y::B))=_;rw [mT,if_neg (by omega),a3 n hn];rfl
theorem Em {key:Int} {l:List Kn} {x:Kn} (h:x∈rG key l):x∈l:=sE.subset h
theorem HI {key:Int}:∀{l:List Kn} {x:Kn},At key l≠none->x∈l->x.k≠key->x∈rG key l
 | y::l,x,ha,hx,hk=>by
   unfold rG;unfold At at ha;by_cases hy:key<=y.k
   ·rw [if_pos hy] at ha ⊢;split at ha
    ·rcases aaO.1 hx with rfl | hx
     ·contradiction
     ·exact hx
    ·exact absurd rfl ha
   ·rw [if_neg hy] at ha ⊢;rcases aaO.1 hx with rfl | hx
    ·exact aaV
    ·exact aaW _ (HI ha hx hk)
end
section
open Go Go.Sx Go.Proofs AH
def CZ (L:List Kn) (w:W) (c:Int):Prop:=∃y∈L,w.ae=y.s /\ w.gen=y.g /\ y.k=dW c
structure lB (h:AH) (L:List Kn):Prop where
 li:lh h (dB (h.bd 8)) L
 nd:(L.map Kn.s).Nodup
 sr:CF L
 b0:CZ L (h.bd 8) 0
 bk:∀c,0<=c->c < 8->(h.bd (8+c)).ae=0 \/ CZ L (h.bd (8+c)) c
 rg:∀x∈L,0<=x.k /\ x.k < 512 /\ (x.k % 2=0->x.k % 64=0)
theorem Im {h:AH} {y:Kn} {B:List Kn}:∀{A:List Kn} {w:W},lh h w (A++y::B)->lh h (h.cl y.s 2) B
 | [],w,⟨a,b,m,c,d,e0,e1,f⟩=>f
 | x::A,w,⟨a,b,m,c,d,e0,e1,f⟩=>Im f
theorem Fj {h h':AH} {y:Kn} {B B':List Kn} (hl:h'.lv y.s y.g) (h0:h'.cl y.s 0=h.cl y.s 0) (h1:h'.cl y.s 1=h.cl y.s 1) (hB:lh h' (h'.cl y.s 2) B'):∀{A:List Kn} {w:W},lh h w (A++y::B)->(∀x∈A,h.lv x.s x.g->h'.lv x.s x.g /\ h'.cl x.s 0=h.cl x.s 0 /\ h'.cl x.s 1=h.cl x.s 1 /\ h'.cl x.s 2=h.cl x.s 2)->lh h' w (A++y::B')
 | [],w,⟨a,b,m,c,d,e0,e1,f⟩,_=>⟨a,b,m,c,hl,by rw [h0];exact e0,by rw [h1];exact e1,hB⟩
 | x::A,w,⟨a,b,m,c,d,e0,e1,f⟩,hf=>by obtain⟨f1,f0,f2,f3⟩:=hf x aaV d;exact⟨a,b,m,c,f1,by rw [f0];exact e0,by rw [f2];exact e1,by rw [f3];exact Fj hl h0 h1 hB f fun z hz=>hf z (aaW _ hz)⟩
theorem X6 {A B:List Kn} {y:Kn} (h:((A++y::B).map Kn.s).Nodup):(B.map Kn.s).Nodup /\ y.s ∉ B.map Kn.s /\ (∀x∈A,x.s≠y.s /\ x.s ∉ B.map Kn.s) /\ (A.map Kn.s).Nodup:=by rw [adA,afN,aaU,ads] at h;obtain⟨h1,⟨h2,h3⟩,h4⟩:=h;exact⟨h3,h2,fun x hx=>⟨h4 _ (adf hx) _ aaV,fun hm=>h4 _ (adf hx) _ (aaW _ hm) rfl⟩,h1⟩
theorem Lm {h:AH} {A B:List Kn} {y:Kn} (hi:lB h (A++y::B)):CG h y.dh B:=by obtain⟨c1,c2⟩:=ga hi.li y (by simp);obtain⟨n1,n2,_,_⟩:=X6 hi.nd;exact⟨.inr ⟨c1,c2,by show (0:Int)<=2;decide,by show (2:Int) < 8;decide⟩,.inl rfl,by rw [JV c1];exact Im hi.li,n1,n2⟩
theorem nF {h h':AH} {A B B':List Kn} {y:Kn} (hi:lB h (A++y::B)) (hB:CG h' y.dh B') (hf:FrA h h' y.dh B) (hm:∀z∈B',z∈B \/ ∀g,¬h.lv z.s g) (hs:CF (A++y::B')) (hr:∀x∈B',0<=x.k /\ x.k < 512 /\ (x.k % 2=0->x.k % 64=0)) (hk:∀x∈B,(∃c,0<=c /\ c < 8 /\ x.k=dW c)->x∈B'):lB h' (A++y::B'):=by
 obtain⟨c1,c2⟩:=ga hi.li y (by simp);obtain⟨n1,n2,n3,n4⟩:=X6 hi.nd;have bd:∀f,h'.bd f=h.bd f:=fun f=>hf.bd f fun e=>by have e:y.s=0:=e.1;omega
 have Uc:∀x∈A++y::B,(∃c,0<=c /\ c < 8 /\ x.k=dW c)->x∈A++y::B':=fun x hx hc=>by
  simp only [adg,aaO] at hx ⊢;rcases hx with hx | hx | hx
  ·exact .inl hx
  ·exact .inr (.inl hx)
  ·exact .inr (.inr (hk x hx hc))
 have base:∀w c,0<=c->c < 8->CZ (A++y::B) w c->CZ (A++y::B') w c:=fun w c xR hc1 ⟨z,hz,q1,q2,q3⟩=>⟨z,Uc z hz ⟨c,xR,hc1,q3⟩,q1,q2,q3⟩;refine⟨?_,?_,hs,by rw [bd];exact base _ _ (by decide) (by decide) hi.b0,fun c xR hc1=>?_,fun x hx=>?_⟩
 ·rw [bd];refine Fj (hf.lv _ _ c2 n2) (hf.cl _ _ _ c1 c2 n2 fun e=>by cases e.2) (hf.cl _ _ _ c1 c2 n2 fun e=>by cases e.2) (by rw [<- JV c1];exact hB.li) hi.li fun x hx hxl=>?_;obtain⟨x1,x2⟩:=n3 x hx;have xs:=(ga hi.li x (by simp [hx])).1;exact⟨hf.lv _ _ hxl x2,hf.cl _ _ _ xs hxl x2 fun e=>x1 e.1,hf.cl _ _ _ xs hxl x2 fun e=>x1 e.1,hf.cl _ _ _ xs hxl x2 fun e=>x1 e.1⟩
 ·rw [adA,afN,aaU,ads];refine⟨n4,⟨hB.ns,hB.nd⟩,fun a ha b hb e=>?_⟩;subst e;obtain⟨x,hx,rfl⟩:=ac0.1 ha;obtain⟨x1,x2⟩:=n3 x hx;rcases aaO.1 hb with hb | hb
  ·exact x1 hb
  ·obtain⟨z,hz,e⟩:=ac0.1 hb;rcases hm z hz with hz | hz
   ·exact x2 (ac0.2 ⟨z,hz,e⟩)
   ·exact hz x.g (e▸(ga hi.li x (by simp [hx])).2)
 ·rw [bd];rcases hi.bk c xR hc1 with q | q
  ·exact .inl q
  ·exact .inr (base _ _ xR hc1 q)
 ·simp only [adg,aaO] at hx;rcases hx with hx | rfl | hx
  ·exact hi.rg x (by simp [hx])
  ·exact hi.rg x (by simp)
  ·exact hr x hx
theorem SY {h h':AH} {A B B':List Kn} {y:Kn} {key:Int} {o:O} {a:An} (hi:lB h (A++y::B)) (hk:y.k < key) (h5:key < 512) (hy:0<=key) (he:key % 2=0->key % 64=0) (hb:o.aj=7->∀c,0<=c->c < 8->dW c≠key) (ls:rC h key o B a B') (hB:CG h' y.dh B') (hf:FrA h h' y.dh B):∃L',rC h key o (A++y::B) a L' /\ lB h' L':=by
 obtain⟨e1,e2,e3⟩:=Gp hk hi.sr;have rF:lB h' (A++y::B)->∀{p:Prop},p->p:=fun _ _ h=>h;have rgB:∀x∈B,0<=x.k /\ x.k < 512 /\ (x.k % 2=0->x.k % 64=0):=fun x hx=>hi.rg x (by simp [hx]);rcases ls with⟨k6,⟨q1,q2,n,nk,nv,nf,rfl⟩ | ⟨q1,q2,rfl⟩ | ⟨q1,rfl⟩⟩ | ⟨k6,q1,q2,rfl⟩ | ⟨x,q1,q2,⟨q3,rfl⟩ | ⟨q3,rfl⟩⟩
 ·refine⟨A++y::mT n B,.inl ⟨k6,.inl ⟨by rw [e1];exact q1,q2,n,nk,nv,nf,(e3 n nk).symm⟩⟩,nF hi hB hf (fun z hz=>?_) ?_ (fun x hx=>?_) fun x hx _=>fK.2 (.inr hx)⟩
  ·rcases fK.1 hz with rfl | hz
   ·exact .inr nf
   ·exact .inl hz
  ·rw [<- e3 n nk];exact C9 hi.sr (by rw [nk,e1];exact q1)
  ·rcases fK.1 hx with rfl | hx
   ·omega
   ·exact rgB x hx
 ·exact⟨_,.inl ⟨k6,.inr (.inl ⟨by rw [e1];exact q1,q2,rfl⟩)⟩,nF hi hB hf (fun z hz=>.inl hz) hi.sr rgB fun x hx _=>hx⟩
 ·exact⟨_,.inl ⟨k6,.inr (.inr ⟨q1,rfl⟩)⟩,nF hi hB hf (fun z hz=>.inl hz) hi.sr rgB fun x hx _=>hx⟩
 ·exact⟨_,.inr (.inl ⟨k6,by rw [e1];exact q1,q2,rfl⟩),nF hi hB hf (fun z hz=>.inl hz) hi.sr rgB fun x hx _=>hx⟩
 ·refine⟨A++y::rG key B,.inr (.inr ⟨x,by rw [e1];exact q1,q2,.inl ⟨q3,e2.symm⟩⟩),nF hi hB hf (fun z hz=>.inl (Em hz)) (by rw [<- e2];exact Q6 hi.sr) (fun x hx=>rgB x (Em hx)) fun z hz ⟨c,c0,c1,hc⟩=>HI (by rw [q1];intro e;cases e) hz (by rw [hc];exact hb q3 c c0 c1)⟩
 ·exact⟨_,.inr (.inr ⟨x,by rw [e1];exact q1,q2,.inr ⟨q3,rfl⟩⟩),nF hi hB hf (fun z hz=>.inl hz) hi.sr rgB fun x hx _=>hx⟩
end
section
open Go Go.Sx Go.Proofs AH
theorem acz {h:AH} {st:Ad} {l:List Kn} {key v:Int} {w:bs} {n:W} (hi:CG h st l) (h1:1<=n.ae) (hl:h.lv n.ae n.gen) (n0:(h.cl n.ae 0).bU=key) (nv:(h.cl n.ae 1).bU=v) (tg:st.s≠n.ae) (hs:∀y∈l,y.s≠n.ae) (hw:lR h key st l w) :
 ((h.wr (az n 2) (dB w.cur)).bM w.prev /\ (h.wr (az n 2) (dB w.cur)).rd w.prev=w.cur) /\
 CG ((h.wr (az n 2) (dB w.cur)).wr w.prev (iV w.cur n)) st (mT ⟨n.ae,n.gen,key,v⟩ l) /\
 ((h.wr (az n 2) (dB w.cur)).wr w.prev (iV w.cur n)).lv=h.lv /\
 (∀s f,1<=s->s≠n.ae->s ∉ l.map Kn.s->¬(s=st.s /\ f=2)->((h.wr (az n 2) (dB w.cur)).wr w.prev (iV w.cur n)).cl s f=h.cl s f) /\
 (∀f,¬(st.s=0 /\ f=st.f)->((h.wr (az n 2) (dB w.cur)).wr w.prev (iV w.cur n)).bd f=h.bd f):=by
 obtain⟨Um,Bv,K9,jQ,GR⟩:=hi;have Oz:=l6 hw;have OA:w.prev.s≠n.ae:=by
  rcases Oz with e | ⟨y,hy,e⟩
  ·rw [e];exact tg
  ·rw [e];exact hs y hy
 refine⟨⟨yZ.2 (uH Um K9 hw),by rw [mq,if_neg fun e=>OA e.1,wv hw]⟩,?_⟩;generalize e3:(h.wr (az n 2) (dB w.cur)).wr w.prev (iV w.cur n)=h3;have l3:h3.lv=h.lv:=by subst e3;rw [dm,dm]
 have r3:∀b:Ad,h3.rd b=if b.s=w.prev.s /\ b.f=w.prev.f then iV w.cur n else if b.s=n.ae /\ b.f=2 then dB w.cur else h.rd b:=fun b=>by subst e3;rw [mq,mq];rfl
 have q:∀(H:AH) (s g f:Int),1<=s->H.rd ⟨s,g,f⟩=H.cl s f:=fun H s g f hs=>by unfold rd;rw [if_neg (by show ¬s=0;omega)]
 have n3:∀f,h3.cl n.ae f=if f=2 then dB w.cur else h.cl n.ae f:=fun f=>by
  have:=r3 ⟨n.ae,0,f⟩;rw [if_neg fun e=>OA e.1.symm,q _ _ _ _ h1,q _ _ _ _ h1] at this;rw [this];by_cases Bv:f=2
  ·rw [if_pos Bv,if_pos ⟨rfl,Bv⟩]
  ·rw [if_neg Bv,if_neg fun e=>Bv e.2]
 clear e3;have nin:n.ae ∉ l.map Kn.s:=fun hm=>by obtain⟨y,hy,e⟩:=ac0.1 hm;exact hs y hy e
 refine⟨⟨?_,Bv,?_,yv jQ nin,?_⟩,l3,?_,?_⟩
 ·unfold bM;rw [l3];exact Um
 ·refine PN (n:=⟨n.ae,n.gen,key,v⟩) h1 (by rw [l3];exact hl) ?_ ?_ ?_ ?_ (fun b hb hbn=>?_) (fun s g _ hl=>by rw [l3];exact hl) Bv K9 hw GR tg nin jQ
  ·show (h3.cl n.ae 0).bU=key;rw [n3,if_neg (by decide)];exact n0
  ·show (h3.cl n.ae 1).bU=v;rw [n3,if_neg (by decide)];exact nv
  ·show h3.cl n.ae 2=_;rw [n3,if_pos rfl]
  ·rw [r3,if_pos ⟨rfl,rfl⟩];exact⟨rfl,rfl,rfl⟩
  ·rw [r3,if_neg hb,if_neg fun e=>hbn e.1]
 ·intro hm;obtain⟨y,hy,e⟩:=ac0.1 hm;rcases fK.1 hy with rfl | hy
  ·exact tg e.symm
  ·exact GR (ac0.2 ⟨y,hy,e⟩)
 ·intro s f hs1 Ha K8 dE;have hsr:h3.rd ⟨s,0,f⟩=h.rd ⟨s,0,f⟩:=by
   rw [r3,if_neg,if_neg fun e:s=n.ae /\ f=2=>Ha e.1];rintro ⟨p1,p2⟩;rcases Oz with e | ⟨y,hy,e⟩
   ·rw [e] at p1 p2;have p1:s=st.s:=p1;have p2:f=st.f:=p2;rcases Bv with q | q
    ·exact dE ⟨p1,p2.trans q⟩
    ·omega
   ·rw [e] at p1;exact K8 (ac0.2 ⟨y,hy,p1.symm⟩)
  rwa [q _ _ _ _ hs1,q _ _ _ _ hs1] at hsr
 ·intro f dE;have:=r3 (bc f);rw [if_neg (fun e=>?_),if_neg (fun e=>?_)] at this
  ·exact this
  ·have e1:(0:Int)=n.ae:=e.1;omega
  ·obtain⟨p1,p2⟩:=e;rcases Oz with e | ⟨y,hy,e⟩
   ·rw [e] at p1 p2;exact dE ⟨p1.symm,p2⟩
   ·rw [e] at p1;have:=(ga K9 y hy).1;have p1:(0:Int)=y.s:=p1;omega
def adz (a:An) (j:ca):Cl×ca:=cond (ll (a.mZ != 1) (j.op.aj==8)) (⟨12,iC,aq,aq,0,0,a⟩,{j with answer:=a,pc:=-1,last:=⟨12,iC,aq,aq,0,0,a⟩}) (bC (bc 17),{j with answer:=a,pc:=12})
def FH (c:Cl) (j:ca):Cl×ca:=cond (c.aj != 12) (c,j) (adz c.qB j)
noncomputable def XA (j:ca):Cl×ca:=FH (ct (jO (az j.base 2,jc j.op.key,j.op)) ⟨aq,false⟩).1 {j with inner:=some (ct (jO (az j.base 2,jc j.op.key,j.op)) ⟨aq,false⟩).2,pc:=11}
noncomputable def FW (j:ca):Cl×ca:=if j.bucket=j.wanted then XA j else(kP,{j with child:=kE 4 j.wanted j.bucket,pc:=3})
def OG (j:ca) (w:bs):Cl×ca:=cond w.found (qz j.node,{j with walk:=some w,sentinel:=dB w.cur,pc:=6}) (cW (az j.node 2) (dB w.cur),{j with walk:=some w,pc:=7})
section
variable {la:Cl} {o:O} {sz wt bu ch:Int} {ba nd se:W} {wk:Option bs} {kW:Option cU} {an:An} {cn:W}
theorem alf (w:bs) (x:cJ):bn ⟨5,la,o,sz,wt,bu,ch,ba,nd,se,some w,kW,an,cn⟩ x=cond (bh w x).1.2 ((bh w x).1.1,⟨5,la,o,sz,wt,bu,ch,ba,nd,se,some (bh w x).2,kW,an,cn⟩) (OG ⟨5,la,o,sz,wt,bu,ch,ba,nd,se,none,kW,an,cn⟩ (bh w x).2):=rfl
theorem alh (x:cJ):bn ⟨2,la,o,sz,wt,bu,ch,ba,nd,se,wk,kW,an,cn⟩ x=cond (!(x.w.ae==0)) (FW ⟨2,la,o,sz,wt,bu,ch,x.w,nd,se,wk,kW,an,cn⟩) (if bu=0 then(⟨12,iC,aq,aq,0,0,⟨4,0⟩⟩,⟨-1,⟨12,iC,aq,aq,0,0,⟨4,0⟩⟩,o,sz,wt,bu,ch,ba,nd,se,wk,kW,an,cn⟩) else(bC (bc (eZ 8 (rI bu))),⟨2,la,o,sz,wt,rI bu,ch,ba,nd,se,wk,kW,an,cn⟩)):=rfl
theorem ali (x:cJ):bn ⟨1,la,o,sz,wt,bu,ch,ba,nd,se,wk,kW,an,cn⟩ x=(bC (bc (eZ 8 (Int.tmod o.key (uF x.w.bU)))),⟨2,la,o,uF x.w.bU,Int.tmod o.key (uF x.w.bU),Int.tmod o.key (uF x.w.bU),ch,ba,nd,se,wk,kW,an,cn⟩):=rfl
theorem aeN (x:cJ):bn ⟨3,la,o,sz,wt,bu,ch,ba,nd,se,wk,kW,an,cn⟩ x=cond (!x.ok) (XA ⟨3,la,o,sz,wt,bu,ch,ba,nd,se,wk,kW,an,cn⟩) (cW (az x.w 0) (dZ (dW ch)),⟨4,la,o,sz,wt,bu,ch,ba,x.w,se,wk,kW,an,cn⟩):=rfl
theorem alg (x:cJ):bn ⟨4,la,o,sz,wt,bu,ch,ba,nd,se,wk,kW,an,cn⟩ x=bn ⟨5,la,o,sz,wt,bu,ch,ba,nd,se,some (iD (az ba 2,dW ch)),kW,an,cn⟩ x:=rfl
theorem ald (w:bs) (x:cJ):bn ⟨7,la,o,sz,wt,bu,ch,ba,nd,se,some w,kW,an,cn⟩ x=(cr w.prev w.cur (iV w.cur nd),⟨8,la,o,sz,wt,bu,ch,ba,nd,se,some w,kW,an,cn⟩):=rfl
theorem alc (w:W):bn ⟨8,la,o,sz,wt,bu,ch,ba,nd,se,wk,kW,an,cn⟩ ⟨w,true⟩=(bC (bc (eZ 8 ch)),⟨9,la,o,sz,wt,bu,ch,ba,nd,nd,wk,kW,an,cn⟩):=rfl
theorem ale (x:cJ):bn ⟨6,la,o,sz,wt,bu,ch,ba,nd,se,wk,kW,an,cn⟩ x=(bC (bc (eZ 8 ch)),⟨9,la,o,sz,wt,bu,ch,ba,nd,se,wk,kW,an,cn⟩):=rfl
theorem alb (x:cJ):bn ⟨9,la,o,sz,wt,bu,ch,ba,nd,se,wk,kW,an,cn⟩ x=cond (x.w.ae==0) (cr (bc (eZ 8 ch)) x.w (iV x.w se),⟨10,la,o,sz,wt,bu,ch,ba,nd,se,wk,kW,an,cn⟩) (FW ⟨9,la,o,sz,wt,ch,ch,se,nd,se,wk,kW,an,cn⟩):=rfl
theorem agO (x:cJ):bn ⟨10,la,o,sz,wt,bu,ch,ba,nd,se,wk,kW,an,cn⟩ x=FW ⟨10,la,o,sz,wt,ch,ch,se,nd,se,wk,kW,an,cn⟩:=rfl
theorem agN (x:cJ):bn ⟨12,la,o,sz,wt,bu,ch,ba,nd,se,wk,kW,an,cn⟩ x=cond (o.aj==7) (cr (bc 17) x.w (fH x.w (-1)),⟨13,la,o,sz,wt,bu,ch,ba,nd,se,wk,kW,an,x.w⟩) (cr (bc 17) x.w (fH x.w 1),⟨13,la,o,sz,wt,bu,ch,ba,nd,se,wk,kW,an,x.w⟩):=rfl
theorem agM (w:W):bn ⟨13,la,o,sz,wt,bu,ch,ba,nd,se,wk,kW,an,cn⟩ ⟨w,true⟩=cond (ll (o.aj==7) (ll (sz==8) (decide (cn.bU < IntKind.wrap .i64 (2 * sz))))) (⟨12,iC,aq,aq,0,0,an⟩,⟨-1,⟨12,iC,aq,aq,0,0,an⟩,o,sz,wt,bu,ch,ba,nd,se,wk,kW,an,cn⟩) (bC (bc 16),⟨14,la,o,sz,wt,bu,ch,ba,nd,se,wk,kW,an,cn⟩):=rfl
theorem agL (x:cJ):bn ⟨14,la,o,sz,wt,bu,ch,ba,nd,se,wk,kW,an,cn⟩ x=cond (x.w.bU==sz) (cr (bc 16) x.w (fH x.w sz),⟨15,la,o,sz,wt,bu,ch,ba,nd,se,wk,kW,an,cn⟩) (⟨12,iC,aq,aq,0,0,an⟩,⟨-1,⟨12,iC,aq,aq,0,0,an⟩,o,sz,wt,bu,ch,ba,nd,se,wk,kW,an,cn⟩):=rfl
theorem agK (x:cJ):bn ⟨15,la,o,sz,wt,bu,ch,ba,nd,se,wk,kW,an,cn⟩ x=(⟨12,iC,aq,aq,0,0,an⟩,⟨-1,⟨12,iC,aq,aq,0,0,an⟩,o,sz,wt,bu,ch,ba,nd,se,wk,kW,an,cn⟩):=rfl
end
end
section
open Go Go.Sx Go.Proofs AH
def pK (c:Int):Nat:=if c=0 then 0 else if c=1 \/ c=2 \/ c=4 then 1 else if c=7 then 3 else 2
theorem Ps:∀w b:Fin 8,jW (w.val:Int) (b.val:Int)=true->b=w \/ (jW (w.val:Int) (kE 4 (w.val:Int) (b.val:Int))=true /\ dW (b.val:Int) < dW (kE 4 (w.val:Int) (b.val:Int)) /\ pK (kE 4 (w.val:Int) (b.val:Int))=pK (b.val:Int)+1):=by decide
theorem TO {w b:Int} (h:jW w b=true):b=w \/ (jW w (kE 4 w b)=true /\ dW b < dW (kE 4 w b) /\ pK (kE 4 w b)=pK b+1):=by
 obtain⟨h1,h2,h3,h4⟩:=mF h;have:=Ps ⟨w.toNat,by omega⟩ ⟨b.toNat,by omega⟩;have e1:((w.toNat:Nat):Int)=w:=by omega
 have e2:((b.toNat:Nat):Int)=b:=by omega
 dsimp only at this;rw [e1,e2] at this;rcases this h with q | q
 ·left;have:=congrArg Fin.val q;dsimp only at this;omega
 ·exact .inr q
def kf (k b s:Nat):Bool:=match jW (Int.tmod (Int.ofNat k) (Int.ofNat s)) (Int.ofNat b) with | true=>decide (dW (Int.ofNat b) < jc (Int.ofNat k)) | false=>true
theorem aiw:Qy (fun k=>Qy (fun b=>match kf k b 1 with | true=>(match kf k b 2 with | true=>(match kf k b 4 with | true=>kf k b 8 | false=>false) | false=>false) | false=>false) 8) 256=true:=by kernel_rfl
theorem T9 {k b n:Int} (hk:ED k=true) (hb:jW (Int.tmod k (uF n)) b=true):dW b < jc k:=by
 have hk:0<=k /\ k < 256:=aaF hk;obtain⟨_,_,h3,h4⟩:=mF hb;have h:=tc (tc aiw k.toNat (by omega)) b.toNat (by omega);have go:∀s:Nat,uF n=(s:Int)->kf k.toNat b.toNat s=true->dW b < jc k:=fun s hs hf=>by unfold kf at hf;rw [show Int.ofNat k.toNat=k from by simp;omega,show Int.ofNat b.toNat=b from by simp;omega,show Int.ofNat s=uF n from hs.symm,hb] at hf;exact aaF hf
 split at h
 ·rename_i k1;split at h
  ·rename_i k2;split at h
   ·rename_i k4;rcases rZ n with e | e | e | e
    ·exact go 1 e k1
    ·exact go 2 e k2
    ·exact go 4 e k4
    ·exact go 8 e h
   ·cases h
  ·cases h
 ·cases h
theorem Jl {c:Int}:dW c % 2=0:=by
 unfold dW
 repeat' split
 all_goals decide
theorem Dl {k:Int}:jc k % 2=1:=by unfold jc;omega
theorem Gd {c:Int}:0<=dW c /\ dW c < 512:=by
 unfold dW
 repeat' split
 all_goals decide
theorem aeb {c:Int}:dW c % 64=0:=by
 unfold dW
 repeat' split
 all_goals decide
theorem HS {k:Int}:0<=jc k /\ jc k < 512:=by unfold jc TD;omega
def l5 (L L1:List Kn):Prop:=∀x:Kn,x.k % 2=1->(x∈L1↔x∈L)
def GH (L:List Kn) (o:O) (a:An) (h':AH):Prop:=∃L1 L' h1,l5 L L1 /\ CF L1 /\ rC h1 (jc o.key) o L1 a L' /\ lB h' L'
theorem JA {h h':AH} {L:List Kn} (hi:lB h L) (hc:∀x∈L,h.lv x.s x.g->h'.lv x.s x.g /\ h'.cl x.s 0=h.cl x.s 0 /\ h'.cl x.s 1=h.cl x.s 1 /\ h'.cl x.s 2=h.cl x.s 2) (hb:∀c,0<=c->c < 8->h'.bd (8+c)=h.bd (8+c)):lB h' L:=by have h0:h'.bd 8=h.bd 8:=hb 0 (by decide) (by decide);exact⟨by rw [h0];exact ku hi.li hc,hi.nd,hi.sr,by rw [h0];exact hi.b0,fun c c0 c1=>by rw [hb c c0 c1];exact hi.bk c c0 c1,hi.rg⟩
theorem Jz {h:AH} {L:List Kn} (hi:lB h L) {f:Int} (hf:f=16 \/ f=17) {w:W}:lB (h.wr (bc f) w) L :=
 JA hi (fun x _ hl=>⟨hl,rfl,rfl,rfl⟩) fun c c0 c1=>by rw [SH,if_neg (by omega)]
theorem Vy {h:AH} {L:List Kn} (hi:lB h L) {c:Int} (c0:0 < c) (c1:c < 8) {w:W} (hw:CZ L w c):lB (h.wr (bc (8+c)) w) L:=by
 have h0:(h.wr (bc (8+c)) w).bd 8=h.bd 8:=by rw [SH,if_neg (by omega)]
 refine⟨by rw [h0];exact ku hi.li fun x _ hl=>⟨hl,rfl,rfl,rfl⟩,hi.nd,hi.sr,by rw [h0];exact hi.b0,fun d d0 d1=>?_,hi.rg⟩;rw [SH];by_cases e:8+d=8+c
 ·have e:d=c:=by omega
  subst e;rw [if_pos rfl];exact .inr hw
 ·rw [if_neg e];exact hi.bk d d0 d1
theorem Tc {h h1:AH} {L L1 L':List Kn} {a:An} {j:ca} (hs:l5 L L1) (hr:CF L1) (hl:rC h1 (jc j.op.key) j.op L1 a L') (hi:lB h L') {b:Bool}:jU bn (GH L j.op) b 6 h (adz a j):=by
 obtain⟨pc,la,o,sz,wt,bu,ch,ba,nd,se,wk,kW,an,cn⟩:=j;dsimp only at hl;unfold adz;have dn:∀{h:AH} {k:Nat} {r:Cl×ca},lB h L'->r.1.aj=12->r.1.qB=a->jU bn (GH L o) b (k+1) h r:=fun hi e1 e2=>cP e1 ⟨L1,L',h1,hs,hr,by rw [e2];exact hl,hi⟩;cases ll (a.mZ != 1) (o.aj==8) with
 | true=>exact dn hi rfl rfl
 | false =>
   refine bF (dv (b4 (by decide) (by decide)) ?_);show jU bn _ _ 5 h (bn ⟨12,la,o,sz,wt,bu,ch,ba,nd,se,wk,kW,a,cn⟩ _);rw [agN];have sw:∀{h:AH} {w:W},lB h L'->jU bn (GH L o) b 4 h (bn ⟨13,la,o,sz,wt,bu,ch,ba,nd,se,wk,kW,a,w⟩ ⟨w,true⟩):=fun {h w} hi=>by
    rw [agM];cases ll (o.aj==7) (ll (sz==8) (decide (w.bU < IntKind.wrap .i64 (2 * sz)))) with
    | true=>exact dn hi rfl rfl
    | false =>
      refine bF (dv (b4 (by decide) (by decide)) ?_);show jU bn _ _ 3 h (bn ⟨14,la,o,sz,wt,bu,ch,ba,nd,se,wk,kW,a,w⟩ _);rw [agL];cases (h.rd (bc 16)).bU==sz with
      | false=>exact dn hi rfl rfl
      | true =>refine bF (hP (b4 (by decide) (by decide)) rfl ?_);show jU bn _ _ 2 _ (bn ⟨15,la,o,sz,wt,bu,ch,ba,nd,se,wk,kW,a,w⟩ _);rw [agK];exact dn (Jz hi (.inl rfl)) rfl rfl
   cases o.aj==7 with
   | true=>exact bF (hP (b4 (by decide) (by decide)) rfl (sw (Jz hi (.inr rfl))))
   | false=>exact bF (hP (b4 (by decide) (by decide)) rfl (sw (Jz hi (.inr rfl))))
theorem C0 {h:AH} {c:Cl} {K:cJ->AH->Prop} (hw:h.Wp c K):(c.aj != 12)=true:=by
 cases hk:c.aj != 12 with
 | true=>rfl
 | false =>
   have e:c.aj=12:=by simpa using hk
   unfold Wp at hw;rw [e] at hw;simp at hw
theorem YQ {Qi Q:An->AH->Prop} {K:Nat} {la:Cl} {o:O} {sz wt bu ch:Int} {ba nd se:W} {wk:Option bs} {an:An} {cn:W} (hc:∀(b:Bool) a h' l,Qi a h'->jU bn Q b K h' (adz a ⟨11,la,o,sz,wt,bu,ch,ba,nd,se,wk,some l,an,cn⟩))
 {k:Nat} {h:AH} {r:Cl×cU} (hh:cB ct Qi k h r):cB bn Q (k+K) h (FH r.1 ⟨11,la,o,sz,wt,bu,ch,ba,nd,se,wk,some r.2,an,cn⟩):=by
 have go:∀{f k:Nat} {b:Bool} {h:AH} {r:Cl×cU},pA ct Qi b f k h r->pA bn Q b (f+K+1) (k+K) h (FH r.1 ⟨11,la,o,sz,wt,bu,ch,ba,nd,se,wk,some r.2,an,cn⟩):=fun {f}=>by
  induction f with
  | zero=>exact fun hh=>hh.elim
  | succ f ih =>
    intro k b h r hh;unfold FH;rcases hh with⟨e,q⟩ | ⟨hn,⟨e,hw⟩ | ⟨e,e2,hw⟩⟩
    ·rw [e];exact eU (fun _ _ h=>h) (by omega) (by omega) id (hc b _ _ _ q)
    ·rw [C0 hw,show f+1+K+1=(f+K+1)+1 by omega];exact .inr ⟨abz hn (by omega),.inl ⟨e,AH.wp_mono (fun x h' hx=>eU (fun _ _ h=>h) (ab4 _) (by show _<=k+K - uk r.1.aj;omega) id (ih hx)) hw⟩⟩
    ·rw [C0 hw,show f+1+K+1=(f+K+1)+1 by omega];exact .inr ⟨abz hn (by omega),.inr ⟨e,e2,AH.wp_mono (fun x h' hx=>eU (fun _ _ h=>h) (ab4 _) (by show _<=k+K - uk r.1.aj;omega) id (ih hx)) hw⟩⟩
 exact qt (go hh)
