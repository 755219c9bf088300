import Derived.Test.YtadmfaohjnjajaaGreatDoorBa
set_option linter.unusedVariables false
set_option linter.unusedSimpArgs false
set_option maxHeartbeats 0
set_option maxRecDepth 100000
namespace Go.Proofs.YtadmfaohjnjajaaGreatDoor
section
open Go Go.Sx Go.Proofs AH
theorem jR {h h':AH}:∀{l:List Kn} {w:W},kC h w l->(∀x∈l,h.lv x.s x.g->h'.lv x.s x.g /\ h'.cl x.s 0=h.cl x.s 0 /\ h'.cl x.s 1=h.cl x.s 1 /\ h'.cl x.s 2=h.cl x.s 2)->kC h' w l
 | [],_,hp,_=>hp
 | x::l,w,⟨a,b,m,c,d,e0,e1,f⟩,hf=>by
   obtain⟨f1,f0,f2,f3⟩:=hf x abw d
   exact⟨a,b,m,c,f1,by rw [f0];exact e0,by rw [f2];exact e1,by rw [f3];exact jR f fun y hy=>hf y (aby _ hy)⟩
theorem Ec {h:AH} {l:List Kn} {w w':W} (hl:kC h w l) (e1:w'.af=w.af) (e2:w'.gen=w.gen) (e3:w'.mark=false):kC h w' l:=by
 cases l with
 | nil=>exact⟨e1.trans hl.1,e3⟩
 | cons x l=>exact⟨e1.trans hl.1,e2.trans hl.2.1,e3,hl.2.2.2⟩
def mQ (n:Kn):List Kn->List Kn
 | []=>[n]
 | x::l=>if n.k<=x.k then n::x::l else x::mQ n l
def tx (key:Int):List Kn->List Kn
 | []=>[]
 | x::l=>if key<=x.k then l else x::tx key l
theorem IY {h:AH} {x:Kn} (h1:1<=x.s):h.rd x.cW=h.cl x.s 2:=by unfold rd;rw [if_neg (by show ¬x.s=0;omega)];rfl
theorem Og {h h':AH} {n:Kn} {w:bm} (n1:1<=n.s) (nl:h'.lv n.s n.g) (n0:(h'.cl n.s 0).bS=n.k) (nv:(h'.cl n.s 1).bS=n.v) (n2:h'.cl n.s 2=dv w.cur)
 (to:(h'.rd w.prev).af=n.s /\ (h'.rd w.prev).gen=n.g /\ (h'.rd w.prev).mark=false) (hc:∀b:Ad,¬(b.s=w.prev.s /\ b.f=w.prev.f)->b.s≠n.s->h'.rd b=h.rd b) (BG:∀s g,s≠n.s->h.lv s g->h'.lv s g) :
 ∀{l:List Kn} {a:Ad},a.f=2 \/ a.s=0->kC h (h.rd a) l->kY h n.k a l w->a.s ∉ l.map Kn.s->a.s≠n.s->n.s ∉ l.map Kn.s->(l.map Kn.s).Nodup->kC h' (h'.rd a) (mQ n l)
 | [],a,hf,hl,hw,ha,han,hn,hd=>by
   obtain⟨w1,w2,w3⟩:=hw
   rw [w1] at to
   refine⟨to.1,to.2.1,to.2.2,n1,nl,n0,nv,?_⟩
   rw [n2,w2]
   exact⟨hl.1,rfl⟩
 | x::l,a,hf,hl,hw,ha,han,hn,hd=>by
   unfold kY at hw
   unfold mQ
   rw [abv,abk,not_or] at ha hn
   rw [abv,aem] at hd
   have cell:∀{y:Kn} {f:Int},1<=y.s->y.s≠n.s->¬(y.s=w.prev.s /\ f=w.prev.f)->h'.cl y.s f=h.cl y.s f:=fun {y f} hy1 Js dA=>by
    have:=hc ⟨y.s,y.g,f⟩ dA Js
    unfold rd at this
    rwa [if_neg (by show ¬y.s=0;omega),if_neg (by show ¬y.s=0;omega)] at this
   by_cases hk:n.k<=x.k
   ·rw [if_pos hk] at hw ⊢
    obtain⟨w1,w2,w3,w4⟩:=hw
    rw [w1] at to
    refine⟨to.1,to.2.1,to.2.2,n1,nl,n0,nv,?_⟩
    rw [n2,w2]
    refine jR (Ec hl rfl rfl rfl) fun y hy F0=>?_
    have Js:y.s≠n.s:=fun e=>(not_or.2 hn) (abk.1 (e▸ad9 (f:=Kn.s) hy))
    have hya:y.s≠a.s:=fun e=>(not_or.2 ha) (abk.1 (e▸ad9 (f:=Kn.s) hy))
    have hy1:=(fO hl y hy).1
    rw [w1] at cell
    exact⟨BG _ _ Js F0,cell hy1 Js fun e=>hya e.1,cell hy1 Js fun e=>hya e.1,cell hy1 Js fun e=>hya e.1⟩
   ·rw [if_neg hk] at hw ⊢
    have hp:w.prev.f=2 /\ w.prev.s≠a.s:=by
     rcases lC hw with e | ⟨y,hy,e⟩
     ·rw [e];exact⟨rfl,fun e=>ha.1 e.symm⟩
     ·rw [e];exact⟨rfl,fun e=>ha.2 (adK.2 ⟨y,hy,e⟩)⟩
    obtain⟨q1,q2,m,c,d,e0,e1,f⟩:=hl
    rw [hc a (fun e=>hp.2 e.1.symm) han]
    have za:x.s≠n.s:=fun e=>hn.1 e.symm
    refine⟨q1,q2,m,c,BG _ _ za d,?_,?_,?_⟩
    ·rw [cell c za fun e=>by have:=e.2;omega];exact e0
    ·rw [cell c za fun e=>by have:=e.2;omega];exact e1
    ·rw [<- IY c] at f ⊢
     exact Og n1 nl n0 nv n2 to hc BG (.inl rfl) f hw hd.1 za hn.2 hd.2
theorem Vu {h h':AH} {key:Int} {w:bm} {x0:Kn}
 (to:(h'.rd w.prev).af=w.next.af /\ (h'.rd w.prev).gen=w.next.gen /\ (h'.rd w.prev).mark=false) (hc:∀b:Ad,¬(b.s=w.prev.s /\ b.f=w.prev.f)->b.s≠x0.s->h'.rd b=h.rd b) (BG:∀s g,s≠x0.s->h.lv s g->h'.lv s g) :
 ∀{l:List Kn} {a:Ad},a.f=2 \/ a.s=0->kC h (h.rd a) l->kY h key a l w->At key l=some x0->a.s ∉ l.map Kn.s->(l.map Kn.s).Nodup->kC h' (h'.rd a) (tx key l)
 | [],a,hf,hl,hw,hx,ha,hd=>by cases hx
 | x::l,a,hf,hl,hw,hx,ha,hd=>by
   unfold kY at hw
   unfold tx
   unfold At at hx
   rw [abv,abk,not_or] at ha
   rw [abv,aem] at hd
   have cell:∀{y:Kn} {f:Int},1<=y.s->y.s≠x0.s->¬(y.s=w.prev.s /\ f=w.prev.f)->h'.cl y.s f=h.cl y.s f:=fun {y f} hy1 Js dA=>by
    have:=hc ⟨y.s,y.g,f⟩ dA Js
    unfold rd at this
    rwa [if_neg (by show ¬y.s=0;omega),if_neg (by show ¬y.s=0;omega)] at this
   obtain⟨q1,q2,m,c,d,e0,e1,f⟩:=hl
   by_cases hk:key<=x.k
   ·rw [if_pos hk] at hw hx ⊢
    obtain⟨w1,w2,w3,w4⟩:=hw
    split at hx
    ·cases hx
     rw [w1,w3] at to
     refine jR (Ec f to.1 to.2.1 to.2.2) fun y hy F0=>?_
     have Js:y.s≠x0.s:=fun e=>hd.1 (e▸ad9 (f:=Kn.s) hy)
     have hya:y.s≠a.s:=fun e=>ha.2 (e▸ad9 (f:=Kn.s) hy)
     have hy1:=(fO f y hy).1
     rw [w1] at cell
     exact⟨BG _ _ Js F0,cell hy1 Js fun e=>hya e.1,cell hy1 Js fun e=>hya e.1,cell hy1 Js fun e=>hya e.1⟩
    ·cases hx
   ·rw [if_neg hk] at hw hx ⊢
    have hp:w.prev.f=2 /\ w.prev.s≠a.s:=by
     rcases lC hw with e | ⟨y,hy,e⟩
     ·rw [e];exact⟨rfl,fun e=>ha.1 e.symm⟩
     ·rw [e];exact⟨rfl,fun e=>ha.2 (adK.2 ⟨y,hy,e⟩)⟩
    have hx0:=ad9 (f:=Kn.s) (Fg hx).1
    have za:x.s≠x0.s:=fun e=>hd.1 (e▸hx0)
    rw [hc a (fun e=>hp.2 e.1.symm) (fun e=>ha.2 (e▸hx0))]
    refine⟨q1,q2,m,c,BG _ _ za d,?_,?_,?_⟩
    ·rw [cell c za fun e=>by have:=e.2;omega];exact e0
    ·rw [cell c za fun e=>by have:=e.2;omega];exact e1
    ·rw [<- IY c] at f ⊢
     exact Vu to hc BG (.inl rfl) f hw hx hd.1 hd.2
theorem g9 {n y:Kn}:∀{l:List Kn},y∈mQ n l↔y=n \/ y∈l
 | []=>by simp [mQ]
 | x::l=>by
   unfold mQ
   split
   ·simp
   ·rw [abk,g9,abk];exact⟨fun h=>by rcases h with h | h | h<;>simp [h],fun h=>by rcases h with h | h | h<;>simp [h]⟩
theorem rC {key:Int}:∀{l:List Kn},(tx key l).Sublist l
 | []=>.slnil
 | x::l=>by
   unfold tx
   split
   ·exact List.sublist_cons_self _ _
   ·exact rC.cons_cons _
theorem xH {n:Kn}:∀{l:List Kn},(l.map Kn.s).Nodup->n.s ∉ l.map Kn.s->((mQ n l).map Kn.s).Nodup
 | [],_,_=>by simp [mQ]
 | x::l,hd,hn=>by
   unfold mQ
   split
   ·rw [abv,aem];exact⟨hn,hd⟩
   ·rw [abv,aem] at hd ⊢
    rw [abv,abk,not_or] at hn
    refine⟨fun hm=>?_,xH hd.2 hn.2⟩
    obtain⟨y,hy,e⟩:=adK.1 hm
    rcases g9.1 hy with rfl | hy
    ·exact hn.1 e
    ·exact hd.1 (adK.2 ⟨y,hy,e⟩)
end
section
open Go Go.Sx Go.Proofs AH
structure FrA (h h':AH) (st:Ad) (l:List Kn):Prop where
 lv:∀s g,h.lv s g->s ∉ l.map Kn.s->h'.lv s g
 cl:∀s g f,1<=s->h.lv s g->s ∉ l.map Kn.s->¬(s=st.s /\ f=2)->h'.cl s f=h.cl s f
 bd:∀f,¬(st.s=0 /\ f=st.f)->h'.bd f=h.bd f
theorem FrA.refl {h:AH} {st:Ad} {l:List Kn}:FrA h h st l:=⟨fun _ _ h _=>h,fun _ _ _ _ _ _ _=>rfl,fun _ _=>rfl⟩
def sS (h:AH) (key:Int) (o:O) (l:List Kn) (a:An) (l':List Kn):Prop :=
 (o.aj=6 /\ ((At key l=none /\ a=⟨1,0⟩ /\ ∃n:Kn,n.k=key /\ n.v=o.val /\ (∀g,¬h.lv n.s g) /\ l'=mQ n l) \/ (At key l≠none /\ a=⟨3,0⟩ /\ l'=l) \/ (a=⟨4,0⟩ /\ l'=l)))
 \/ (o.aj≠6 /\ At key l=none /\ a=⟨2,0⟩ /\ l'=l)
 \/ (∃x,At key l=some x /\ a=⟨1,x.v⟩ /\ ((o.aj=7 /\ l'=tx key l) \/ (o.aj=8 /\ l'=l)))
structure BZ (h:AH) (st:Ad) (l:List Kn):Prop where
 va:h.bG st
 f2:st.f=2 \/ st.s=0
 li:kC h (h.rd st) l
 nd:(l.map Kn.s).Nodup
 ns:st.s ∉ l.map Kn.s
def ass (h:AH) (st:Ad) (key:Int) (o:O) (l:List Kn) (a:An) (h':AH):Prop:=∃l',sS h key o l a l' /\ BZ h' st l' /\ FrA h h' st l
section
variable {la:Cl} {st:Ad} {key:Int} {o:O} {nd:W} {v:Int}
def ad6 (la:Cl) (st:Ad) (key:Int) (o:O) (nd:W) (v:Int) (w:bm):Cl×cM:=cond w.found (p7 nd,⟨5,la,st,key,o,some w,nd,v⟩) (cO (ay nd 2) (dv w.cur),⟨6,la,st,key,o,some w,nd,v⟩)
def PK (la:Cl) (st:Ad) (key:Int) (o:O) (nd:W) (v:Int) (w:bm):Cl×cM:=cond (!w.found) (jx 2 0,⟨-1,jx 2 0,st,key,o,some w,nd,v⟩) (br (ay w.cur 1),⟨2,la,st,key,o,some w,nd,v⟩)
theorem WH {ky va ta:Int} (w:bm) (x:cr):b6 ⟨4,la,st,key,⟨6,ky,va,ta⟩,some w,nd,v⟩ x=cond (aY w x).1.2 ((aY w x).1.1,⟨4,la,st,key,⟨6,ky,va,ta⟩,some (aY w x).2,nd,v⟩) (ad6 la st key ⟨6,ky,va,ta⟩ nd v (aY w x).2):=rfl
theorem WE {ky va ta:Int} (w:bm) (x:cr):b6 ⟨1,la,st,key,⟨7,ky,va,ta⟩,some w,nd,v⟩ x=cond (aY w x).1.2 ((aY w x).1.1,⟨1,la,st,key,⟨7,ky,va,ta⟩,some (aY w x).2,nd,v⟩) (PK la st key ⟨7,ky,va,ta⟩ nd v (aY w x).2):=rfl
theorem WD {ky va ta:Int} (w:bm) (x:cr):b6 ⟨1,la,st,key,⟨8,ky,va,ta⟩,some w,nd,v⟩ x=cond (aY w x).1.2 ((aY w x).1.1,⟨1,la,st,key,⟨8,ky,va,ta⟩,some (aY w x).2,nd,v⟩) (PK la st key ⟨8,ky,va,ta⟩ nd v (aY w x).2):=rfl
end
theorem Ke {h:AH} {key:Int} {x0:Kn}:∀{l:List Kn} {a:Ad} {w:bm},kY h key a l w->At key l=some x0->a.s ∉ l.map Kn.s->(l.map Kn.s).Nodup->w.prev.s≠x0.s
 | [],a,w,hw,hx,ha,hd=>by cases hx
 | x::l,a,w,hw,hx,ha,hd=>by
   unfold kY at hw
   unfold At at hx
   rw [abv,abk,not_or] at ha
   rw [abv,aem] at hd
   by_cases hk:key<=x.k
   ·rw [if_pos hk] at hw hx
    split at hx
    ·cases hx;rw [hw.1];exact ha.1
    ·cases hx
   ·rw [if_neg hk] at hw hx
    exact Ke hw hx hd.1 hd.2
theorem Lu {h:AH} {st:Ad} {l:List Kn} (hi:BZ h st l) {key:Int} {o:O} (ho:o.aj=6 \/ o.aj=7 \/ o.aj=8) (x:cr):b9 b6 (ass h st key o l) (10 * l.length+120) h (b6 (js (st,key,o)) x):=by
 obtain⟨SB,AQ,J8,iS,FH⟩:=hi
 obtain⟨kd,ky,val,bO⟩:=o
 dsimp only at ho
 rcases ho with rfl | rfl | rfl
 ·show b9 b6 _ ((10 * l.length+118)+2) h (j9,⟨1,aW,st,key,⟨6,ky,val,bO⟩,none,ao,0⟩)
  refine zm (qX (cK rfl ⟨l,.inl ⟨rfl,.inr (.inr ⟨rfl,rfl⟩)⟩,⟨SB,AQ,J8,iS,FH⟩,FrA.refl⟩) fun n h1 hf=>?_)
  have zG:(h.new n.af n.gen).lv n.af n.gen:=by show if n.af=n.af then n.gen=n.gen else _;rw [if_pos rfl]
  have hs:∀y∈l,y.s≠n.af:=fun y hy e=>hf y.g (e▸(fO J8 y hy).2)
  have uO:st.s≠n.af:=fun e=>by
   rcases SB with q | q
   ·omega
   ·exact hf st.g (e▸q.2.1)
  show b9 b6 _ _ _ (cO (ay n 0) (dX key),⟨2,aW,st,key,⟨6,ky,val,bO⟩,none,n,0⟩)
  refine bB (gS (aZ h1 zG (by decide) (by decide)) ?_)
  show b9 b6 _ _ _ (cO (ay n 1) (dX val),⟨3,aW,st,key,⟨6,ky,val,bO⟩,none,n,0⟩)
  refine bB (gS (aZ h1 (by rw [de];exact zG) (by decide) (by decide)) ?_)
  generalize e1:((h.new n.af n.gen).wr (ay n 0) (dX key)).wr (ay n 1) (dX val)=h2
  have b2:h2.bd=h.bd:=by subst e1;rw [tj h1,tj h1];rfl
  have c2:∀y k,y≠n.af->h2.cl y k=h.cl y k:=fun y k hy=>by subst e1;rw [gb h1,if_neg fun e=>hy e.1,gb h1,if_neg fun e=>hy e.1,AH.mH,if_neg hy]
  have l2:∀y g,y≠n.af->(h2.lv y g↔h.lv y g):=fun y g hy=>by subst e1;rw [de,de,Aw,if_neg hy]
  have Tw:h2.lv n.af n.gen:=by subst e1;rw [de,de];exact zG
  have n0:(h2.cl n.af 0).bS=key:=by subst e1;rw [gb h1,if_neg (by rintro ⟨_,e⟩;cases e),gb h1,if_pos ⟨rfl,rfl⟩];rfl
  have n1:(h2.cl n.af 1).bS=val:=by subst e1;rw [gb h1,if_pos ⟨rfl,rfl⟩];rfl
  clear e1
  have r2:∀b:Ad,b.s≠n.af->h2.rd b=h.rd b:=fun b hb=>by unfold rd;rw [b2];split<;>first | rfl | exact c2 _ _ hb
  have abm:h2.bG st:=by
   rcases SB with q | q
   ·exact .inl q
   ·exact .inr ⟨q.1,(l2 _ _ uO).2 q.2.1,q.2.2⟩
  have Xu:kC h2 (h2.rd st) l:=by
   rw [r2 _ uO]
   exact jR J8 fun y hy F0=>⟨(l2 _ _ (hs y hy)).2 F0,c2 _ _ (hs y hy),c2 _ _ (hs y hy),c2 _ _ (hs y hy)⟩
  show b9 b6 _ _ _ (b6 ⟨4,aW,st,key,⟨6,ky,val,bO⟩,some (gZ (st,key)),n,0⟩ ⟨ao,true⟩)
  refine bT (fun _ _ h=>h) (by omega:(10 * l.length+6)+5<=_) (Cn WH (fun w hw=>?_) (ye abm Xu))
  have qe:=nZ Xu hw
  unfold ad6
  cases bC:At key l with
  | some x0 =>
    rw [bC] at qe
    rw [qe.1]
    refine bB (Iu h1 Tw ?_)
    refine cK rfl ⟨l,.inl ⟨rfl,.inr (.inl ⟨(by rw [bC];intro e;cases e),rfl,rfl⟩)⟩,⟨?_,AQ,?_,iS,FH⟩,?_,?_,?_⟩
    ·rcases abm with q | q
     ·exact .inl q
     ·exact .inr ⟨q.1,⟨uO,q.2.1⟩,q.2.2⟩
    ·exact jR Xu fun y hy F0=>⟨⟨hs y hy,F0⟩,rfl,rfl,rfl⟩
    ·exact fun s g hl _=>⟨fun e=>hf g (e▸hl),(l2 _ _ fun e=>hf g (e▸hl)).2 hl⟩
    ·exact fun s g f _ hl _ _=>c2 _ _ fun e=>hf g (e▸hl)
    ·exact fun f _=>congrFun b2 f
  | none =>
    rw [bC] at qe
    have qe:w.found=false:=qe
    rw [qe]
    have MY:=lC hw
    have MZ:w.prev.s≠n.af:=by
     rcases MY with e | ⟨y,hy,e⟩
     ·rw [e];exact uO
     ·rw [e];exact hs y hy
    refine bB (gS (aZ h1 Tw (by decide) (by decide)) ?_)
    show b9 b6 _ _ _ (b5 w.prev w.cur (iC w.cur n),⟨7,aW,st,key,⟨6,ky,val,bO⟩,some w,n,0⟩)
    refine bB (gG (yk.2 (tK abm Xu hw)) ?_ ?_)
    ·rw [lT,if_neg fun e=>MZ e.1,vn hw]
    generalize e3:(h2.wr (ay n 2) (dv w.cur)).wr w.prev (iC w.cur n)=h3
    have l3:h3.lv=h2.lv:=by subst e3;rw [de,de]
    have r3:∀b:Ad,h3.rd b=if b.s=w.prev.s /\ b.f=w.prev.f then iC w.cur n else if b.s=n.af /\ b.f=2 then dv w.cur else h2.rd b:=fun b=>by
     subst e3;rw [lT,lT];rfl
    have n3:∀f,h3.cl n.af f=if f=2 then dv w.cur else h2.cl n.af f:=fun f=>by
     have:=r3 ⟨n.af,0,f⟩
     rw [if_neg fun e=>MZ e.1.symm] at this
     have q:∀H:AH,H.rd ⟨n.af,0,f⟩=H.cl n.af f:=fun H=>by unfold rd;rw [if_neg (by show ¬n.af=0;omega)]
     rw [q,q] at this
     rw [this]
     by_cases AQ:f=2
     ·rw [if_pos AQ,if_pos ⟨rfl,AQ⟩]
     ·rw [if_neg AQ,if_neg fun e=>AQ e.2]
    clear e3
    have nin:n.af ∉ l.map Kn.s:=fun hm=>by
     obtain⟨y,hy,e⟩:=adK.1 hm
     exact hs y hy e
    refine cK rfl ⟨mQ ⟨n.af,n.gen,key,val⟩ l,.inl ⟨rfl,.inl ⟨bC,rfl,⟨n.af,n.gen,key,val⟩,rfl,rfl,hf,rfl⟩⟩,⟨?_,AQ,?_,xH iS nin,?_⟩,?_,?_,?_⟩
    ·unfold bG;rw [l3];exact abm
    ·refine Og (n:=⟨n.af,n.gen,key,val⟩) h1 (by rw [l3];exact Tw) ?_ ?_ ?_ ?_ (fun b hb hbn=>?_) (fun s g _ hl=>by rw [l3];exact hl) AQ Xu hw FH uO nin iS
     ·show (h3.cl n.af 0).bS=key
      rw [n3,if_neg (by decide)];exact n0
     ·show (h3.cl n.af 1).bS=val
      rw [n3,if_neg (by decide)];exact n1
     ·show h3.cl n.af 2=_
      rw [n3,if_pos rfl]
     ·rw [r3,if_pos ⟨rfl,rfl⟩];exact⟨rfl,rfl,rfl⟩
     ·rw [r3,if_neg hb,if_neg fun e=>hbn e.1]
    ·intro hm
     obtain⟨y,hy,e⟩:=adK.1 hm
     rcases g9.1 hy with rfl | hy
     ·exact uO e.symm
     ·exact FH (adK.2 ⟨y,hy,e⟩)
    ·exact fun s g hl _=>by rw [l3];exact(l2 _ _ fun e=>hf g (e▸hl)).2 hl
    ·intro s g f hs1 hl Ho dA
     have F7:s≠n.af:=fun e=>hf g (e▸hl)
     have hsr:h3.rd ⟨s,g,f⟩=h2.rd ⟨s,g,f⟩:=by
      rw [r3,if_neg,if_neg fun e=>F7 e.1]
      rintro ⟨p1,p2⟩
      rcases MY with e | ⟨y,hy,e⟩
      ·rw [e] at p1 p2
       have p1:s=st.s:=p1
       have p2:f=st.f:=p2
       rcases AQ with q | q
       ·exact dA ⟨p1,p2.trans q⟩
       ·omega
      ·rw [e] at p1;exact Ho (adK.2 ⟨y,hy,p1.symm⟩)
     have q:∀H:AH,H.rd ⟨s,g,f⟩=H.cl s f:=fun H=>by unfold rd;rw [if_neg (by show ¬s=0;omega)]
     rw [q,q] at hsr
     rw [hsr];exact c2 _ _ F7
    ·intro f dA
     have:=r3 (aV f)
     rw [if_neg (fun e=>?_),if_neg (fun e=>?_)] at this
     ·exact this.trans (congrFun b2 f)
     ·have e1:(0:Int)=n.af:=e.1
      omega
     ·obtain⟨p1,p2⟩:=e
      rcases MY with e | ⟨y,hy,e⟩
      ·rw [e] at p1 p2
       exact dA ⟨p1.symm,p2⟩
      ·rw [e] at p1
       have:=(fO J8 y hy).1
       have p1:(0:Int)=y.s:=p1
       omega
 ·show b9 b6 _ _ _ (b6 ⟨1,aW,st,key,⟨7,ky,val,bO⟩,some (gZ (st,key)),ao,0⟩ x)
  refine bT (fun _ _ h=>h) (by omega:(10 * l.length+6)+110<=_) (Cn WE (fun w hw=>?_) (ye SB J8))
  have qe:=nZ J8 hw
  unfold PK
  cases bC:At key l with
  | none =>
    rw [bC] at qe
    have qe:w.found=false:=qe
    rw [qe]
    exact cK rfl ⟨l,.inr (.inl ⟨by show (7:Int)≠6;decide,bC,rfl,rfl⟩),⟨SB,AQ,J8,iS,FH⟩,FrA.refl⟩
  | some x0 =>
    rw [bC] at qe
    obtain⟨fd,q1,q2,q3,q4,q5,q6⟩:=qe
    rw [fd]
    have c1:1<=w.cur.af:=by omega
    have cl:h.lv w.cur.af w.cur.gen:=by rw [q1,q2];exact q5
    have hx0:=ad9 (f:=Kn.s) (Fg bC).1
    have SC:w.prev.s≠x0.s:=Ke hw bC FH iS
    refine bB (dm (aZ c1 cl (by decide) (by decide)) ?_)
    have hv:(h.rd (ay w.cur 1)).bS=x0.v:=by rw [dJ c1,q1];exact q6
    show b9 b6 _ _ _ (b5 (ay w.cur 2) w.next (nM w.next),⟨3,aW,st,key,⟨7,ky,val,bO⟩,some w,ao,(h.rd (ay w.cur 1)).bS⟩)
    rw [hv]
    refine bB (gG (aZ c1 cl (by decide) (by decide)) (by rw [dJ c1,q1,q3]) ?_)
    show b9 b6 _ _ _ (b5 w.prev w.cur (iC w.cur w.next),⟨4,aW,st,key,⟨7,ky,val,bO⟩,some w,ao,x0.v⟩)
    refine bB (gG (yk.2 (tK SB J8 hw)) ?_ ?_)
    ·rw [lT,if_neg (fun e=>SC (e.1.trans q1)),vn hw]
    show b9 b6 _ _ _ (jT w.cur,⟨5,aW,st,key,⟨7,ky,val,bO⟩,some w,ao,x0.v⟩)
    refine zi (vo c1 (by rw [de,de];exact cl) ?_)
    generalize e3:(((h.wr (ay w.cur 2) (nM w.next)).wr w.prev (iC w.cur w.next)).JM w.cur.af)=h3
    have l3:∀s g,h3.lv s g↔(s≠x0.s /\ h.lv s g):=fun s g=>by subst e3;show _ /\ _↔_;rw [de,de,q1]
    have r3:∀b:Ad,h3.rd b=if b.s=w.prev.s /\ b.f=w.prev.f then iC w.cur w.next else if b.s=x0.s /\ b.f=2 then nM w.next else h.rd b:=fun b=>by
     subst e3;rw [afO,lT,lT,<- q1];rfl
    clear e3
    have MY:=lC hw
    refine cK rfl ⟨tx key l,.inr (.inr ⟨x0,bC,rfl,.inl ⟨rfl,rfl⟩⟩),⟨?_,AQ,?_,?_,?_⟩,?_,?_,?_⟩
    ·rcases SB with q | q
     ·exact .inl q
     ·exact .inr ⟨q.1,(l3 _ _).2 ⟨fun e=>FH (e▸hx0),q.2.1⟩,q.2.2⟩
    ·refine Vu (x0:=x0) ?_ (fun b hb hbn=>?_) (fun s g hs hl=>(l3 _ _).2 ⟨hs,hl⟩) AQ J8 hw bC FH iS
     ·rw [r3,if_pos ⟨rfl,rfl⟩];exact⟨rfl,rfl,rfl⟩
     ·rw [r3,if_neg hb,if_neg fun e=>hbn e.1]
    ·exact iS.sublist (rC.map _)
    ·exact fun hm=>FH ((rC.map Kn.s).subset hm)
    ·exact fun s g hl Ho=>(l3 _ _).2 ⟨fun e=>Ho (e▸hx0),hl⟩
    ·intro s g f hs1 hl Ho dA
     have hsr:h3.rd ⟨s,g,f⟩=h.rd ⟨s,g,f⟩:=by
      rw [r3,if_neg,if_neg fun e:s=x0.s /\ f=2=>Ho (e.1▸hx0)]
      rintro ⟨p1,p2⟩
      rcases MY with e | ⟨y,hy,e⟩
      ·rw [e] at p1 p2
       have p1:s=st.s:=p1
       have p2:f=st.f:=p2
       rcases AQ with q | q
       ·exact dA ⟨p1,p2.trans q⟩
       ·omega
      ·rw [e] at p1;exact Ho (adK.2 ⟨y,hy,p1.symm⟩)
     have q:∀H:AH,H.rd ⟨s,g,f⟩=H.cl s f:=fun H=>by unfold rd;rw [if_neg (by show ¬s=0;omega)]
     rw [q,q] at hsr
     exact hsr
    ·intro f dA
     have:=r3 (aV f)
     rw [if_neg (fun e=>?_),if_neg (fun e=>?_)] at this
     ·exact this
     ·have e1:(0:Int)=x0.s:=e.1
      omega
     ·obtain⟨p1,p2⟩:=e
      rcases MY with e | ⟨y,hy,e⟩
      ·rw [e] at p1 p2
       exact dA ⟨p1.symm,p2⟩
      ·rw [e] at p1
       have:=(fO J8 y hy).1
       have p1:(0:Int)=y.s:=p1
       omega
 ·show b9 b6 _ _ _ (b6 ⟨1,aW,st,key,⟨8,ky,val,bO⟩,some (gZ (st,key)),ao,0⟩ x)
  refine bT (fun _ _ h=>h) (by omega:(10 * l.length+6)+110<=_) (Cn WD (fun w hw=>?_) (ye SB J8))
  have qe:=nZ J8 hw
  unfold PK
  cases bC:At key l with
  | none =>
    rw [bC] at qe
    have qe:w.found=false:=qe
    rw [qe]
    exact cK rfl ⟨l,.inr (.inl ⟨by show (8:Int)≠6;decide,bC,rfl,rfl⟩),⟨SB,AQ,J8,iS,FH⟩,FrA.refl⟩
  | some x0 =>
    rw [bC] at qe
    obtain⟨fd,q1,q2,q3,q4,q5,q6⟩:=qe
    rw [fd]
    have c1:1<=w.cur.af:=by omega
    have cl:h.lv w.cur.af w.cur.gen:=by rw [q1,q2];exact q5
    refine bB (dm (aZ c1 cl (by decide) (by decide)) ?_)
    have hv:(h.rd (ay w.cur 1)).bS=x0.v:=by rw [dJ c1,q1];exact q6
    refine cK rfl ⟨l,.inr (.inr ⟨x0,bC,?_,.inr ⟨rfl,rfl⟩⟩),⟨SB,AQ,J8,iS,FH⟩,FrA.refl⟩
    show (⟨1,(h.rd (ay w.cur 1)).bS⟩:An)=_
    rw [hv]
end
section
open Go Go.Sx Go.Proofs AH
def Is (l:List Kn):Prop:=l.Pairwise fun a b=>a.k < b.k
theorem Ct {n:Kn}:∀{l:List Kn},Is l->At n.k l=none->Is (mQ n l)
 | [],_,_=>by simp [mQ,Is]
 | x::l,hs,ha=>by
   unfold mQ
   unfold At at ha
   have hs0:=hs
   unfold Is at hs
   rw [aeo] at hs
   by_cases hk:n.k<=x.k
   ·rw [if_pos hk] at ha ⊢
    have dA:x.k≠n.k:=fun e=>by rw [if_pos e] at ha;cases ha
    unfold Is
    rw [aeo]
    refine⟨fun y hy=>?_,hs0⟩
    rcases abk.1 hy with rfl | hy
    ·omega
    ·have:=hs.1 y hy;omega
   ·rw [if_neg hk] at ha ⊢
    unfold Is
    rw [aeo]
    refine⟨fun y hy=>?_,Ct hs.2 ha⟩
    rcases g9.1 hy with rfl | hy
    ·omega
    ·exact hs.1 y hy
theorem Pz {key:Int} {l:List Kn} (hs:Is l):Is (tx key l):=List.Pairwise.sublist rC hs
theorem Fi {key:Int} {y:Kn} {B:List Kn} (hy:y.k < key):∀{A:List Kn},Is (A++y::B)->At key (A++y::B)=At key B /\ tx key (A++y::B)=A++y::tx key B /\ ∀n:Kn,n.k=key->mQ n (A++y::B)=A++y::mQ n B
 | [],_=>by
   refine⟨?_,?_,fun n hn=>?_⟩
   ·show At key (y::B)=_
    rw [At,if_neg (by omega)]
   ·show tx key (y::B)=_
    rw [tx,if_neg (by omega)];rfl
   ·show mQ n (y::B)=_
    rw [mQ,if_neg (by omega)];rfl
 | x::A,hs=>by
   rw [adF] at hs
   unfold Is at hs
   rw [aeo] at hs
   have hx:=hs.1 y (by simp)
   obtain⟨a1,a2,a3⟩:=Fi hy hs.2
   refine⟨?_,?_,fun n hn=>?_⟩
   ·show At key (x::(A++y::B))=_
    rw [At,if_neg (by omega)];exact a1
   ·show tx key (x::(A++y::B))=_
    rw [tx,if_neg (by omega),a2];rfl
   ·show mQ n (x::(A++y::B))=_
    rw [mQ,if_neg (by omega),a3 n hn];rfl
theorem Dw {key:Int} {l:List Kn} {x:Kn} (h:x∈tx key l):x∈l:=rC.subset h
theorem GF {key:Int}:∀{l:List Kn} {x:Kn},At key l≠none->x∈l->x.k≠key->x∈tx key l
 | y::l,x,ha,hx,hk=>by
   unfold tx
   unfold At at ha
   by_cases hy:key<=y.k
   ·rw [if_pos hy] at ha ⊢
    split at ha
    ·rcases abk.1 hx with rfl | hx
     ·contradiction
     ·exact hx
    ·exact absurd rfl ha
   ·rw [if_neg hy] at ha ⊢
    rcases abk.1 hx with rfl | hx
    ·exact abw
    ·exact aby _ (GF ha hx hk)
end
section
open Go Go.Sx Go.Proofs AH
def Ci (L:List Kn) (w:W) (c:Int):Prop:=∃y∈L,w.af=y.s /\ w.gen=y.g /\ y.k=dN c
structure kZ (h:AH) (L:List Kn):Prop where
 li:kC h (dv (h.bd 8)) L
 nd:(L.map Kn.s).Nodup
 sr:Is L
 b0:Ci L (h.bd 8) 0
 bk:∀c,0<=c->c < 8->(h.bd (8+c)).af=0 \/ Ci L (h.bd (8+c)) c
 rg:∀x∈L,0<=x.k /\ x.k < 512 /\ (x.k % 2=0->x.k % 64=0)
theorem G9 {h:AH} {y:Kn} {B:List Kn}:∀{A:List Kn} {w:W},kC h w (A++y::B)->kC h (h.cl y.s 2) B
 | [],w,⟨a,b,m,c,d,e0,e1,f⟩=>f
 | x::A,w,⟨a,b,m,c,d,e0,e1,f⟩=>G9 f
theorem Ed {h h':AH} {y:Kn} {B B':List Kn} (hl:h'.lv y.s y.g) (h0:h'.cl y.s 0=h.cl y.s 0) (h1:h'.cl y.s 1=h.cl y.s 1) (hB:kC h' (h'.cl y.s 2) B'):∀{A:List Kn} {w:W},kC h w (A++y::B)->(∀x∈A,h.lv x.s x.g->h'.lv x.s x.g /\ h'.cl x.s 0=h.cl x.s 0 /\ h'.cl x.s 1=h.cl x.s 1 /\ h'.cl x.s 2=h.cl x.s 2)->kC h' w (A++y::B')
 | [],w,⟨a,b,m,c,d,e0,e1,f⟩,_=>⟨a,b,m,c,hl,by rw [h0];exact e0,by rw [h1];exact e1,hB⟩
 | x::A,w,⟨a,b,m,c,d,e0,e1,f⟩,hf=>by
   obtain⟨f1,f0,f2,f3⟩:=hf x abw d
   exact⟨a,b,m,c,f1,by rw [f0];exact e0,by rw [f2];exact e1,by rw [f3];exact Ed hl h0 h1 hB f fun z hz=>hf z (aby _ hz)⟩
theorem Wq {A B:List Kn} {y:Kn} (h:((A++y::B).map Kn.s).Nodup):(B.map Kn.s).Nodup /\ y.s ∉ B.map Kn.s /\ (∀x∈A,x.s≠y.s /\ x.s ∉ B.map Kn.s) /\ (A.map Kn.s).Nodup:=by
 rw [aen,agd,abv,aem] at h
 obtain⟨h1,⟨h2,h3⟩,h4⟩:=h
 exact⟨h3,h2,fun x hx=>⟨h4 _ (ad9 hx) _ abw,fun hm=>h4 _ (ad9 hx) _ (aby _ hm) rfl⟩,h1⟩
theorem Kj {h:AH} {A B:List Kn} {y:Kn} (hi:kZ h (A++y::B)):BZ h y.cW B:=by
 obtain⟨c1,c2⟩:=fO hi.li y (by simp)
 obtain⟨n1,n2,_,_⟩:=Wq hi.nd
 exact⟨.inr ⟨c1,c2,by show (0:Int)<=2;decide,by show (2:Int) < 8;decide⟩,.inl rfl,by rw [IY c1];exact G9 hi.li,n1,n2⟩
theorem mX {h h':AH} {A B B':List Kn} {y:Kn} (hi:kZ h (A++y::B)) (hB:BZ h' y.cW B') (hf:FrA h h' y.cW B) (hm:∀z∈B',z∈B \/ ∀g,¬h.lv z.s g) (hs:Is (A++y::B')) (hr:∀x∈B',0<=x.k /\ x.k < 512 /\ (x.k % 2=0->x.k % 64=0)) (hk:∀x∈B,(∃c,0<=c /\ c < 8 /\ x.k=dN c)->x∈B'):kZ h' (A++y::B'):=by
 obtain⟨c1,c2⟩:=fO hi.li y (by simp)
 obtain⟨n1,n2,n3,n4⟩:=Wq hi.nd
 have bd:∀f,h'.bd f=h.bd f:=fun f=>hf.bd f fun e=>by have e:y.s=0:=e.1;omega
 have Sr:∀x∈A++y::B,(∃c,0<=c /\ c < 8 /\ x.k=dN c)->x∈A++y::B':=fun x hx hc=>by
  simp only [aec,abk] at hx ⊢
  rcases hx with hx | hx | hx
  ·exact .inl hx
  ·exact .inr (.inl hx)
  ·exact .inr (.inr (hk x hx hc))
 have base:∀w c,0<=c->c < 8->Ci (A++y::B) w c->Ci (A++y::B') w c:=fun w c wH hc1 ⟨z,hz,q1,q2,q3⟩=>⟨z,Sr z hz ⟨c,wH,hc1,q3⟩,q1,q2,q3⟩
 refine⟨?_,?_,hs,by rw [bd];exact base _ _ (by decide) (by decide) hi.b0,fun c wH hc1=>?_,fun x hx=>?_⟩
 ·rw [bd]
  refine Ed (hf.lv _ _ c2 n2) (hf.cl _ _ _ c1 c2 n2 fun e=>by cases e.2) (hf.cl _ _ _ c1 c2 n2 fun e=>by cases e.2) (by rw [<- IY c1];exact hB.li) hi.li fun x hx hxl=>?_
  obtain⟨x1,x2⟩:=n3 x hx
  have xs:=(fO hi.li x (by simp [hx])).1
  exact⟨hf.lv _ _ hxl x2,hf.cl _ _ _ xs hxl x2 fun e=>x1 e.1,hf.cl _ _ _ xs hxl x2 fun e=>x1 e.1,hf.cl _ _ _ xs hxl x2 fun e=>x1 e.1⟩
 ·rw [aen,agd,abv,aem]
  refine⟨n4,⟨hB.ns,hB.nd⟩,fun a ha b hb e=>?_⟩
  subst e
  obtain⟨x,hx,rfl⟩:=adK.1 ha
  obtain⟨x1,x2⟩:=n3 x hx
  rcases abk.1 hb with hb | hb
  ·exact x1 hb
  ·obtain⟨z,hz,e⟩:=adK.1 hb
   rcases hm z hz with hz | hz
   ·exact x2 (adK.2 ⟨z,hz,e⟩)
   ·exact hz x.g (e▸(fO hi.li x (by simp [hx])).2)
 ·rw [bd]
  rcases hi.bk c wH hc1 with q | q
  ·exact .inl q
  ·exact .inr (base _ _ wH hc1 q)
 ·simp only [aec,abk] at hx
  rcases hx with hx | rfl | hx
  ·exact hi.rg x (by simp [hx])
  ·exact hi.rg x (by simp)
  ·exact hr x hx
theorem Q3 {h h':AH} {A B B':List Kn} {y:Kn} {key:Int} {o:O} {a:An} (hi:kZ h (A++y::B)) (hk:y.k < key) (h5:key < 512) (hy:0<=key) (he:key % 2=0->key % 64=0) (hb:o.aj=7->∀c,0<=c->c < 8->dN c≠key) (ls:sS h key o B a B') (hB:BZ h' y.cW B') (hf:FrA h h' y.cW B):∃L',sS h key o (A++y::B) a L' /\ kZ h' L':=by
 obtain⟨e1,e2,e3⟩:=Fi hk hi.sr
 have wB:kZ h' (A++y::B)->∀{p:Prop},p->p:=fun _ _ h=>h
 have rgB:∀x∈B,0<=x.k /\ x.k < 512 /\ (x.k % 2=0->x.k % 64=0):=fun x hx=>hi.rg x (by simp [hx])
 rcases ls with⟨k6,⟨q1,q2,n,nk,nv,nf,rfl⟩ | ⟨q1,q2,rfl⟩ | ⟨q1,rfl⟩⟩ | ⟨k6,q1,q2,rfl⟩ | ⟨x,q1,q2,⟨q3,rfl⟩ | ⟨q3,rfl⟩⟩
 ·refine⟨A++y::mQ n B,.inl ⟨k6,.inl ⟨by rw [e1];exact q1,q2,n,nk,nv,nf,(e3 n nk).symm⟩⟩,mX hi hB hf (fun z hz=>?_) ?_ (fun x hx=>?_) fun x hx _=>g9.2 (.inr hx)⟩
  ·rcases g9.1 hz with rfl | hz
   ·exact .inr nf
   ·exact .inl hz
  ·rw [<- e3 n nk];exact Ct hi.sr (by rw [nk,e1];exact q1)
  ·rcases g9.1 hx with rfl | hx
   ·omega
   ·exact rgB x hx
 ·exact⟨_,.inl ⟨k6,.inr (.inl ⟨by rw [e1];exact q1,q2,rfl⟩)⟩,mX hi hB hf (fun z hz=>.inl hz) hi.sr rgB fun x hx _=>hx⟩
 ·exact⟨_,.inl ⟨k6,.inr (.inr ⟨q1,rfl⟩)⟩,mX hi hB hf (fun z hz=>.inl hz) hi.sr rgB fun x hx _=>hx⟩
 ·exact⟨_,.inr (.inl ⟨k6,by rw [e1];exact q1,q2,rfl⟩),mX hi hB hf (fun z hz=>.inl hz) hi.sr rgB fun x hx _=>hx⟩
 ·refine⟨A++y::tx key B,.inr (.inr ⟨x,by rw [e1];exact q1,q2,.inl ⟨q3,e2.symm⟩⟩),mX hi hB hf (fun z hz=>.inl (Dw hz)) (by rw [<- e2];exact Pz hi.sr) (fun x hx=>rgB x (Dw hx)) fun z hz ⟨c,c0,c1,hc⟩=>GF (by rw [q1];intro e;cases e) hz (by rw [hc];exact hb q3 c c0 c1)⟩
 ·exact⟨_,.inr (.inr ⟨x,by rw [e1];exact q1,q2,.inr ⟨q3,rfl⟩⟩),mX hi hB hf (fun z hz=>.inl hz) hi.sr rgB fun x hx _=>hx⟩
end
section
open Go Go.Sx Go.Proofs AH
theorem aaY {h:AH} {st:Ad} {l:List Kn} {key v:Int} {w:bm} {n:W} (hi:BZ h st l) (h1:1<=n.af) (hl:h.lv n.af n.gen) (n0:(h.cl n.af 0).bS=key) (nv:(h.cl n.af 1).bS=v) (uO:st.s≠n.af) (hs:∀y∈l,y.s≠n.af) (hw:kY h key st l w) :
 ((h.wr (ay n 2) (dv w.cur)).bG w.prev /\ (h.wr (ay n 2) (dv w.cur)).rd w.prev=w.cur) /\
 BZ ((h.wr (ay n 2) (dv w.cur)).wr w.prev (iC w.cur n)) st (mQ ⟨n.af,n.gen,key,v⟩ l) /\
 ((h.wr (ay n 2) (dv w.cur)).wr w.prev (iC w.cur n)).lv=h.lv /\
 (∀s f,1<=s->s≠n.af->s ∉ l.map Kn.s->¬(s=st.s /\ f=2)->((h.wr (ay n 2) (dv w.cur)).wr w.prev (iC w.cur n)).cl s f=h.cl s f) /\
 (∀f,¬(st.s=0 /\ f=st.f)->((h.wr (ay n 2) (dv w.cur)).wr w.prev (iC w.cur n)).bd f=h.bd f):=by
 obtain⟨SB,AQ,J8,iS,FH⟩:=hi
 have MY:=lC hw
 have MZ:w.prev.s≠n.af:=by
  rcases MY with e | ⟨y,hy,e⟩
  ·rw [e];exact uO
  ·rw [e];exact hs y hy
 refine⟨⟨yk.2 (tK SB J8 hw),by rw [lT,if_neg fun e=>MZ e.1,vn hw]⟩,?_⟩
 generalize e3:(h.wr (ay n 2) (dv w.cur)).wr w.prev (iC w.cur n)=h3
 have l3:h3.lv=h.lv:=by subst e3;rw [de,de]
 have r3:∀b:Ad,h3.rd b=if b.s=w.prev.s /\ b.f=w.prev.f then iC w.cur n else if b.s=n.af /\ b.f=2 then dv w.cur else h.rd b:=fun b=>by
  subst e3;rw [lT,lT];rfl
 have q:∀(H:AH) (s g f:Int),1<=s->H.rd ⟨s,g,f⟩=H.cl s f:=fun H s g f hs=>by unfold rd;rw [if_neg (by show ¬s=0;omega)]
 have n3:∀f,h3.cl n.af f=if f=2 then dv w.cur else h.cl n.af f:=fun f=>by
  have:=r3 ⟨n.af,0,f⟩
  rw [if_neg fun e=>MZ e.1.symm,q _ _ _ _ h1,q _ _ _ _ h1] at this
  rw [this]
  by_cases AQ:f=2
  ·rw [if_pos AQ,if_pos ⟨rfl,AQ⟩]
  ·rw [if_neg AQ,if_neg fun e=>AQ e.2]
 clear e3
 have nin:n.af ∉ l.map Kn.s:=fun hm=>by
  obtain⟨y,hy,e⟩:=adK.1 hm
  exact hs y hy e
 refine⟨⟨?_,AQ,?_,xH iS nin,?_⟩,l3,?_,?_⟩
 ·unfold bG;rw [l3];exact SB
 ·refine Og (n:=⟨n.af,n.gen,key,v⟩) h1 (by rw [l3];exact hl) ?_ ?_ ?_ ?_ (fun b hb hbn=>?_) (fun s g _ hl=>by rw [l3];exact hl) AQ J8 hw FH uO nin iS
  ·show (h3.cl n.af 0).bS=key
   rw [n3,if_neg (by decide)];exact n0
  ·show (h3.cl n.af 1).bS=v
   rw [n3,if_neg (by decide)];exact nv
  ·show h3.cl n.af 2=_
   rw [n3,if_pos rfl]
  ·rw [r3,if_pos ⟨rfl,rfl⟩];exact⟨rfl,rfl,rfl⟩
  ·rw [r3,if_neg hb,if_neg fun e=>hbn e.1]
 ·intro hm
  obtain⟨y,hy,e⟩:=adK.1 hm
  rcases g9.1 hy with rfl | hy
  ·exact uO e.symm
  ·exact FH (adK.2 ⟨y,hy,e⟩)
 ·intro s f hs1 F7 Ho dA
  have hsr:h3.rd ⟨s,0,f⟩=h.rd ⟨s,0,f⟩:=by
   rw [r3,if_neg,if_neg fun e:s=n.af /\ f=2=>F7 e.1]
   rintro ⟨p1,p2⟩
   rcases MY with e | ⟨y,hy,e⟩
   ·rw [e] at p1 p2
    have p1:s=st.s:=p1
    have p2:f=st.f:=p2
    rcases AQ with q | q
    ·exact dA ⟨p1,p2.trans q⟩
    ·omega
   ·rw [e] at p1;exact Ho (adK.2 ⟨y,hy,p1.symm⟩)
  rwa [q _ _ _ _ hs1,q _ _ _ _ hs1] at hsr
 ·intro f dA
  have:=r3 (aV f)
  rw [if_neg (fun e=>?_),if_neg (fun e=>?_)] at this
  ·exact this
  ·have e1:(0:Int)=n.af:=e.1
   omega
  ·obtain⟨p1,p2⟩:=e
   rcases MY with e | ⟨y,hy,e⟩
   ·rw [e] at p1 p2
    exact dA ⟨p1.symm,p2⟩
   ·rw [e] at p1
    have:=(fO J8 y hy).1
    have p1:(0:Int)=y.s:=p1
    omega
def abU (a:An) (j:bW):Cl×bW:=cond (lL (a.Cd != 1) (j.op.aj==8)) (⟨12,gX,ao,ao,0,0,a⟩,{j with answer:=a,pc:=-1,last:=⟨12,gX,ao,ao,0,0,a⟩}) (br (aV 17),{j with answer:=a,pc:=12})
def ED (c:Cl) (j:bW):Cl×bW:=cond (c.aj != 12) (c,j) (abU c.p9 j)
noncomputable def VP (j:bW):Cl×bW:=ED (b6 (js (ay j.base 2,kF j.op.key,j.op)) ⟨ao,false⟩).1 {j with inner:=some (b6 (js (ay j.base 2,kF j.op.key,j.op)) ⟨ao,false⟩).2,pc:=11}
noncomputable def ES (j:bW):Cl×bW:=if j.bucket=j.wanted then VP j else(j9,{j with child:=jU 4 j.wanted j.bucket,pc:=3})
def M6 (j:bW) (w:bm):Cl×bW:=cond w.found (p7 j.node,{j with walk:=some w,sentinel:=dv w.cur,pc:=6}) (cO (ay j.node 2) (dv w.cur),{j with walk:=some w,pc:=7})
section
variable {la:Cl} {o:O} {sz wt bu ch:Int} {ba nd se:W} {wk:Option bm} {ku:Option cM} {an:An} {cn:W}
theorem ai6 (w:bm) (x:cr):bc ⟨5,la,o,sz,wt,bu,ch,ba,nd,se,some w,ku,an,cn⟩ x=cond (aY w x).1.2 ((aY w x).1.1,⟨5,la,o,sz,wt,bu,ch,ba,nd,se,some (aY w x).2,ku,an,cn⟩) (M6 ⟨5,la,o,sz,wt,bu,ch,ba,nd,se,none,ku,an,cn⟩ (aY w x).2):=rfl
theorem ai8 (x:cr):bc ⟨2,la,o,sz,wt,bu,ch,ba,nd,se,wk,ku,an,cn⟩ x=cond (!(x.w.af==0)) (ES ⟨2,la,o,sz,wt,bu,ch,x.w,nd,se,wk,ku,an,cn⟩) (if bu=0 then(⟨12,gX,ao,ao,0,0,⟨4,0⟩⟩,⟨-1,⟨12,gX,ao,ao,0,0,⟨4,0⟩⟩,o,sz,wt,bu,ch,ba,nd,se,wk,ku,an,cn⟩) else(br (aV (eP 8 (qG bu))),⟨2,la,o,sz,wt,qG bu,ch,ba,nd,se,wk,ku,an,cn⟩)):=rfl
theorem ai9 (x:cr):bc ⟨1,la,o,sz,wt,bu,ch,ba,nd,se,wk,ku,an,cn⟩ x=(br (aV (eP 8 (Int.tmod o.key (tE x.w.bS)))),⟨2,la,o,tE x.w.bS,Int.tmod o.key (tE x.w.bS),Int.tmod o.key (tE x.w.bS),ch,ba,nd,se,wk,ku,an,cn⟩):=rfl
theorem ac0 (x:cr):bc ⟨3,la,o,sz,wt,bu,ch,ba,nd,se,wk,ku,an,cn⟩ x=cond (!x.ok) (VP ⟨3,la,o,sz,wt,bu,ch,ba,nd,se,wk,ku,an,cn⟩) (cO (ay x.w 0) (dX (dN ch)),⟨4,la,o,sz,wt,bu,ch,ba,x.w,se,wk,ku,an,cn⟩):=rfl
theorem ai7 (x:cr):bc ⟨4,la,o,sz,wt,bu,ch,ba,nd,se,wk,ku,an,cn⟩ x=bc ⟨5,la,o,sz,wt,bu,ch,ba,nd,se,some (gZ (ay ba 2,dN ch)),ku,an,cn⟩ x:=rfl
theorem ai4 (w:bm) (x:cr):bc ⟨7,la,o,sz,wt,bu,ch,ba,nd,se,some w,ku,an,cn⟩ x=(b5 w.prev w.cur (iC w.cur nd),⟨8,la,o,sz,wt,bu,ch,ba,nd,se,some w,ku,an,cn⟩):=rfl
theorem ai3 (w:W):bc ⟨8,la,o,sz,wt,bu,ch,ba,nd,se,wk,ku,an,cn⟩ ⟨w,true⟩=(br (aV (eP 8 ch)),⟨9,la,o,sz,wt,bu,ch,ba,nd,nd,wk,ku,an,cn⟩):=rfl
theorem ai5 (x:cr):bc ⟨6,la,o,sz,wt,bu,ch,ba,nd,se,wk,ku,an,cn⟩ x=(br (aV (eP 8 ch)),⟨9,la,o,sz,wt,bu,ch,ba,nd,se,wk,ku,an,cn⟩):=rfl
theorem ai2 (x:cr):bc ⟨9,la,o,sz,wt,bu,ch,ba,nd,se,wk,ku,an,cn⟩ x=cond (x.w.af==0) (b5 (aV (eP 8 ch)) x.w (iC x.w se),⟨10,la,o,sz,wt,bu,ch,ba,nd,se,wk,ku,an,cn⟩) (ES ⟨9,la,o,sz,wt,ch,ch,se,nd,se,wk,ku,an,cn⟩):=rfl
theorem ae7 (x:cr):bc ⟨10,la,o,sz,wt,bu,ch,ba,nd,se,wk,ku,an,cn⟩ x=ES ⟨10,la,o,sz,wt,ch,ch,se,nd,se,wk,ku,an,cn⟩:=rfl
theorem ae6 (x:cr):bc ⟨12,la,o,sz,wt,bu,ch,ba,nd,se,wk,ku,an,cn⟩ x=cond (o.aj==7) (b5 (aV 17) x.w (fx x.w (-1)),⟨13,la,o,sz,wt,bu,ch,ba,nd,se,wk,ku,an,x.w⟩) (b5 (aV 17) x.w (fx x.w 1),⟨13,la,o,sz,wt,bu,ch,ba,nd,se,wk,ku,an,x.w⟩):=rfl
theorem ae5 (w:W):bc ⟨13,la,o,sz,wt,bu,ch,ba,nd,se,wk,ku,an,cn⟩ ⟨w,true⟩=cond (lL (o.aj==7) (lL (sz==8) (decide (cn.bS < IntKind.wrap .i64 (2 * sz))))) (⟨12,gX,ao,ao,0,0,an⟩,⟨-1,⟨12,gX,ao,ao,0,0,an⟩,o,sz,wt,bu,ch,ba,nd,se,wk,ku,an,cn⟩) (br (aV 16),⟨14,la,o,sz,wt,bu,ch,ba,nd,se,wk,ku,an,cn⟩):=rfl
theorem ae4 (x:cr):bc ⟨14,la,o,sz,wt,bu,ch,ba,nd,se,wk,ku,an,cn⟩ x=cond (x.w.bS==sz) (b5 (aV 16) x.w (fx x.w sz),⟨15,la,o,sz,wt,bu,ch,ba,nd,se,wk,ku,an,cn⟩) (⟨12,gX,ao,ao,0,0,an⟩,⟨-1,⟨12,gX,ao,ao,0,0,an⟩,o,sz,wt,bu,ch,ba,nd,se,wk,ku,an,cn⟩):=rfl
theorem ae3 (x:cr):bc ⟨15,la,o,sz,wt,bu,ch,ba,nd,se,wk,ku,an,cn⟩ x=(⟨12,gX,ao,ao,0,0,an⟩,⟨-1,⟨12,gX,ao,ao,0,0,an⟩,o,sz,wt,bu,ch,ba,nd,se,wk,ku,an,cn⟩):=rfl
end
end
section
open Go Go.Sx Go.Proofs AH
def o9 (c:Int):Nat:=if c=0 then 0 else if c=1 \/ c=2 \/ c=4 then 1 else if c=7 then 3 else 2
theorem NW:∀w b:Fin 8,jF (w.val:Int) (b.val:Int)=true->b=w \/ (jF (w.val:Int) (jU 4 (w.val:Int) (b.val:Int))=true /\ dN (b.val:Int) < dN (jU 4 (w.val:Int) (b.val:Int)) /\ o9 (jU 4 (w.val:Int) (b.val:Int))=o9 (b.val:Int)+1):=by decide
theorem RR {w b:Int} (h:jF w b=true):b=w \/ (jF w (jU 4 w b)=true /\ dN b < dN (jU 4 w b) /\ o9 (jU 4 w b)=o9 b+1):=by
 obtain⟨h1,h2,h3,h4⟩:=mc h
 have:=NW ⟨w.toNat,by omega⟩ ⟨b.toNat,by omega⟩
 have e1:((w.toNat:Nat):Int)=w:=by omega
 have e2:((b.toNat:Nat):Int)=b:=by omega
 dsimp only at this
 rw [e1,e2] at this
 rcases this h with q | q
 ·left;have:=congrArg Fin.val q;dsimp only at this;omega
 ·exact .inr q
def kf (k b s:Nat):Bool:=match jF (Int.tmod (Int.ofNat k) (Int.ofNat s)) (Int.ofNat b) with | true=>decide (dN (Int.ofNat b) < kF (Int.ofNat k)) | false=>true
theorem agC:O1 (fun k=>O1 (fun b=>match kf k b 1 with | true=>(match kf k b 2 with | true=>(match kf k b 4 with | true=>kf k b 8 | false=>false) | false=>false) | false=>false) 8) 256=true:=by kernel_rfl
theorem Sm {k b n:Int} (hk:DJ k=true) (hb:jF (Int.tmod k (tE n)) b=true):dN b < kF k:=by
 have hk:0<=k /\ k < 256:=aaV hk
 obtain⟨_,_,h3,h4⟩:=mc hb
 have h:=rW (rW agC k.toNat (by omega)) b.toNat (by omega)
 have go:∀s:Nat,tE n=(s:Int)->kf k.toNat b.toNat s=true->dN b < kF k:=fun s hs hf=>by
  unfold kf at hf
  rw [show Int.ofNat k.toNat=k from by simp;omega,show Int.ofNat b.toNat=b from by simp;omega,show Int.ofNat s=tE n from hs.symm,hb] at hf
  exact aaV hf
 split at h
 ·rename_i k1
  split at h
  ·rename_i k2
   split at h
   ·rename_i k4
    rcases q9 n with e | e | e | e
    ·exact go 1 e k1
    ·exact go 2 e k2
    ·exact go 4 e k4
    ·exact go 8 e h
   ·cases h
  ·cases h
 ·cases h
theorem Ii {c:Int}:dN c % 2=0:=by
 unfold dN
 repeat' split
 all_goals decide
theorem PQ {k:Int}:kF k % 2=1:=by unfold kF;omega
theorem E8 {c:Int}:0<=dN c /\ dN c < 512:=by
 unfold dN
 repeat' split
 all_goals decide
theorem acv {c:Int}:dN c % 64=0:=by
 unfold dN
 repeat' split
 all_goals decide
theorem GP {k:Int}:0<=kF k /\ kF k < 512:=by unfold kF akB;omega
def lB (L L1:List Kn):Prop:=∀x:Kn,x.k % 2=1->(x∈L1↔x∈L)
def FA (L:List Kn) (o:O) (a:An) (h':AH):Prop:=∃L1 L' h1,lB L L1 /\ Is L1 /\ sS h1 (kF o.key) o L1 a L' /\ kZ h' L'
theorem Iy {h h':AH} {L:List Kn} (hi:kZ h L) (hc:∀x∈L,h.lv x.s x.g->h'.lv x.s x.g /\ h'.cl x.s 0=h.cl x.s 0 /\ h'.cl x.s 1=h.cl x.s 1 /\ h'.cl x.s 2=h.cl x.s 2) (hb:∀c,0<=c->c < 8->h'.bd (8+c)=h.bd (8+c)):kZ h' L:=by
 have h0:h'.bd 8=h.bd 8:=hb 0 (by decide) (by decide)
 exact⟨by rw [h0];exact jR hi.li hc,hi.nd,hi.sr,by rw [h0];exact hi.b0,fun c c0 c1=>by rw [hb c c0 c1];exact hi.bk c c0 c1,hi.rg⟩
theorem Ix {h:AH} {L:List Kn} (hi:kZ h L) {f:Int} (hf:f=16 \/ f=17) {w:W}:kZ (h.wr (aV f) w) L :=
 Iy hi (fun x _ hl=>⟨hl,rfl,rfl,rfl⟩) fun c c0 c1=>by rw [QS,if_neg (by omega)]
theorem TU {h:AH} {L:List Kn} (hi:kZ h L) {c:Int} (c0:0 < c) (c1:c < 8) {w:W} (hw:Ci L w c):kZ (h.wr (aV (8+c)) w) L:=by
 have h0:(h.wr (aV (8+c)) w).bd 8=h.bd 8:=by rw [QS,if_neg (by omega)]
 refine⟨by rw [h0];exact jR hi.li fun x _ hl=>⟨hl,rfl,rfl,rfl⟩,hi.nd,hi.sr,by rw [h0];exact hi.b0,fun d d0 d1=>?_,hi.rg⟩
 rw [QS]
 by_cases e:8+d=8+c
 ·have e:d=c:=by omega
  subst e
  rw [if_pos rfl];exact .inr hw
 ·rw [if_neg e];exact hi.bk d d0 d1
theorem Rg {h h1:AH} {L L1 L':List Kn} {a:An} {j:bW} (hs:lB L L1) (hr:Is L1) (hl:sS h1 (kF j.op.key) j.op L1 a L') (hi:kZ h L') {b:Bool}:jE bc (FA L j.op) b 6 h (abU a j):=by
 obtain⟨pc,la,o,sz,wt,bu,ch,ba,nd,se,wk,ku,an,cn⟩:=j
 dsimp only at hl
 unfold abU
 have dn:∀{h:AH} {k:Nat} {r:Cl×bW},kZ h L'->r.1.aj=12->r.1.p9=a->jE bc (FA L o) b (k+1) h r:=fun hi e1 e2=>cK e1 ⟨L1,L',h1,hs,hr,by rw [e2];exact hl,hi⟩
 cases lL (a.Cd != 1) (o.aj==8) with
 | true=>exact dn hi rfl rfl
 | false =>
   refine bB (dm (bU (by decide) (by decide)) ?_)
   show jE bc _ _ 5 h (bc ⟨12,la,o,sz,wt,bu,ch,ba,nd,se,wk,ku,a,cn⟩ _)
   rw [ae6]
   have sw:∀{h:AH} {w:W},kZ h L'->jE bc (FA L o) b 4 h (bc ⟨13,la,o,sz,wt,bu,ch,ba,nd,se,wk,ku,a,w⟩ ⟨w,true⟩):=fun {h w} hi=>by
    rw [ae5]
    cases lL (o.aj==7) (lL (sz==8) (decide (w.bS < IntKind.wrap .i64 (2 * sz)))) with
    | true=>exact dn hi rfl rfl
    | false =>
      refine bB (dm (bU (by decide) (by decide)) ?_)
      show jE bc _ _ 3 h (bc ⟨14,la,o,sz,wt,bu,ch,ba,nd,se,wk,ku,a,w⟩ _)
      rw [ae4]
      cases (h.rd (aV 16)).bS==sz with
      | false=>exact dn hi rfl rfl
      | true =>
        refine bB (gG (bU (by decide) (by decide)) rfl ?_)
        show jE bc _ _ 2 _ (bc ⟨15,la,o,sz,wt,bu,ch,ba,nd,se,wk,ku,a,w⟩ _)
        rw [ae3]
        exact dn (Ix hi (.inl rfl)) rfl rfl
   cases o.aj==7 with
   | true=>exact bB (gG (bU (by decide) (by decide)) rfl (sw (Ix hi (.inr rfl))))
   | false=>exact bB (gG (bU (by decide) (by decide)) rfl (sw (Ix hi (.inr rfl))))
theorem Cj {h:AH} {c:Cl} {K:cr->AH->Prop} (hw:h.Wp c K):(c.aj != 12)=true:=by
 cases hk:c.aj != 12 with
 | true=>rfl
 | false =>
   have e:c.aj=12:=by simpa using hk
   unfold Wp at hw
   rw [e] at hw
   simp at hw
theorem Xb {Qi Q:An->AH->Prop} {K:Nat} {la:Cl} {o:O} {sz wt bu ch:Int} {ba nd se:W} {wk:Option bm} {an:An} {cn:W} (hc:∀(b:Bool) a h' l,Qi a h'->jE bc Q b K h' (abU a ⟨11,la,o,sz,wt,bu,ch,ba,nd,se,wk,some l,an,cn⟩))
 {k:Nat} {h:AH} {r:Cl×cM} (hh:b9 b6 Qi k h r):b9 bc Q (k+K) h (ED r.1 ⟨11,la,o,sz,wt,bu,ch,ba,nd,se,wk,some r.2,an,cn⟩):=by
 have go:∀{f k:Nat} {b:Bool} {h:AH} {r:Cl×cM},oT b6 Qi b f k h r->oT bc Q b (f+K+1) (k+K) h (ED r.1 ⟨11,la,o,sz,wt,bu,ch,ba,nd,se,wk,some r.2,an,cn⟩):=fun {f}=>by
  induction f with
  | zero=>exact fun hh=>hh.elim
  | succ f ih =>
    intro k b h r hh
    unfold ED
    rcases hh with⟨e,q⟩ | ⟨hn,⟨e,hw⟩ | ⟨e,e2,hw⟩⟩
    ·rw [e]
     exact eK (fun _ _ h=>h) (by omega) (by omega) id (hc b _ _ _ q)
    ·rw [Cj hw,show f+1+K+1=(f+K+1)+1 by omega]
     exact .inr ⟨abL hn (by omega),.inl ⟨e,AH.wp_mono (fun x h' hx=>eK (fun _ _ h=>h) (abV _) (by show _<=k+K - tq r.1.aj;omega) id (ih hx)) hw⟩⟩
    ·rw [Cj hw,show f+1+K+1=(f+K+1)+1 by omega]
     exact .inr ⟨abL hn (by omega),.inr ⟨e,e2,AH.wp_mono (fun x h' hx=>eK (fun _ _ h=>h) (abV _) (by show _<=k+K - tq r.1.aj;omega) id (ih hx)) hw⟩⟩
 exact pX (go hh)
