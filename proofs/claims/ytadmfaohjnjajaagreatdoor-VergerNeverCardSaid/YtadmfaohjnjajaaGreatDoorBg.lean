import Derived.Test.YtadmfaohjnjajaaGreatDoorBa
set_option linter.unusedVariables false
set_option linter.unusedSimpArgs false
set_option maxHeartbeats 4000000
namespace Go.Proofs.YtadmfaohjnjajaaGreatDoor
section
open Go Go.Sx Go.Proofs AH
set_option maxRecDepth 100000
structure FrA (h h':AH) (st:Ad) (l:List Kn):Prop where
 lv:∀s g,h.lv s g->s ∉ l.map Kn.s->h'.lv s g
 cl:∀s g f,1<=s->h.lv s g->s ∉ l.map Kn.s->¬(s=st.s /\ f=2)->h'.cl s f=h.cl s f
 bd:∀f,¬(st.s=0 /\ f=st.f)->h'.bd f=h.bd f
theorem FrA.refl {h:AH} {st:Ad} {l:List Kn}:FrA h h st l:=⟨fun _ _ h _=>h,fun _ _ _ _ _ _ _=>rfl,fun _ _=>rfl⟩
def pH (h:AH) (key:Int) (o:O) (l:List Kn) (a:An) (l':List Kn):Prop :=
 (o.kind=6 /\ ((At key l=none /\ a=⟨1,0⟩ /\ ∃n:Kn,n.k=key /\ n.v=o.val /\ (∀g,¬h.lv n.s g) /\ l'=jO n l) \/ (At key l≠none /\ a=⟨3,0⟩ /\ l'=l) \/ (a=⟨4,0⟩ /\ l'=l)))
 \/ (o.kind≠6 /\ At key l=none /\ a=⟨2,0⟩ /\ l'=l)
 \/ (∃x,At key l=some x /\ a=⟨1,x.v⟩ /\ ((o.kind=7 /\ l'=nF key l) \/ (o.kind=8 /\ l'=l)))
structure LitOk (h:AH) (st:Ad) (l:List Kn):Prop where
 va:h.valid st
 f2:st.f=2 \/ st.s=0
 li:gb h (h.rd st) l
 nd:(l.map Kn.s).Nodup
 ns:st.s ∉ l.map Kn.s
def Ym (h:AH) (st:Ad) (key:Int) (o:O) (l:List Kn) (a:An) (h':AH):Prop:=∃l',pH h key o l a l' /\ LitOk h' st l' /\ FrA h h' st l
section
variable {la:Cl} {st:Ad} {key:Int} {o:O} {nd:W} {v:Int}
def RA (la:Cl) (st:Ad) (key:Int) (o:O) (nd:W) (v:Int) (w:WalkM):Cl×LitM:=cond w.found (kS nd,⟨5,la,st,key,o,some w,nd,v⟩) (bz (af nd 2) (bP w.cur),⟨6,la,st,key,o,some w,nd,v⟩)
def Gq (la:Cl) (st:Ad) (key:Int) (o:O) (nd:W) (v:Int) (w:WalkM):Cl×LitM:=cond (!w.found) (fx 2 0,⟨-1,fx 2 0,st,key,o,some w,nd,v⟩) (aM (af w.cur 1),⟨2,la,st,key,o,some w,nd,v⟩)
theorem Ma {ky va ta:Int} (w:WalkM) (x:Rp1):bj ⟨4,la,st,key,⟨6,ky,va,ta⟩,some w,nd,v⟩ x=cond (aG w x).1.2 ((aG w x).1.1,⟨4,la,st,key,⟨6,ky,va,ta⟩,some (aG w x).2,nd,v⟩) (RA la st key ⟨6,ky,va,ta⟩ nd v (aG w x).2):=rfl
theorem L8 {ky va ta:Int} (w:WalkM) (x:Rp1):bj ⟨1,la,st,key,⟨7,ky,va,ta⟩,some w,nd,v⟩ x=cond (aG w x).1.2 ((aG w x).1.1,⟨1,la,st,key,⟨7,ky,va,ta⟩,some (aG w x).2,nd,v⟩) (Gq la st key ⟨7,ky,va,ta⟩ nd v (aG w x).2):=rfl
theorem L7 {ky va ta:Int} (w:WalkM) (x:Rp1):bj ⟨1,la,st,key,⟨8,ky,va,ta⟩,some w,nd,v⟩ x=cond (aG w x).1.2 ((aG w x).1.1,⟨1,la,st,key,⟨8,ky,va,ta⟩,some (aG w x).2,nd,v⟩) (Gq la st key ⟨8,ky,va,ta⟩ nd v (aG w x).2):=rfl
end
theorem BW {h:AH} {key:Int} {x0:Kn}:∀{l:List Kn} {a:Ad} {w:WalkM},gr h key a l w->At key l=some x0->a.s ∉ l.map Kn.s->(l.map Kn.s).Nodup->w.prev.s≠x0.s
 | [],a,w,hw,hx,ha,hd=>by cases hx
 | x::l,a,w,hw,hx,ha,hd=>by
   unfold gr at hw
   unfold At at hx
   rw [List.map_cons,List.mem_cons,not_or] at ha
   rw [List.map_cons,List.nodup_cons] at hd
   by_cases hk:key<=x.k
   ·rw [if_pos hk] at hw hx
    split at hx
    ·cases hx;rw [hw.1];exact ha.1
    ·cases hx
   ·rw [if_neg hk] at hw hx
    exact BW hw hx hd.1 hd.2
theorem C1 {h:AH} {st:Ad} {l:List Kn} (hi:LitOk h st l) {key:Int} {o:O} (ho:o.kind=6 \/ o.kind=7 \/ o.kind=8) (x:Rp1):aT bj (Ym h st key o l) (6 * l.length+20) h (bj (fq (st,key,o)) x):=by
 obtain⟨hva,hf2,hli,hnd,hns⟩:=hi
 obtain⟨kd,ky,val,tall⟩:=o
 dsimp only at ho
 rcases ho with rfl | rfl | rfl
 ·show aT bj _ ((6 * l.length+18)+1+1) h (fV,⟨1,aD,st,key,⟨6,ky,val,tall⟩,none,wNil,0⟩)
  refine aA (lR (bq rfl ⟨l,.inl ⟨rfl,.inr (.inr ⟨rfl,rfl⟩)⟩,⟨hva,hf2,hli,hnd,hns⟩,FrA.refl⟩) fun n h1 hf=>?_)
  have lvn:(h.new n.slot n.gen).lv n.slot n.gen:=by show if n.slot=n.slot then n.gen=n.gen else _;rw [if_pos rfl]
  have hs:∀y∈l,y.s≠n.slot:=fun y hy e=>hf y.g (e▸(de hli y hy).2)
  have hst:st.s≠n.slot:=fun e=>by
   rcases hva with q | q
   ·omega
   ·exact hf st.g (e▸q.2.1)
  show aT bj _ _ _ (bz (af n 0) (dt key),⟨2,aD,st,key,⟨6,ky,val,tall⟩,none,n,0⟩)
  refine aA (dO (aE h1 lvn (by decide) (by decide)) ?_)
  show aT bj _ _ _ (bz (af n 1) (dt val),⟨3,aD,st,key,⟨6,ky,val,tall⟩,none,n,0⟩)
  refine aA (dO (aE h1 (by rw [bJ];exact lvn) (by decide) (by decide)) ?_)
  generalize e1:((h.new n.slot n.gen).wr (af n 0) (dt key)).wr (af n 1) (dt val)=h2
  have b2:h2.bd=h.bd:=by subst e1;rw [nD h1,nD h1];rfl
  have c2:∀y k,y≠n.slot->h2.cl y k=h.cl y k:=fun y k hy=>by subst e1;rw [dq h1,if_neg fun e=>hy e.1,dq h1,if_neg fun e=>hy e.1,AH.cl_new,if_neg hy]
  have l2:∀y g,y≠n.slot->(h2.lv y g↔h.lv y g):=fun y g hy=>by subst e1;rw [bJ,bJ,xv,if_neg hy]
  have l2n:h2.lv n.slot n.gen:=by subst e1;rw [bJ,bJ];exact lvn
  have n0:(h2.cl n.slot 0).num=key:=by subst e1;rw [dq h1,if_neg (by rintro ⟨_,e⟩;cases e),dq h1,if_pos ⟨rfl,rfl⟩];rfl
  have n1:(h2.cl n.slot 1).num=val:=by subst e1;rw [dq h1,if_pos ⟨rfl,rfl⟩];rfl
  clear e1
  have r2:∀b:Ad,b.s≠n.slot->h2.rd b=h.rd b:=fun b hb=>by unfold rd;rw [b2];split<;>first | rfl | exact c2 _ _ hb
  have hva2:h2.valid st:=by
   rcases hva with q | q
   ·exact .inl q
   ·exact .inr ⟨q.1,(l2 _ _ hst).2 q.2.1,q.2.2⟩
  have hli2:gb h2 (h2.rd st) l:=by
   rw [r2 _ hst]
   exact fM hli fun y hy hyl=>⟨(l2 _ _ (hs y hy)).2 hyl,c2 _ _ (hs y hy),c2 _ _ (hs y hy),c2 _ _ (hs y hy)⟩
  show aT bj _ _ _ (bj ⟨4,aD,st,key,⟨6,ky,val,tall⟩,some (dS (st,key)),n,0⟩ ⟨wNil,true⟩)
  refine aP (fun _ _ h=>h) (by omega:(6 * l.length+2)+5<=_) (qM Ma (fun w hw=>?_) (qN hva2 hli2))
  have hfd:=jm hli2 hw
  unfold RA
  cases hat:At key l with
  | some x0 =>
    rw [hat] at hfd
    rw [hfd.1]
    refine aA (AL h1 l2n ?_)
    refine bq rfl ⟨l,.inl ⟨rfl,.inr (.inl ⟨(by rw [hat];intro e;cases e),rfl,rfl⟩)⟩,⟨?_,hf2,?_,hnd,hns⟩,?_,?_,?_⟩
    ·rcases hva2 with q | q
     ·exact .inl q
     ·exact .inr ⟨q.1,⟨hst,q.2.1⟩,q.2.2⟩
    ·exact fM hli2 fun y hy hyl=>⟨⟨hs y hy,hyl⟩,rfl,rfl,rfl⟩
    ·exact fun s g hl _=>⟨fun e=>hf g (e▸hl),(l2 _ _ fun e=>hf g (e▸hl)).2 hl⟩
    ·exact fun s g f _ hl _ _=>c2 _ _ fun e=>hf g (e▸hl)
    ·exact fun f _=>congrFun b2 f
  | none =>
    rw [hat] at hfd
    have hfd:w.found=false:=hfd
    rw [hfd]
    have hpv:=gD hw
    have hps:w.prev.s≠n.slot:=by
     rcases hpv with e | ⟨y,hy,e⟩
     ·rw [e];exact hst
     ·rw [e];exact hs y hy
    refine aA (dO (aE h1 l2n (by decide) (by decide)) ?_)
    show aT bj _ _ _ (bf w.prev w.cur (wTo w.cur n),⟨7,aD,st,key,⟨6,ky,val,tall⟩,some w,n,0⟩)
    refine aA (dH (qS.2 (nG hva2 hli2 hw)) ?_ ?_)
    ·rw [gP,if_neg fun e=>hps e.1,oO hw]
    generalize e3:(h2.wr (af n 2) (bP w.cur)).wr w.prev (wTo w.cur n)=h3
    have l3:h3.lv=h2.lv:=by subst e3;rw [bJ,bJ]
    have r3:∀b:Ad,h3.rd b=if b.s=w.prev.s /\ b.f=w.prev.f then wTo w.cur n else if b.s=n.slot /\ b.f=2 then bP w.cur else h2.rd b:=fun b=>by
     subst e3;rw [gP,gP];rfl
    have n3:∀f,h3.cl n.slot f=if f=2 then bP w.cur else h2.cl n.slot f:=fun f=>by
     have:=r3 ⟨n.slot,0,f⟩
     rw [if_neg fun e=>hps e.1.symm] at this
     have q:∀H:AH,H.rd ⟨n.slot,0,f⟩=H.cl n.slot f:=fun H=>by unfold rd;rw [if_neg (by show ¬n.slot=0;omega)]
     rw [q,q] at this
     rw [this]
     by_cases hf2:f=2
     ·rw [if_pos hf2,if_pos ⟨rfl,hf2⟩]
     ·rw [if_neg hf2,if_neg fun e=>hf2 e.2]
    clear e3
    have nin:n.slot ∉ l.map Kn.s:=fun hm=>by
     obtain⟨y,hy,e⟩:=List.mem_map.1 hm
     exact hs y hy e
    refine bq rfl ⟨jO ⟨n.slot,n.gen,key,val⟩ l,.inl ⟨rfl,.inl ⟨hat,rfl,⟨n.slot,n.gen,key,val⟩,rfl,rfl,hf,rfl⟩⟩,⟨?_,hf2,?_,qx hnd nin,?_⟩,?_,?_,?_⟩
    ·unfold valid;rw [l3];exact hva2
    ·refine EX (n:=⟨n.slot,n.gen,key,val⟩) h1 (by rw [l3];exact l2n) ?_ ?_ ?_ ?_ (fun b hb hbn=>?_) (fun s g _ hl=>by rw [l3];exact hl) hf2 hli2 hw hns hst nin hnd
     ·show (h3.cl n.slot 0).num=key
      rw [n3,if_neg (by decide)];exact n0
     ·show (h3.cl n.slot 1).num=val
      rw [n3,if_neg (by decide)];exact n1
     ·show h3.cl n.slot 2=_
      rw [n3,if_pos rfl]
     ·rw [r3,if_pos ⟨rfl,rfl⟩];exact⟨rfl,rfl,rfl⟩
     ·rw [r3,if_neg hb,if_neg fun e=>hbn e.1]
    ·intro hm
     obtain⟨y,hy,e⟩:=List.mem_map.1 hm
     rcases dU.1 hy with rfl | hy
     ·exact hst e.symm
     ·exact hns (List.mem_map.2 ⟨y,hy,e⟩)
    ·exact fun s g hl _=>by rw [l3];exact(l2 _ _ fun e=>hf g (e▸hl)).2 hl
    ·intro s g f hs1 hl hsl hne
     have hsn:s≠n.slot:=fun e=>hf g (e▸hl)
     have hsr:h3.rd ⟨s,g,f⟩=h2.rd ⟨s,g,f⟩:=by
      rw [r3,if_neg,if_neg fun e=>hsn e.1]
      rintro ⟨p1,p2⟩
      rcases hpv with e | ⟨y,hy,e⟩
      ·rw [e] at p1 p2
       have p1:s=st.s:=p1
       have p2:f=st.f:=p2
       rcases hf2 with q | q
       ·exact hne ⟨p1,p2.trans q⟩
       ·omega
      ·rw [e] at p1;exact hsl (List.mem_map.2 ⟨y,hy,p1.symm⟩)
     have q:∀H:AH,H.rd ⟨s,g,f⟩=H.cl s f:=fun H=>by unfold rd;rw [if_neg (by show ¬s=0;omega)]
     rw [q,q] at hsr
     rw [hsr];exact c2 _ _ hsn
    ·intro f hne
     have:=r3 (aC f)
     rw [if_neg (fun e=>?_),if_neg (fun e=>?_)] at this
     ·exact this.trans (congrFun b2 f)
     ·have e1:(0:Int)=n.slot:=e.1
      omega
     ·obtain⟨p1,p2⟩:=e
      rcases hpv with e | ⟨y,hy,e⟩
      ·rw [e] at p1 p2
       exact hne ⟨p1.symm,p2⟩
      ·rw [e] at p1
       have:=(de hli y hy).1
       have p1:(0:Int)=y.s:=p1
       omega
 ·show aT bj _ _ _ (bj ⟨1,aD,st,key,⟨7,ky,val,tall⟩,some (dS (st,key)),wNil,0⟩ x)
  refine aP (fun _ _ h=>h) (by omega:(6 * l.length+2)+8<=_) (qM L8 (fun w hw=>?_) (qN hva hli))
  have hfd:=jm hli hw
  unfold Gq
  cases hat:At key l with
  | none =>
    rw [hat] at hfd
    have hfd:w.found=false:=hfd
    rw [hfd]
    exact bq rfl ⟨l,.inr (.inl ⟨by show (7:Int)≠6;decide,hat,rfl,rfl⟩),⟨hva,hf2,hli,hnd,hns⟩,FrA.refl⟩
  | some x0 =>
    rw [hat] at hfd
    obtain⟨fd,q1,q2,q3,q4,q5,q6⟩:=hfd
    rw [fd]
    have c1:1<=w.cur.slot:=by omega
    have cl:h.lv w.cur.slot w.cur.gen:=by rw [q1,q2];exact q5
    have hx0:=List.mem_map_of_mem (f:=Kn.s) (yz hat).1
    have hpx:w.prev.s≠x0.s:=BW hw hat hns hnd
    refine aA (bI (aE c1 cl (by decide) (by decide)) ?_)
    have hv:(h.rd (af w.cur 1)).num=x0.v:=by rw [bQ c1,q1];exact q6
    show aT bj _ _ _ (bf (af w.cur 2) w.next (jc w.next),⟨3,aD,st,key,⟨7,ky,val,tall⟩,some w,wNil,(h.rd (af w.cur 1)).num⟩)
    rw [hv]
    refine aA (dH (aE c1 cl (by decide) (by decide)) (by rw [bQ c1,q1,q3]) ?_)
    show aT bj _ _ _ (bf w.prev w.cur (wTo w.cur w.next),⟨4,aD,st,key,⟨7,ky,val,tall⟩,some w,wNil,x0.v⟩)
    refine aA (dH (qS.2 (nG hva hli hw)) ?_ ?_)
    ·rw [gP,if_neg (fun e=>hpx (e.1.trans q1)),oO hw]
    show aT bj _ _ _ (fP w.cur,⟨5,aD,st,key,⟨7,ky,val,tall⟩,some w,wNil,x0.v⟩)
    refine aA (oP c1 (by rw [bJ,bJ];exact cl) ?_)
    generalize e3:(((h.wr (af w.cur 2) (jc w.next)).wr w.prev (wTo w.cur w.next)).del w.cur.slot)=h3
    have l3:∀s g,h3.lv s g↔(s≠x0.s /\ h.lv s g):=fun s g=>by subst e3;show _ /\ _↔_;rw [bJ,bJ,q1]
    have r3:∀b:Ad,h3.rd b=if b.s=w.prev.s /\ b.f=w.prev.f then wTo w.cur w.next else if b.s=x0.s /\ b.f=2 then jc w.next else h.rd b:=fun b=>by
     subst e3;rw [SM,gP,gP,<- q1];rfl
    clear e3
    have hpv:=gD hw
    refine bq rfl ⟨nF key l,.inr (.inr ⟨x0,hat,rfl,.inl ⟨rfl,rfl⟩⟩),⟨?_,hf2,?_,?_,?_⟩,?_,?_,?_⟩
    ·rcases hva with q | q
     ·exact .inl q
     ·exact .inr ⟨q.1,(l3 _ _).2 ⟨fun e=>hns (e▸hx0),q.2.1⟩,q.2.2⟩
    ·refine KT (x0:=x0) ?_ (fun b hb hbn=>?_) (fun s g hs hl=>(l3 _ _).2 ⟨hs,hl⟩) hf2 hli hw hat hns hnd
     ·rw [r3,if_pos ⟨rfl,rfl⟩];exact⟨rfl,rfl,rfl⟩
     ·rw [r3,if_neg hb,if_neg fun e=>hbn e.1]
    ·exact hnd.sublist (remK_sub.map _)
    ·exact fun hm=>hns ((remK_sub.map Kn.s).subset hm)
    ·exact fun s g hl hsl=>(l3 _ _).2 ⟨fun e=>hsl (e▸hx0),hl⟩
    ·intro s g f hs1 hl hsl hne
     have hsr:h3.rd ⟨s,g,f⟩=h.rd ⟨s,g,f⟩:=by
      rw [r3,if_neg,if_neg fun e:s=x0.s /\ f=2=>hsl (e.1▸hx0)]
      rintro ⟨p1,p2⟩
      rcases hpv with e | ⟨y,hy,e⟩
      ·rw [e] at p1 p2
       have p1:s=st.s:=p1
       have p2:f=st.f:=p2
       rcases hf2 with q | q
       ·exact hne ⟨p1,p2.trans q⟩
       ·omega
      ·rw [e] at p1;exact hsl (List.mem_map.2 ⟨y,hy,p1.symm⟩)
     have q:∀H:AH,H.rd ⟨s,g,f⟩=H.cl s f:=fun H=>by unfold rd;rw [if_neg (by show ¬s=0;omega)]
     rw [q,q] at hsr
     exact hsr
    ·intro f hne
     have:=r3 (aC f)
     rw [if_neg (fun e=>?_),if_neg (fun e=>?_)] at this
     ·exact this
     ·have e1:(0:Int)=x0.s:=e.1
      omega
     ·obtain⟨p1,p2⟩:=e
      rcases hpv with e | ⟨y,hy,e⟩
      ·rw [e] at p1 p2
       exact hne ⟨p1.symm,p2⟩
      ·rw [e] at p1
       have:=(de hli y hy).1
       have p1:(0:Int)=y.s:=p1
       omega
 ·show aT bj _ _ _ (bj ⟨1,aD,st,key,⟨8,ky,val,tall⟩,some (dS (st,key)),wNil,0⟩ x)
  refine aP (fun _ _ h=>h) (by omega:(6 * l.length+2)+8<=_) (qM L7 (fun w hw=>?_) (qN hva hli))
  have hfd:=jm hli hw
  unfold Gq
  cases hat:At key l with
  | none =>
    rw [hat] at hfd
    have hfd:w.found=false:=hfd
    rw [hfd]
    exact bq rfl ⟨l,.inr (.inl ⟨by show (8:Int)≠6;decide,hat,rfl,rfl⟩),⟨hva,hf2,hli,hnd,hns⟩,FrA.refl⟩
  | some x0 =>
    rw [hat] at hfd
    obtain⟨fd,q1,q2,q3,q4,q5,q6⟩:=hfd
    rw [fd]
    have c1:1<=w.cur.slot:=by omega
    have cl:h.lv w.cur.slot w.cur.gen:=by rw [q1,q2];exact q5
    refine aA (bI (aE c1 cl (by decide) (by decide)) ?_)
    have hv:(h.rd (af w.cur 1)).num=x0.v:=by rw [bQ c1,q1];exact q6
    refine bq rfl ⟨l,.inr (.inr ⟨x0,hat,?_,.inr ⟨rfl,rfl⟩⟩),⟨hva,hf2,hli,hnd,hns⟩,FrA.refl⟩
    show (⟨1,(h.rd (af w.cur 1)).num⟩:An)=_
    rw [hv]
end
section
open Go Go.Sx Go.Proofs AH
set_option maxRecDepth 100000
def Srt (l:List Kn):Prop:=l.Pairwise fun a b=>a.k < b.k
theorem vk {n:Kn}:∀{l:List Kn},Srt l->At n.k l=none->Srt (jO n l)
 | [],_,_=>by simp [jO,Srt]
 | x::l,hs,ha=>by
   unfold jO
   unfold At at ha
   have hs0:=hs
   unfold Srt at hs
   rw [List.pairwise_cons] at hs
   by_cases hk:n.k<=x.k
   ·rw [if_pos hk] at ha ⊢
    have hne:x.k≠n.k:=fun e=>by rw [if_pos e] at ha;cases ha
    unfold Srt
    rw [List.pairwise_cons]
    refine⟨fun y hy=>?_,hs0⟩
    rcases List.mem_cons.1 hy with rfl | hy
    ·omega
    ·have:=hs.1 y hy;omega
   ·rw [if_neg hk] at ha ⊢
    unfold Srt
    rw [List.pairwise_cons]
    refine⟨fun y hy=>?_,vk hs.2 ha⟩
    rcases dU.1 hy with rfl | hy
    ·omega
    ·exact hs.1 y hy
theorem Gd {key:Int} {l:List Kn} (hs:Srt l):Srt (nF key l):=List.Pairwise.sublist remK_sub hs
theorem yA {key:Int} {y:Kn} {B:List Kn} (hy:y.k < key):∀{A:List Kn},Srt (A++y::B)->At key (A++y::B)=At key B /\ nF key (A++y::B)=A++y::nF key B /\ ∀n:Kn,n.k=key->jO n (A++y::B)=A++y::jO n B
 | [],_=>by
   refine⟨?_,?_,fun n hn=>?_⟩
   ·show At key (y::B)=_
    rw [At,if_neg (by omega)]
   ·show nF key (y::B)=_
    rw [nF,if_neg (by omega)];rfl
   ·show jO n (y::B)=_
    rw [jO,if_neg (by omega)];rfl
 | x::A,hs=>by
   rw [List.cons_append] at hs
   unfold Srt at hs
   rw [List.pairwise_cons] at hs
   have hx:=hs.1 y (by simp)
   obtain⟨a1,a2,a3⟩:=yA hy hs.2
   refine⟨?_,?_,fun n hn=>?_⟩
   ·show At key (x::(A++y::B))=_
    rw [At,if_neg (by omega)];exact a1
   ·show nF key (x::(A++y::B))=_
    rw [nF,if_neg (by omega),a2];rfl
   ·show jO n (x::(A++y::B))=_
    rw [jO,if_neg (by omega),a3 n hn];rfl
theorem A7:∀{l:List Kn} {lo:Int} {n:Nat},Srt l->(∀x∈l,lo<=x.k /\ x.k < lo+n)->l.length<=n
 | [],_,_,_,_=>Nat.zero_le _
 | x::l,lo,n,hs,hr=>by
   unfold Srt at hs
   rw [List.pairwise_cons] at hs
   have hx:=hr x List.mem_cons_self
   have:=A7 (lo:=x.k+1) (n:=(lo+n - x.k - 1).toNat) hs.2 fun y hy=>by
    have:=hs.1 y hy
    have:=hr y (List.mem_cons_of_mem _ hy)
    omega
   rw [List.length_cons]
   omega
theorem wN {key:Int} {l:List Kn} {x:Kn} (h:x∈nF key l):x∈l:=remK_sub.subset h
theorem zg {key:Int}:∀{l:List Kn} {x:Kn},At key l≠none->x∈l->x.k≠key->x∈nF key l
 | y::l,x,ha,hx,hk=>by
   unfold nF
   unfold At at ha
   by_cases hy:key<=y.k
   ·rw [if_pos hy] at ha ⊢
    split at ha
    ·rcases List.mem_cons.1 hx with rfl | hx
     ·contradiction
     ·exact hx
    ·exact absurd rfl ha
   ·rw [if_neg hy] at ha ⊢
    rcases List.mem_cons.1 hx with rfl | hx
    ·exact List.mem_cons_self
    ·exact List.mem_cons_of_mem _ (zg ha hx hk)
end
section
open Go Go.Sx Go.Proofs AH
set_option maxRecDepth 100000
def vc (L:List Kn) (w:W) (c:Int):Prop:=∃y∈L,w.slot=y.s /\ w.gen=y.g /\ y.k=b4 c
structure VInv (h:AH) (L:List Kn):Prop where
 li:gb h (bP (h.bd 8)) L
 nd:(L.map Kn.s).Nodup
 sr:Srt L
 b0:vc L (h.bd 8) 0
 bk:∀c,0<=c->c < 8->(h.bd (8+c)).slot=0 \/ vc L (h.bd (8+c)) c
 rg:∀x∈L,0<=x.k /\ x.k < 512
theorem zG {h:AH} {y:Kn} {B:List Kn}:∀{A:List Kn} {w:W},gb h w (A++y::B)->gb h (h.cl y.s 2) B
 | [],w,⟨a,b,m,c,d,e0,e1,f⟩=>f
 | x::A,w,⟨a,b,m,c,d,e0,e1,f⟩=>zG f
theorem xF {h h':AH} {y:Kn} {B B':List Kn} (hl:h'.lv y.s y.g) (h0:h'.cl y.s 0=h.cl y.s 0) (h1:h'.cl y.s 1=h.cl y.s 1) (hB:gb h' (h'.cl y.s 2) B'):∀{A:List Kn} {w:W},gb h w (A++y::B)->(∀x∈A,h.lv x.s x.g->h'.lv x.s x.g /\ h'.cl x.s 0=h.cl x.s 0 /\ h'.cl x.s 1=h.cl x.s 1 /\ h'.cl x.s 2=h.cl x.s 2)->gb h' w (A++y::B')
 | [],w,⟨a,b,m,c,d,e0,e1,f⟩,_=>⟨a,b,m,c,hl,by rw [h0];exact e0,by rw [h1];exact e1,hB⟩
 | x::A,w,⟨a,b,m,c,d,e0,e1,f⟩,hf=>by
   obtain⟨f1,f0,f2,f3⟩:=hf x List.mem_cons_self d
   exact⟨a,b,m,c,f1,by rw [f0];exact e0,by rw [f2];exact e1,by rw [f3];exact xF hl h0 h1 hB f fun z hz=>hf z (List.mem_cons_of_mem _ hz)⟩
theorem LM {A B:List Kn} {y:Kn} (h:((A++y::B).map Kn.s).Nodup):(B.map Kn.s).Nodup /\ y.s ∉ B.map Kn.s /\ (∀x∈A,x.s≠y.s /\ x.s ∉ B.map Kn.s) /\ (A.map Kn.s).Nodup:=by
 rw [List.map_append,List.nodup_append,List.map_cons,List.nodup_cons] at h
 obtain⟨h1,⟨h2,h3⟩,h4⟩:=h
 exact⟨h3,h2,fun x hx=>⟨h4 _ (List.mem_map_of_mem hx) _ List.mem_cons_self,fun hm=>h4 _ (List.mem_map_of_mem hx) _ (List.mem_cons_of_mem _ hm) rfl⟩,h1⟩
theorem B2 {h:AH} {A B:List Kn} {y:Kn} (hi:VInv h (A++y::B)):LitOk h y.adr B:=by
 obtain⟨c1,c2⟩:=de hi.li y (by simp)
 obtain⟨n1,n2,_,_⟩:=LM hi.nd
 exact⟨.inr ⟨c1,c2,by show (0:Int)<=2;decide,by show (2:Int) < 8;decide⟩,.inl rfl,by rw [Bc c1];exact zG hi.li,n1,n2⟩
theorem iJ {h h':AH} {A B B':List Kn} {y:Kn} (hi:VInv h (A++y::B)) (hB:LitOk h' y.adr B') (hf:FrA h h' y.adr B) (hm:∀z∈B',z∈B \/ ∀g,¬h.lv z.s g) (hs:Srt (A++y::B')) (hr:∀x∈B',0<=x.k /\ x.k < 512) (hk:∀x∈B,(∃c,0<=c /\ c < 8 /\ x.k=b4 c)->x∈B'):VInv h' (A++y::B'):=by
 obtain⟨c1,c2⟩:=de hi.li y (by simp)
 obtain⟨n1,n2,n3,n4⟩:=LM hi.nd
 have bd:∀f,h'.bd f=h.bd f:=fun f=>hf.bd f fun e=>by have e:y.s=0:=e.1;omega
 have keep:∀x∈A++y::B,(∃c,0<=c /\ c < 8 /\ x.k=b4 c)->x∈A++y::B':=fun x hx hc=>by
  simp only [List.mem_append,List.mem_cons] at hx ⊢
  rcases hx with hx | hx | hx
  ·exact .inl hx
  ·exact .inr (.inl hx)
  ·exact .inr (.inr (hk x hx hc))
 have base:∀w c,0<=c->c < 8->vc (A++y::B) w c->vc (A++y::B') w c:=fun w c hc0 hc1 ⟨z,hz,q1,q2,q3⟩=>⟨z,keep z hz ⟨c,hc0,hc1,q3⟩,q1,q2,q3⟩
 refine⟨?_,?_,hs,by rw [bd];exact base _ _ (by decide) (by decide) hi.b0,fun c hc0 hc1=>?_,fun x hx=>?_⟩
 ·rw [bd]
  refine xF (hf.lv _ _ c2 n2) (hf.cl _ _ _ c1 c2 n2 fun e=>by cases e.2) (hf.cl _ _ _ c1 c2 n2 fun e=>by cases e.2) (by rw [<- Bc c1];exact hB.li) hi.li fun x hx hxl=>?_
  obtain⟨x1,x2⟩:=n3 x hx
  have xs:=(de hi.li x (by simp [hx])).1
  exact⟨hf.lv _ _ hxl x2,hf.cl _ _ _ xs hxl x2 fun e=>x1 e.1,hf.cl _ _ _ xs hxl x2 fun e=>x1 e.1,hf.cl _ _ _ xs hxl x2 fun e=>x1 e.1⟩
 ·rw [List.map_append,List.nodup_append,List.map_cons,List.nodup_cons]
  refine⟨n4,⟨hB.ns,hB.nd⟩,fun a ha b hb e=>?_⟩
  subst e
  obtain⟨x,hx,rfl⟩:=List.mem_map.1 ha
  obtain⟨x1,x2⟩:=n3 x hx
  rcases List.mem_cons.1 hb with hb | hb
  ·exact x1 hb
  ·obtain⟨z,hz,e⟩:=List.mem_map.1 hb
   rcases hm z hz with hz | hz
   ·exact x2 (List.mem_map.2 ⟨z,hz,e⟩)
   ·exact hz x.g (e▸(de hi.li x (by simp [hx])).2)
 ·rw [bd]
  rcases hi.bk c hc0 hc1 with q | q
  ·exact .inl q
  ·exact .inr (base _ _ hc0 hc1 q)
 ·simp only [List.mem_append,List.mem_cons] at hx
  rcases hx with hx | rfl | hx
  ·exact hi.rg x (by simp [hx])
  ·exact hi.rg x (by simp)
  ·exact hr x hx
theorem Hm {h h':AH} {A B B':List Kn} {y:Kn} {key:Int} {o:O} {a:An} (hi:VInv h (A++y::B)) (hk:y.k < key) (h5:key < 512) (hy:0<=key) (hb:o.kind=7->∀c,0<=c->c < 8->b4 c≠key) (ls:pH h key o B a B') (hB:LitOk h' y.adr B') (hf:FrA h h' y.adr B):∃L',pH h key o (A++y::B) a L' /\ VInv h' L':=by
 obtain⟨e1,e2,e3⟩:=yA hk hi.sr
 have same:VInv h' (A++y::B)->∀{p:Prop},p->p:=fun _ _ h=>h
 have rgB:∀x∈B,0<=x.k /\ x.k < 512:=fun x hx=>hi.rg x (by simp [hx])
 rcases ls with⟨k6,⟨q1,q2,n,nk,nv,nf,rfl⟩ | ⟨q1,q2,rfl⟩ | ⟨q1,rfl⟩⟩ | ⟨k6,q1,q2,rfl⟩ | ⟨x,q1,q2,⟨q3,rfl⟩ | ⟨q3,rfl⟩⟩
 ·refine⟨A++y::jO n B,.inl ⟨k6,.inl ⟨by rw [e1];exact q1,q2,n,nk,nv,nf,(e3 n nk).symm⟩⟩,iJ hi hB hf (fun z hz=>?_) ?_ (fun x hx=>?_) fun x hx _=>dU.2 (.inr hx)⟩
  ·rcases dU.1 hz with rfl | hz
   ·exact .inr nf
   ·exact .inl hz
  ·rw [<- e3 n nk];exact vk hi.sr (by rw [nk,e1];exact q1)
  ·rcases dU.1 hx with rfl | hx
   ·omega
   ·exact rgB x hx
 ·exact⟨_,.inl ⟨k6,.inr (.inl ⟨by rw [e1];exact q1,q2,rfl⟩)⟩,iJ hi hB hf (fun z hz=>.inl hz) hi.sr rgB fun x hx _=>hx⟩
 ·exact⟨_,.inl ⟨k6,.inr (.inr ⟨q1,rfl⟩)⟩,iJ hi hB hf (fun z hz=>.inl hz) hi.sr rgB fun x hx _=>hx⟩
 ·exact⟨_,.inr (.inl ⟨k6,by rw [e1];exact q1,q2,rfl⟩),iJ hi hB hf (fun z hz=>.inl hz) hi.sr rgB fun x hx _=>hx⟩
 ·refine⟨A++y::nF key B,.inr (.inr ⟨x,by rw [e1];exact q1,q2,.inl ⟨q3,e2.symm⟩⟩),iJ hi hB hf (fun z hz=>.inl (wN hz)) (by rw [<- e2];exact Gd hi.sr) (fun x hx=>rgB x (wN hx)) fun z hz ⟨c,c0,c1,hc⟩=>zg (by rw [q1];intro e;cases e) hz (by rw [hc];exact hb q3 c c0 c1)⟩
 ·exact⟨_,.inr (.inr ⟨x,by rw [e1];exact q1,q2,.inr ⟨q3,rfl⟩⟩),iJ hi hB hf (fun z hz=>.inl hz) hi.sr rgB fun x hx _=>hx⟩
end
section
open Go Go.Sx Go.Proofs AH
set_option maxRecDepth 100000
theorem Ps {h:AH} {st:Ad} {l:List Kn} {key v:Int} {w:WalkM} {n:W} (hi:LitOk h st l) (h1:1<=n.slot) (hl:h.lv n.slot n.gen) (n0:(h.cl n.slot 0).num=key) (nv:(h.cl n.slot 1).num=v) (hst:st.s≠n.slot) (hs:∀y∈l,y.s≠n.slot) (hw:gr h key st l w) :
 ((h.wr (af n 2) (bP w.cur)).valid w.prev /\ (h.wr (af n 2) (bP w.cur)).rd w.prev=w.cur) /\
 LitOk ((h.wr (af n 2) (bP w.cur)).wr w.prev (wTo w.cur n)) st (jO ⟨n.slot,n.gen,key,v⟩ l) /\
 ((h.wr (af n 2) (bP w.cur)).wr w.prev (wTo w.cur n)).lv=h.lv /\
 (∀s f,1<=s->s≠n.slot->s ∉ l.map Kn.s->¬(s=st.s /\ f=2)->((h.wr (af n 2) (bP w.cur)).wr w.prev (wTo w.cur n)).cl s f=h.cl s f) /\
 (∀f,¬(st.s=0 /\ f=st.f)->((h.wr (af n 2) (bP w.cur)).wr w.prev (wTo w.cur n)).bd f=h.bd f):=by
 obtain⟨hva,hf2,hli,hnd,hns⟩:=hi
 have hpv:=gD hw
 have hps:w.prev.s≠n.slot:=by
  rcases hpv with e | ⟨y,hy,e⟩
  ·rw [e];exact hst
  ·rw [e];exact hs y hy
 refine⟨⟨qS.2 (nG hva hli hw),by rw [gP,if_neg fun e=>hps e.1,oO hw]⟩,?_⟩
 generalize e3:(h.wr (af n 2) (bP w.cur)).wr w.prev (wTo w.cur n)=h3
 have l3:h3.lv=h.lv:=by subst e3;rw [bJ,bJ]
 have r3:∀b:Ad,h3.rd b=if b.s=w.prev.s /\ b.f=w.prev.f then wTo w.cur n else if b.s=n.slot /\ b.f=2 then bP w.cur else h.rd b:=fun b=>by
  subst e3;rw [gP,gP];rfl
 have q:∀(H:AH) (s g f:Int),1<=s->H.rd ⟨s,g,f⟩=H.cl s f:=fun H s g f hs=>by unfold rd;rw [if_neg (by show ¬s=0;omega)]
 have n3:∀f,h3.cl n.slot f=if f=2 then bP w.cur else h.cl n.slot f:=fun f=>by
  have:=r3 ⟨n.slot,0,f⟩
  rw [if_neg fun e=>hps e.1.symm,q _ _ _ _ h1,q _ _ _ _ h1] at this
  rw [this]
  by_cases hf2:f=2
  ·rw [if_pos hf2,if_pos ⟨rfl,hf2⟩]
  ·rw [if_neg hf2,if_neg fun e=>hf2 e.2]
 clear e3
 have nin:n.slot ∉ l.map Kn.s:=fun hm=>by
  obtain⟨y,hy,e⟩:=List.mem_map.1 hm
  exact hs y hy e
 refine⟨⟨?_,hf2,?_,qx hnd nin,?_⟩,l3,?_,?_⟩
 ·unfold valid;rw [l3];exact hva
 ·refine EX (n:=⟨n.slot,n.gen,key,v⟩) h1 (by rw [l3];exact hl) ?_ ?_ ?_ ?_ (fun b hb hbn=>?_) (fun s g _ hl=>by rw [l3];exact hl) hf2 hli hw hns hst nin hnd
  ·show (h3.cl n.slot 0).num=key
   rw [n3,if_neg (by decide)];exact n0
  ·show (h3.cl n.slot 1).num=v
   rw [n3,if_neg (by decide)];exact nv
  ·show h3.cl n.slot 2=_
   rw [n3,if_pos rfl]
  ·rw [r3,if_pos ⟨rfl,rfl⟩];exact⟨rfl,rfl,rfl⟩
  ·rw [r3,if_neg hb,if_neg fun e=>hbn e.1]
 ·intro hm
  obtain⟨y,hy,e⟩:=List.mem_map.1 hm
  rcases dU.1 hy with rfl | hy
  ·exact hst e.symm
  ·exact hns (List.mem_map.2 ⟨y,hy,e⟩)
 ·intro s f hs1 hsn hsl hne
  have hsr:h3.rd ⟨s,0,f⟩=h.rd ⟨s,0,f⟩:=by
   rw [r3,if_neg,if_neg fun e:s=n.slot /\ f=2=>hsn e.1]
   rintro ⟨p1,p2⟩
   rcases hpv with e | ⟨y,hy,e⟩
   ·rw [e] at p1 p2
    have p1:s=st.s:=p1
    have p2:f=st.f:=p2
    rcases hf2 with q | q
    ·exact hne ⟨p1,p2.trans q⟩
    ·omega
   ·rw [e] at p1;exact hsl (List.mem_map.2 ⟨y,hy,p1.symm⟩)
  rwa [q _ _ _ _ hs1,q _ _ _ _ hs1] at hsr
 ·intro f hne
  have:=r3 (aC f)
  rw [if_neg (fun e=>?_),if_neg (fun e=>?_)] at this
  ·exact this
  ·have e1:(0:Int)=n.slot:=e.1
   omega
  ·obtain⟨p1,p2⟩:=e
   rcases hpv with e | ⟨y,hy,e⟩
   ·rw [e] at p1 p2
    exact hne ⟨p1.symm,p2⟩
   ·rw [e] at p1
    have:=(de hli y hy).1
    have p1:(0:Int)=y.s:=p1
    omega
def P0 (a:An) (j:VauM):Cl×VauM:=cond (orB (a.code != 1) (j.op.kind==8)) (⟨12,dX,wNil,wNil,0,0,a⟩,{j with answer:=a,pc:=-1,last:=⟨12,dX,wNil,wNil,0,0,a⟩}) (aM (aC 17),{j with answer:=a,pc:=12})
def BF (c:Cl) (j:VauM):Cl×VauM:=cond (c.kind != 12) (c,j) (P0 c.ans j)
noncomputable def Lc (j:VauM):Cl×VauM:=BF (bj (fq (af j.base 2,gd j.op.key,j.op)) ⟨wNil,false⟩).1 {j with inner:=some (bj (fq (af j.base 2,gd j.op.key,j.op)) ⟨wNil,false⟩).2,pc:=11}
noncomputable def yg (j:VauM):Cl×VauM:=if j.bucket=j.wanted then Lc j else(fV,{j with child:=fQ 4 j.wanted j.bucket,pc:=3})
def DS (j:VauM) (w:WalkM):Cl×VauM:=cond w.found (kS j.node,{j with walk:=some w,sentinel:=bP w.cur,pc:=6}) (bz (af j.node 2) (bP w.cur),{j with walk:=some w,pc:=7})
section
variable {la:Cl} {o:O} {sz wt bu ch:Int} {ba nd se:W} {wk:Option WalkM} {inn:Option LitM} {an:An} {cn:W}
theorem UC (w:WalkM) (x:Rp1):aF ⟨5,la,o,sz,wt,bu,ch,ba,nd,se,some w,inn,an,cn⟩ x=cond (aG w x).1.2 ((aG w x).1.1,⟨5,la,o,sz,wt,bu,ch,ba,nd,se,some (aG w x).2,inn,an,cn⟩) (DS ⟨5,la,o,sz,wt,bu,ch,ba,nd,se,none,inn,an,cn⟩ (aG w x).2):=rfl
theorem UE (x:Rp1):aF ⟨2,la,o,sz,wt,bu,ch,ba,nd,se,wk,inn,an,cn⟩ x=cond (!(x.w.slot==0)) (yg ⟨2,la,o,sz,wt,bu,ch,x.w,nd,se,wk,inn,an,cn⟩) (if bu=0 then(⟨12,dX,wNil,wNil,0,0,⟨4,0⟩⟩,⟨-1,⟨12,dX,wNil,wNil,0,0,⟨4,0⟩⟩,o,sz,wt,bu,ch,ba,nd,se,wk,inn,an,cn⟩) else(aM (aC (cA 8 (lK bu))),⟨2,la,o,sz,wt,lK bu,ch,ba,nd,se,wk,inn,an,cn⟩)):=rfl
theorem UF (x:Rp1):aF ⟨1,la,o,sz,wt,bu,ch,ba,nd,se,wk,inn,an,cn⟩ x=(aM (aC (cA 8 (Int.tmod o.key (szN x.w.num)))),⟨2,la,o,szN x.w.num,Int.tmod o.key (szN x.w.num),Int.tmod o.key (szN x.w.num),ch,ba,nd,se,wk,inn,an,cn⟩):=rfl
theorem QM (x:Rp1):aF ⟨3,la,o,sz,wt,bu,ch,ba,nd,se,wk,inn,an,cn⟩ x=cond (!x.ok) (Lc ⟨3,la,o,sz,wt,bu,ch,ba,nd,se,wk,inn,an,cn⟩) (bz (af x.w 0) (dt (b4 ch)),⟨4,la,o,sz,wt,bu,ch,ba,x.w,se,wk,inn,an,cn⟩):=rfl
theorem UD (x:Rp1):aF ⟨4,la,o,sz,wt,bu,ch,ba,nd,se,wk,inn,an,cn⟩ x=aF ⟨5,la,o,sz,wt,bu,ch,ba,nd,se,some (dS (af ba 2,b4 ch)),inn,an,cn⟩ x:=rfl
theorem UA (w:WalkM) (x:Rp1):aF ⟨7,la,o,sz,wt,bu,ch,ba,nd,se,some w,inn,an,cn⟩ x=(bf w.prev w.cur (wTo w.cur nd),⟨8,la,o,sz,wt,bu,ch,ba,nd,se,some w,inn,an,cn⟩):=rfl
theorem Uz (w:W):aF ⟨8,la,o,sz,wt,bu,ch,ba,nd,se,wk,inn,an,cn⟩ ⟨w,true⟩=(aM (aC (cA 8 ch)),⟨9,la,o,sz,wt,bu,ch,ba,nd,nd,wk,inn,an,cn⟩):=rfl
theorem UB (x:Rp1):aF ⟨6,la,o,sz,wt,bu,ch,ba,nd,se,wk,inn,an,cn⟩ x=(aM (aC (cA 8 ch)),⟨9,la,o,sz,wt,bu,ch,ba,nd,se,wk,inn,an,cn⟩):=rfl
theorem Uy (x:Rp1):aF ⟨9,la,o,sz,wt,bu,ch,ba,nd,se,wk,inn,an,cn⟩ x=cond (x.w.slot==0) (bf (aC (cA 8 ch)) x.w (wTo x.w se),⟨10,la,o,sz,wt,bu,ch,ba,nd,se,wk,inn,an,cn⟩) (yg ⟨9,la,o,sz,wt,ch,ch,se,nd,se,wk,inn,an,cn⟩):=rfl
theorem R1 (x:Rp1):aF ⟨10,la,o,sz,wt,bu,ch,ba,nd,se,wk,inn,an,cn⟩ x=yg ⟨10,la,o,sz,wt,ch,ch,se,nd,se,wk,inn,an,cn⟩:=rfl
theorem R0 (x:Rp1):aF ⟨12,la,o,sz,wt,bu,ch,ba,nd,se,wk,inn,an,cn⟩ x=cond (o.kind==7) (bf (aC 17) x.w (eI x.w (-1)),⟨13,la,o,sz,wt,bu,ch,ba,nd,se,wk,inn,an,x.w⟩) (bf (aC 17) x.w (eI x.w 1),⟨13,la,o,sz,wt,bu,ch,ba,nd,se,wk,inn,an,x.w⟩):=rfl
theorem RZ (w:W):aF ⟨13,la,o,sz,wt,bu,ch,ba,nd,se,wk,inn,an,cn⟩ ⟨w,true⟩=cond (orB (o.kind==7) (orB (sz==8) (decide (cn.num < IntKind.wrap .i64 (2 * sz))))) (⟨12,dX,wNil,wNil,0,0,an⟩,⟨-1,⟨12,dX,wNil,wNil,0,0,an⟩,o,sz,wt,bu,ch,ba,nd,se,wk,inn,an,cn⟩) (aM (aC 16),⟨14,la,o,sz,wt,bu,ch,ba,nd,se,wk,inn,an,cn⟩):=rfl
theorem RY (x:Rp1):aF ⟨14,la,o,sz,wt,bu,ch,ba,nd,se,wk,inn,an,cn⟩ x=cond (x.w.num==sz) (bf (aC 16) x.w (eI x.w sz),⟨15,la,o,sz,wt,bu,ch,ba,nd,se,wk,inn,an,cn⟩) (⟨12,dX,wNil,wNil,0,0,an⟩,⟨-1,⟨12,dX,wNil,wNil,0,0,an⟩,o,sz,wt,bu,ch,ba,nd,se,wk,inn,an,cn⟩):=rfl
theorem RX (x:Rp1):aF ⟨15,la,o,sz,wt,bu,ch,ba,nd,se,wk,inn,an,cn⟩ x=(⟨12,dX,wNil,wNil,0,0,an⟩,⟨-1,⟨12,dX,wNil,wNil,0,0,an⟩,o,sz,wt,bu,ch,ba,nd,se,wk,inn,an,cn⟩):=rfl
end
end
section
open Go Go.Sx Go.Proofs AH
set_option maxRecDepth 100000
def lh (c:Int):Nat:=if c=0 then 0 else if c=1 \/ c=2 \/ c=4 then 1 else if c=7 then 3 else 2
theorem EF:∀w b:Fin 8,fD (w.val:Int) (b.val:Int)=true->b=w \/ (fD (w.val:Int) (fQ 4 (w.val:Int) (b.val:Int))=true /\ b4 (b.val:Int) < b4 (fQ 4 (w.val:Int) (b.val:Int)) /\ lh (fQ 4 (w.val:Int) (b.val:Int))=lh (b.val:Int)+1):=by decide
theorem Ib {w b:Int} (h:fD w b=true):b=w \/ (fD w (fQ 4 w b)=true /\ b4 b < b4 (fQ 4 w b) /\ lh (fQ 4 w b)=lh b+1):=by
 obtain⟨h1,h2,h3,h4⟩:=g9 h
 have:=EF ⟨w.toNat,by omega⟩ ⟨b.toNat,by omega⟩
 have e1:((w.toNat:Nat):Int)=w:=by omega
 have e2:((b.toNat:Nat):Int)=b:=by omega
 dsimp only at this
 rw [e1,e2] at this
 rcases this h with q | q
 ·left;have:=congrArg Fin.val q;dsimp only at this;omega
 ·exact .inr q
def kf (k b s:Nat):Bool:=match fD (Int.tmod (Int.ofNat k) (Int.ofNat s)) (Int.ofNat b) with | true=>decide (b4 (Int.ofNat b) < gd (Int.ofNat k)) | false=>true
theorem To:Fy (fun k=>Fy (fun b=>match kf k b 1 with | true=>(match kf k b 2 with | true=>(match kf k b 4 with | true=>kf k b 8 | false=>false) | false=>false) | false=>false) 8) 256=true:=by kernel_rfl
theorem IA {k b n:Int} (hk:wZ k=true) (hb:fD (Int.tmod k (szN n)) b=true):b4 b < gd k:=by
 have hk:0<=k /\ k < 256:=of_decide_eq_true hk
 obtain⟨_,_,h3,h4⟩:=g9 hb
 have h:=mF (mF To k.toNat (by omega)) b.toNat (by omega)
 have go:∀s:Nat,szN n=(s:Int)->kf k.toNat b.toNat s=true->b4 b < gd k:=fun s hs hf=>by
  unfold kf at hf
  rw [show Int.ofNat k.toNat=k from by simp;omega,show Int.ofNat b.toNat=b from by simp;omega,show Int.ofNat s=szN n from hs.symm,hb] at hf
  exact of_decide_eq_true hf
 split at h
 ·rename_i k1
  split at h
  ·rename_i k2
   split at h
   ·rename_i k4
    rcases lX n with e | e | e | e
    ·exact go 1 e k1
    ·exact go 2 e k2
    ·exact go 4 e k4
    ·exact go 8 e h
   ·cases h
  ·cases h
 ·cases h
theorem AA {c:Int}:b4 c % 2=0:=by
 unfold b4
 repeat' split
 all_goals decide
theorem Pc {k:Int}:gd k % 2=1:=by unfold gd;omega
theorem Fu {c:Int}:0<=b4 c /\ b4 c < 512:=by
 unfold b4
 repeat' split
 all_goals decide
theorem zr {k:Int}:0<=gd k /\ gd k < 512:=by unfold gd VU;omega
def m9 (L L1:List Kn):Prop:=∀x:Kn,x.k % 2=1->(x∈L1↔x∈L)
def yH (L:List Kn) (o:O) (a:An) (h':AH):Prop:=∃L1 L' h1,m9 L L1 /\ pH h1 (gd o.key) o L1 a L' /\ VInv h' L'
theorem AP {h h':AH} {L:List Kn} (hi:VInv h L) (hc:∀x∈L,h.lv x.s x.g->h'.lv x.s x.g /\ h'.cl x.s 0=h.cl x.s 0 /\ h'.cl x.s 1=h.cl x.s 1 /\ h'.cl x.s 2=h.cl x.s 2) (hb:∀c,0<=c->c < 8->h'.bd (8+c)=h.bd (8+c)):VInv h' L:=by
 have h0:h'.bd 8=h.bd 8:=hb 0 (by decide) (by decide)
 exact⟨by rw [h0];exact fM hi.li hc,hi.nd,hi.sr,by rw [h0];exact hi.b0,fun c c0 c1=>by rw [hb c c0 c1];exact hi.bk c c0 c1,hi.rg⟩
theorem AO {h:AH} {L:List Kn} (hi:VInv h L) {f:Int} (hf:f=16 \/ f=17) {w:W}:VInv (h.wr (aC f) w) L :=
 AP hi (fun x _ hl=>⟨hl,rfl,rfl,rfl⟩) fun c c0 c1=>by rw [He,if_neg (by omega)]
theorem Js {h:AH} {L:List Kn} (hi:VInv h L) {c:Int} (c0:0 < c) (c1:c < 8) {w:W} (hw:vc L w c):VInv (h.wr (aC (8+c)) w) L:=by
 have h0:(h.wr (aC (8+c)) w).bd 8=h.bd 8:=by rw [He,if_neg (by omega)]
 refine⟨by rw [h0];exact fM hi.li fun x _ hl=>⟨hl,rfl,rfl,rfl⟩,hi.nd,hi.sr,by rw [h0];exact hi.b0,fun d d0 d1=>?_,hi.rg⟩
 rw [He]
 by_cases e:8+d=8+c
 ·have e:d=c:=by omega
  subst e
  rw [if_pos rfl];exact .inr hw
 ·rw [if_neg e];exact hi.bk d d0 d1
theorem Hw {h h1:AH} {L L1 L':List Kn} {a:An} {j:VauM} (hs:m9 L L1) (hl:pH h1 (gd j.op.key) j.op L1 a L') (hi:VInv h L'):aT aF (yH L j.op) 6 h (P0 a j):=by
 obtain⟨pc,la,o,sz,wt,bu,ch,ba,nd,se,wk,inn,an,cn⟩:=j
 dsimp only at hl
 unfold P0
 have dn:∀{h:AH} {k:Nat} {r:Cl×VauM},VInv h L'->r.1.kind=12->r.1.ans=a->aT aF (yH L o) (k+1) h r:=fun hi e1 e2=>bq e1 ⟨L1,L',h1,hs,by rw [e2];exact hl,hi⟩
 cases orB (a.code != 1) (o.kind==8) with
 | true=>exact dn hi rfl rfl
 | false =>
   refine aA (bI (aY (by decide) (by decide)) ?_)
   show aT aF _ 5 h (aF ⟨12,la,o,sz,wt,bu,ch,ba,nd,se,wk,inn,a,cn⟩ _)
   rw [R0]
   have sw:∀{h:AH} {w:W},VInv h L'->aT aF (yH L o) 4 h (aF ⟨13,la,o,sz,wt,bu,ch,ba,nd,se,wk,inn,a,w⟩ ⟨w,true⟩):=fun {h w} hi=>by
    rw [RZ]
    cases orB (o.kind==7) (orB (sz==8) (decide (w.num < IntKind.wrap .i64 (2 * sz)))) with
    | true=>exact dn hi rfl rfl
    | false =>
      refine aA (bI (aY (by decide) (by decide)) ?_)
      show aT aF _ 3 h (aF ⟨14,la,o,sz,wt,bu,ch,ba,nd,se,wk,inn,a,w⟩ _)
      rw [RY]
      cases (h.rd (aC 16)).num==sz with
      | false=>exact dn hi rfl rfl
      | true =>
        refine aA (dH (aY (by decide) (by decide)) rfl ?_)
        show aT aF _ 2 _ (aF ⟨15,la,o,sz,wt,bu,ch,ba,nd,se,wk,inn,a,w⟩ _)
        rw [RX]
        exact dn (AO hi (.inl rfl)) rfl rfl
   cases o.kind==7 with
   | true=>exact aA (dH (aY (by decide) (by decide)) rfl (sw (AO hi (.inr rfl))))
   | false=>exact aA (dH (aY (by decide) (by decide)) rfl (sw (AO hi (.inr rfl))))
theorem N8 {h:AH} {c:Cl} {K:Rp1->AH->Prop} (hw:h.Wp c K):(c.kind != 12)=true:=by
 cases hk:c.kind != 12 with
 | true=>rfl
 | false =>
   have e:c.kind=12:=by simpa using hk
   unfold Wp at hw
   rw [e] at hw
   simp at hw
theorem Da {Qi Q:An->AH->Prop} {K:Nat} {la:Cl} {o:O} {sz wt bu ch:Int} {ba nd se:W} {wk:Option WalkM} {an:An} {cn:W} (hc:∀a h' l,Qi a h'->aT aF Q K h' (P0 a ⟨11,la,o,sz,wt,bu,ch,ba,nd,se,wk,some l,an,cn⟩)) :
 ∀{k:Nat} {h:AH} {r:Cl×LitM},aT bj Qi k h r->aT aF Q (k+K) h (BF r.1 ⟨11,la,o,sz,wt,bu,ch,ba,nd,se,wk,some r.2,an,cn⟩)
 | 0,_,_,hh=>hh.elim
 | k+1,h,r,hh=>by
   unfold BF
   rcases hh with⟨e,q⟩ | hw
   ·rw [e]
    exact aP (fun _ _ h=>h) (by omega) (hc _ _ _ q)
   ·rw [N8 hw,show k+1+K=(k+K)+1 by omega]
    exact aA (AH.wp_mono (fun x h' hx=>Da hc hx) hw)
end
section
open Go Go.Sx Go.Proofs AH
set_option maxRecDepth 100000
theorem zX {w:W} {y:Kn} (e1:w.slot=y.s) (e2:w.gen=y.g):af w 2=y.adr:=by unfold af Kn.adr;rw [e1,e2]
theorem B3 {h:AH} {L:List Kn} (hi:VInv h L):L.length<=512:=A7 (lo:=0) hi.sr fun x hx=>by have:=hi.rg x hx;omega
theorem zn {h:AH} {L0 L:List Kn} {j:VauM} {b:Int} (hi:VInv h L) (hs:m9 L0 L) (hb:vc L j.base b) (hk:b4 b < gd j.op.key) (ho:j.op.kind=6 \/ j.op.kind=7 \/ j.op.kind=8):aT aF (yH L0 j.op) 3110 h (Lc j):=by
 obtain⟨y,hy,q1,q2,q3⟩:=hb
 obtain⟨A,B,rfl⟩:=List.append_of_mem hy
 have hlen:=B3 hi
 rw [List.length_append,List.length_cons] at hlen
 obtain⟨pc,la,o,sz,wt,bu,ch,ba,nd,se,wk,inn,an,cn⟩:=j
 dsimp only at q1 q2 hk ho
 have hl:=C1 (B2 hi) (key:=gd o.key) ho ⟨wNil,false⟩
 show aT aF (yH L0 o) 3110 h (BF (bj (fq (af ba 2,gd o.key,o)) ⟨wNil,false⟩).1 ⟨11,la,o,sz,wt,bu,ch,ba,nd,se,wk,some (bj (fq (af ba 2,gd o.key,o)) ⟨wNil,false⟩).2,an,cn⟩)
 rw [zX q1 q2]
 generalize bj (fq (y.adr,gd o.key,o)) ⟨wNil,false⟩=r at hl ⊢
 have hin:=Da (Q:=yH L0 o) (K:=6) (la:=la) (o:=o) (sz:=sz) (wt:=wt) (bu:=bu) (ch:=ch) (ba:=ba) (nd:=nd) (se:=se) (wk:=wk) (an:=an) (cn:=cn) (fun a h' l hq=>?_) hl
 exact aP (fun _ _ h=>h) (by omega) hin
 obtain⟨B',ls,hB,hf⟩:=hq
 obtain⟨L',ls',hi'⟩:=Hm hi (by rw [q3];exact hk) zr.2 zr.1 (fun _ c _ _ e=>by have h1:=AA (c:=c);rw [e,Pc] at h1;cases h1) ls hB hf
 exact Hw (j:=⟨11,la,o,sz,wt,bu,ch,ba,nd,se,wk,some l,an,cn⟩) hs ls' hi'
theorem Rp {h:AH} {L0 L:List Kn} {K:Nat} {la:Cl} {o:O} {sz wt bu ch:Int} {ba nd se:W} {wk:Option WalkM} {inn:Option LitM} {an:An} {cn:W} (hi:VInv h L) (hs:m9 L0 L) (hb:vc L se ch) (c0:0 < ch) (c1:ch < 8)
 (hd:∀h pc,VInv h L->aT aF (yH L0 o) K h (yg ⟨pc,la,o,sz,wt,ch,ch,se,nd,se,wk,inn,an,cn⟩)):aT aF (yH L0 o) (K+2) h (aM (aC (cA 8 ch)),⟨9,la,o,sz,wt,bu,ch,ba,nd,se,wk,inn,an,cn⟩):=by
 have e8:cA 8 ch=8+ch:=by unfold cA;rw [jl (by omega)]
 rw [e8]
 refine aA (bI (aY (by omega) (by omega)) ?_)
 show aT aF _ (K+1) h (aF ⟨9,la,o,sz,wt,bu,ch,ba,nd,se,wk,inn,an,cn⟩ _)
 rw [Uy,e8]
 cases (h.rd (aC (8+ch))).slot==0 with
 | false=>exact aP (fun _ _ h=>h) (by omega) (hd _ _ hi)
 | true =>
   refine aA (dH (aY (by omega) (by omega)) rfl ?_)
   show aT aF _ K _ (aF ⟨10,la,o,sz,wt,bu,ch,ba,nd,se,wk,inn,an,cn⟩ _)
   rw [R1]
   refine hd _ _ (Js hi c0 c1 ?_)
   obtain⟨y,hy,q1,q2,q3⟩:=hb
   exact⟨y,hy,q1,q2,q3⟩
theorem KE {L0 L:List Kn} {n:Kn} (hs:m9 L0 L) (hn:n.k % 2=0):m9 L0 (jO n L):=fun x hx=>by
 rw [dU,hs x hx]
 exact⟨fun h=>by rcases h with rfl | h<;>first | omega | exact h,.inr⟩
theorem IP:∀w b:Fin 8,fD (w.val:Int) (b.val:Int)=true->lh (b.val:Int)<=lh (w.val:Int):=by decide
theorem M5 {w b:Int} (h:fD w b=true):lh b<=lh w:=by
 obtain⟨h1,h2,h3,h4⟩:=g9 h
 have:=IP ⟨w.toNat,by omega⟩ ⟨b.toNat,by omega⟩
 have e1:((w.toNat:Nat):Int)=w:=by omega
 have e2:((b.toNat:Nat):Int)=b:=by omega
 dsimp only at this
 rw [e1,e2] at this
 exact this h
theorem uc {L0:List Kn} {o:O} (ho:o.kind=6 \/ o.kind=7 \/ o.kind=8) {wt:Int} (hk:∀b,fD wt b=true->b4 b < gd o.key):∀(d:Nat) {h:AH} {L:List Kn} {pc:Int} {la:Cl} {sz bu ch:Int} {ba nd se:W} {wk:Option WalkM} {inn:Option LitM} {an:An} {cn:W},VInv h L->m9 L0 L->vc L ba bu->fD wt bu=true->lh wt=lh bu+d ->
 aT aF (yH L0 o) (3200+3200 * d) h (yg ⟨pc,la,o,sz,wt,bu,ch,ba,nd,se,wk,inn,an,cn⟩)
 | d,h,L,pc,la,sz,bu,ch,ba,nd,se,wk,inn,an,cn,hi,hs,hb,hw,hd=>by
   unfold yg
   dsimp only
   by_cases e:bu=wt
   ·rw [if_pos e]
    exact aP (fun _ _ h=>h) (by omega:3110<=_) (zn (j:=⟨pc,la,o,sz,wt,bu,ch,ba,nd,se,wk,inn,an,cn⟩) hi hs hb (hk _ hw) ho)
   ·rw [if_neg e]
    rcases Ib hw with e' | ⟨p1,p2,p3⟩
    ·exact absurd e' e
    generalize hc:fQ 4 wt bu=c at *
    have c0:0 < c:=by
     have:=(g9 p1).2.2.1
     by_cases ez:c=0
     ·subst ez;rw [show lh 0=0 from rfl] at p3;omega
     ·omega
    have c8:c < 8:=(g9 p1).2.2.2
    cases d with
    | zero =>
      have:=M5 p1
      omega
    | succ d =>
    have hb':=hb
    obtain⟨y,hy,q1,q2,q3⟩:=hb
    have y1:=de hi.li y hy
    rw [show 3200+3200 * (d+1)=(3200+3200 * d+3198)+1+1 by omega]
    refine aA (lR ?_ fun n h1 hf=>?_)
    ·show aT aF _ _ h (aF ⟨3,la,o,sz,wt,bu,c,ba,nd,se,wk,inn,an,cn⟩ ⟨wNil,false⟩)
     rw [QM]
     exact aP (fun _ _ h=>h) (by omega:3110<=_) (zn (j:=⟨3,la,o,sz,wt,bu,c,ba,nd,se,wk,inn,an,cn⟩) hi hs hb' (hk _ hw) ho)
    have lvn:(h.new n.slot n.gen).lv n.slot n.gen:=by show if n.slot=n.slot then n.gen=n.gen else _;rw [if_pos rfl]
    have hsn:∀x∈L,x.s≠n.slot:=fun x hx e=>hf x.g (e▸(de hi.li x hx).2)
    show aT aF _ _ _ (aF ⟨3,la,o,sz,wt,bu,c,ba,nd,se,wk,inn,an,cn⟩ ⟨n,true⟩)
    rw [QM]
    show aT aF _ _ _ (bz (af n 0) (dt (b4 c)),⟨4,la,o,sz,wt,bu,c,ba,n,se,wk,inn,an,cn⟩)
    refine aA (dO (aE h1 lvn (by decide) (by decide)) ?_)
    generalize e1:(h.new n.slot n.gen).wr (af n 0) (dt (b4 c))=h2
    have b2:h2.bd=h.bd:=by subst e1;rw [nD h1];rfl
    have c2:∀y k,y≠n.slot->h2.cl y k=h.cl y k:=fun y k hy=>by subst e1;rw [dq h1,if_neg fun e=>hy e.1,AH.cl_new,if_neg hy]
    have l2:∀y g,y≠n.slot->(h2.lv y g↔h.lv y g):=fun y g hy=>by subst e1;rw [bJ,xv,if_neg hy]
    have l2n:h2.lv n.slot n.gen:=by subst e1;rw [bJ];exact lvn
    have n0:(h2.cl n.slot 0).num=b4 c:=by subst e1;rw [dq h1,if_pos ⟨rfl,rfl⟩];rfl
    have nv:(h2.cl n.slot 1).num=0:=by subst e1;rw [dq h1,if_neg (by rintro ⟨_,e⟩;cases e),AH.cl_new,if_pos rfl];rfl
    clear e1
    have hi2:VInv h2 L:=AP hi (fun x hx hl=>⟨(l2 _ _ (hsn x hx)).2 hl,c2 _ _ (hsn x hx),c2 _ _ (hsn x hx),c2 _ _ (hsn x hx)⟩) fun c _ _=>by rw [b2]
    obtain⟨A,B,rfl⟩:=List.append_of_mem hy
    have hsub:=B2 hi2
    have hlen:=B3 hi
    rw [List.length_append,List.length_cons] at hlen
    have hsB:∀x∈B,x.s≠n.slot:=fun x hx=>hsn x (by simp [hx])
    have hyn:y.s≠n.slot:=hsn y hy
    show aT aF _ _ h2 (aF ⟨4,la,o,sz,wt,bu,c,ba,n,se,wk,inn,an,cn⟩ ⟨wNil,true⟩)
    rw [UD,zX q1 q2]
    refine aP (fun _ _ h=>h) (by omega:(6 * B.length+2)+(3200+3200 * d+10)<=_) (qM (J:=fun w=>⟨5,la,o,sz,wt,bu,c,ba,n,se,some w,inn,an,cn⟩) (co:=DS ⟨5,la,o,sz,wt,bu,c,ba,n,se,none,inn,an,cn⟩) UC (fun w hwp=>?_) (qN hsub.va hsub.li))
    have hfd:=jm hsub.li hwp
    unfold DS
    cases hat:At (b4 c) B with
    | some x0 =>
      rw [hat] at hfd
      obtain⟨fd,f1,f2,_⟩:=hfd
      rw [fd]
      have hx0:=yz hat
      have hbs:vc (A++y::B) (bP w.cur) c:=⟨x0,by simp [hx0.1],f1,f2,hx0.2⟩
      refine aA (AL h1 l2n ?_)
      have hi3:VInv (h2.del n.slot) (A++y::B):=AP hi2 (fun x hx hl=>⟨⟨hsn x hx,hl⟩,rfl,rfl,rfl⟩) fun _ _ _=>rfl
      show aT aF _ _ _ (aF ⟨6,la,o,sz,wt,bu,c,ba,n,bP w.cur,some w,inn,an,cn⟩ ⟨wNil,true⟩)
      rw [UB]
      exact aP (fun _ _ h=>h) (by omega:3200+3200 * d+2<=_) (Rp hi3 hs hbs c0 c8 fun h pc hi=>uc ho hk d hi hs hbs p1 (by omega))
    | none =>
      rw [hat] at hfd
      have hfd:w.found=false:=hfd
      rw [hfd]
      refine aA (dO (aE h1 l2n (by decide) (by decide)) ?_)
      obtain⟨⟨v1,v2⟩,k1,k2,k3,k4⟩:=Ps hsub h1 l2n n0 nv hyn hsB hwp
      show aT aF _ _ _ (aF ⟨7,la,o,sz,wt,bu,c,ba,n,se,some w,inn,an,cn⟩ ⟨wNil,true⟩)
      rw [UA]
      refine aA (dH v1 v2 ?_)
      show aT aF _ _ _ (aF ⟨8,la,o,sz,wt,bu,c,ba,n,se,some w,inn,an,cn⟩ ⟨w.cur,true⟩)
      rw [Uz]
      generalize (h2.wr (af n 2) (bP w.cur)).wr w.prev (wTo w.cur n)=h3 at k1 k2 k3 k4 ⊢
      obtain⟨e1,e2,e3⟩:=yA (key:=b4 c) (y:=y) (by rw [q3];exact p2) hi.sr
      have ey:=e3 ⟨n.slot,n.gen,b4 c,0⟩ rfl
      have hi3:VInv h3 (A++y::jO ⟨n.slot,n.gen,b4 c,0⟩ B):=by
       refine iJ hi k1 ⟨fun s g hl _=>?_,fun s g f s1 hl hsl hne=>?_,fun f hne=>by rw [k4 f hne,b2]⟩ (fun z hz=>?_) ?_ (fun x hx=>?_) fun x hx _=>dU.2 (.inr hx)
       ·rw [k2];exact(l2 _ _ fun e=>hf g (e▸hl)).2 hl
       ·have hsn:s≠n.slot:=fun e=>hf g (e▸hl)
        rw [k3 s f s1 hsn hsl hne,c2 _ _ hsn]
       ·rcases dU.1 hz with rfl | hz
        ·exact .inr hf
        ·exact .inl hz
       ·rw [<- ey];exact vk hi.sr (by show At (b4 c) _=none;rw [e1];exact hat)
       ·rcases dU.1 hx with rfl | hx
        ·exact Fu
        ·exact hi.rg x (by simp [hx])
      rw [<- ey] at hi3
      have hbs:vc (jO ⟨n.slot,n.gen,b4 c,0⟩ (A++y::B)) n c:=⟨_,dU.2 (.inl rfl),rfl,rfl,rfl⟩
      have hs3:=KE (n:=⟨n.slot,n.gen,b4 c,0⟩) hs AA
      exact aP (fun _ _ h=>h) (by omega:3200+3200 * d+2<=_) (Rp hi3 hs3 hbs c0 c8 fun h pc hi=>uc ho hk d hi hs3 hbs p1 (by omega))
theorem RG (w:Int):lh w<=3:=by
 unfold lh
 repeat' split
 all_goals decide
theorem O8:∀w b:Fin 8,fD (w.val:Int) (b.val:Int)=true->(b.val:Int)≠0->fD (w.val:Int) (lK (b.val:Int))=true /\ lh (lK (b.val:Int))+1=lh (b.val:Int):=by decide
theorem Ic {w b:Int} (h:fD w b=true) (hb:b≠0):fD w (lK b)=true /\ lh (lK b)+1=lh b:=by
 obtain⟨h1,h2,h3,h4⟩:=g9 h
 have:=O8 ⟨w.toNat,by omega⟩ ⟨b.toNat,by omega⟩
 have e1:((w.toNat:Nat):Int)=w:=by omega
 have e2:((b.toNat:Nat):Int)=b:=by omega
 dsimp only at this
 rw [e1,e2] at this
 exact this h hb
theorem KD:∀w:Fin 8,fD (w.val:Int) (w.val:Int)=true:=by decide
theorem OH {w:Int} (h0:0<=w) (h8:w < 8):fD w w=true:=by
 have:=KD ⟨w.toNat,by omega⟩
 have e1:((w.toNat:Nat):Int)=w:=by omega
 dsimp only at this
 rwa [e1] at this
theorem y9 {h:AH} {L:List Kn} {o:O} (hi:VInv h L) (ho:o.kind=6 \/ o.kind=7 \/ o.kind=8) {wt:Int} (hk:∀b,fD wt b=true->b4 b < gd o.key):∀(d:Nat) {bu:Int} {la:Cl} {sz ch:Int} {ba nd se:W} {wk:Option WalkM} {inn:Option LitM} {an:An} {cn:W},fD wt bu=true->lh bu<=d ->
 aT aF (yH L o) (13000+d+1) h (aM (aC (cA 8 bu)),⟨2,la,o,sz,wt,bu,ch,ba,nd,se,wk,inn,an,cn⟩)
 | d,bu,la,sz,ch,ba,nd,se,wk,inn,an,cn,hw,hd=>by
   obtain⟨w0,w8,b0,b8⟩:=g9 hw
   have e8:cA 8 bu=8+bu:=by unfold cA;rw [jl (by omega)]
   rw [e8]
   refine aA (bI (aY (by omega) (by omega)) ?_)
   show aT aF _ (13000+d) h (aF ⟨2,la,o,sz,wt,bu,ch,ba,nd,se,wk,inn,an,cn⟩ ⟨h.bd (8+bu),true⟩)
   rw [UE]
   have hpos:∀{w:W},vc L w bu->1<=w.slot:=fun⟨y,hy,q1,_⟩=>by rw [q1];exact(de hi.li y hy).1
   by_cases hz:(h.bd (8+bu)).slot=0
   ·rw [fK hz]
    have hne:bu≠0:=fun e=>by
     subst e
     have:=hpos hi.b0
     rw [show (8:Int)+0=8 from rfl] at hz
     omega
    show aT aF _ (13000+d) h (if bu=0 then _ else _)
    rw [if_neg hne]
    obtain⟨p1,p2⟩:=Ic hw hne
    cases d with
    | zero=>omega
    | succ d=>exact y9 hi ho hk d p1 (by omega)
   ·rw [dz (by rcases hi.bk bu b0 b8 with q | q<;>first | exact absurd q hz | exact hpos q)]
    have hb:vc L (h.bd (8+bu)) bu:=(hi.bk bu b0 b8).resolve_left hz
    have hdw:=M5 hw
    have h3:=RG wt
    show aT aF _ (13000+d) h (yg ⟨2,la,o,sz,wt,bu,ch,h.bd (8+bu),nd,se,wk,inn,an,cn⟩)
    exact aP (fun _ _ h=>h) (by omega:3200+3200 * (lh wt - lh bu)<=_) (uc ho hk (lh wt - lh bu) hi (fun x _=>Iff.rfl) hb hw (by omega))
theorem Jz {h:AH} {L:List Kn} (hi:VInv h L) {o:O} (ho:o.kind=6 \/ o.kind=7 \/ o.kind=8) (hk:wZ o.key=true) (x:Rp1):aT aF (yH L o) 13006 h (aF (zA o) x):=by
 show aT aF _ (13005+1) h (aM (aC 16),⟨1,aD,o,0,0,0,0,wNil,wNil,wNil,none,none,⟨0,0⟩,wNil⟩)
 refine aA (bI (aY (by decide) (by decide)) ?_)
 show aT aF _ 13005 h (aF ⟨1,aD,o,0,0,0,0,wNil,wNil,wNil,none,none,⟨0,0⟩,wNil⟩ ⟨h.bd 16,true⟩)
 rw [UF]
 have hw:fD (Int.tmod o.key (szN (h.bd 16).num)) (Int.tmod o.key (szN (h.bd 16).num))=true:=by
  have hk:0<=o.key /\ o.key < 256:=of_decide_eq_true hk
  have h1:0<=Int.tmod o.key (szN (h.bd 16).num):=Int.tmod_nonneg _ hk.1
  have h2:Int.tmod o.key (szN (h.bd 16).num) < szN (h.bd 16).num:=Int.tmod_lt_of_pos o.key (by rcases lX (h.bd 16).num with h | h | h | h<;>omega)
  exact OH h1 (by rcases lX (h.bd 16).num with h | h | h | h<;>omega)
 have h3:=RG (Int.tmod o.key (szN (h.bd 16).num))
 exact aP (fun _ _ h=>h) (by omega:13000+3+1<=13005) (y9 hi ho (fun b hb=>IA hk hb) 3 hw h3)
end
end Go.Proofs.YtadmfaohjnjajaaGreatDoor
