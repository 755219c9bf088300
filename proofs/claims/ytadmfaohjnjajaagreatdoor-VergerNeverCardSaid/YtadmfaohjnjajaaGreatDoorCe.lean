import Derived.Test.YtadmfaohjnjajaaGreatDoorBt
import Derived.Test.YtadmfaohjnjajaaGreatDoorRd
import Derived.Shelf.SlGeneric
import Derived.Ground.SlgnProg
import Derived.Shelf.SlicesE.Clone
set_option linter.unusedVariables false
set_option linter.unusedSimpArgs false
set_option maxHeartbeats 4000000
namespace Go.Proofs.YtadmfaohjnjajaaGreatDoor
section
open Go Go.Sx Go.Proofs AH
set_option maxRecDepth 100000
theorem DL {m:PlotM} {s g f:Int} {o w:W} (h:∀e,m.state s g e=none):m.access ⟨1,s,g,f,o,w⟩=(⟨m.read s f,true⟩,m.tick):=by
 unfold PlotM.access PlotM.wrong
 simp only [h]
 rfl
theorem Jf {m:PlotM} {s g f:Int} {o w:W} (h:∀e,m.state s g e=none):m.access ⟨2,s,g,f,o,w⟩=(⟨wNil,true⟩,m.tick.write s f w):=by
 unfold PlotM.access PlotM.wrong
 simp only [h]
 rfl
theorem NS {m:PlotM} {s g f:Int} {o w:W} (h:∀e,m.state s g e=none):m.access ⟨3,s,g,f,o,w⟩=cond (ia (m.read s f) o) (⟨m.read s f,true⟩,m.tick.write s f w) (⟨m.read s f,false⟩,m.tick):=by
 unfold PlotM.access PlotM.wrong
 simp only [h]
 show (if ia (m.read s f) o then _ else _)=_
 cases ia (m.read s f) o<;>rfl
theorem qU {n:Nat} {m:PlotM} (h:m.WF n):m.tick.WF n:=⟨h.le,h.lb,h.ls,h.bw,h.sl,h.sw,h.fr,h.fu,h.nd⟩
theorem sE {n:Nat} {m:PlotM} (hm:m.WF n) {h:AH} (A:Abs m h) {c:Cl} (hc:eF c) {K:Rp1->AH->Prop} (hw:h.Wp c K):∃h',Abs (m.access (oL c)).2 h' /\ K (OM c (m.access (oL c)).1) h':=by
 obtain⟨kd,ad,ol,nw,ci,cj,an⟩:=c
 unfold eF at hc
 dsimp only at hc
 have T:Abs m.tick h:=DN A
 rcases hc with rfl | rfl | rfl | rfl | rfl | rfl
 ·obtain⟨v,k⟩:=(show h.valid ad /\ K ⟨h.rd ad,true⟩ h from hw)
  refine⟨h,?_⟩
  show Abs (m.access ⟨1,ad.s,ad.g,ad.f,wNil,wNil⟩).2 h /\ K (m.access ⟨1,ad.s,ad.g,ad.f,wNil,wNil⟩).1 h
  rw [DL (pG A v),FC A v]
  exact⟨T,k⟩
 ·obtain⟨v,k⟩:=(show h.valid ad /\ K ⟨wNil,true⟩ (h.wr ad nw) from hw)
  refine⟨h.wr ad nw,?_⟩
  show Abs (m.access ⟨2,ad.s,ad.g,ad.f,ol,nw⟩).2 _ /\ K (m.access ⟨2,ad.s,ad.g,ad.f,ol,nw⟩).1 _
  rw [Jf (pG A v)]
  exact⟨AG (qU hm) T v,k⟩
 ·obtain⟨v,k⟩:=(show h.valid ad /\ cond (ia (h.rd ad) ol) (K ⟨h.rd ad,true⟩ (h.wr ad nw)) (K ⟨h.rd ad,false⟩ h) from hw)
  have e:m.access (oL ⟨5,ad,ol,nw,ci,cj,an⟩)=cond (ia (h.rd ad) ol) (⟨h.rd ad,true⟩,m.tick.write ad.s ad.f nw) (⟨h.rd ad,false⟩,m.tick):=by
   show m.access ⟨3,ad.s,ad.g,ad.f,ol,nw⟩=_
   rw [NS (pG A v),FC A v]
  rw [e]
  cases hs:ia (h.rd ad) ol with
  | true=>rw [hs] at k;exact⟨h.wr ad nw,AG (qU hm) T v,k⟩
  | false=>rw [hs] at k;exact⟨h,T,k⟩
 ·obtain⟨v,k⟩:=(show h.valid ad /\ K ⟨h.rd ad,true⟩ h from hw)
  refine⟨h,?_⟩
  show Abs (m.access ⟨1,ad.s,ad.g,ad.f,wNil,wNil⟩).2 h /\ K ⟨(m.access ⟨1,ad.s,ad.g,ad.f,wNil,wNil⟩).1.w,true⟩ h
  rw [DL (pG A v),FC A v]
  exact⟨T,k⟩
 ·obtain⟨k0,k1⟩:=(show K ⟨wNil,false⟩ h /\ ∀s g,1<=s->(∀g',¬h.lv s g')->K ⟨⟨s,g,0,0,false⟩,true⟩ (h.new s g) from hw)
  have e:m.access (oL ⟨8,ad,ol,nw,ci,cj,an⟩)=m.tick.alloc 0:=rfl
  rw [e]
  rcases Ji (qU hm) T 0 with q | ⟨s,g,s1,fr,q1,q2⟩
  ·rw [q];exact⟨h,T,k0⟩
  ·refine⟨h.new s g,q2,?_⟩
   rw [q1];exact k1 s g s1 fr
 ·obtain⟨s1,sl,k⟩:=(show 1<=ol.slot /\ h.lv ol.slot ol.gen /\ K ⟨wNil,true⟩ (h.del ol.slot) from hw)
  obtain⟨q1,q2,q3⟩:=A.lv _ _ s1 sl
  have e:m.access (oL ⟨9,ad,ol,nw,ci,cj,an⟩)=(⟨wNil,true⟩,{m.tick with slots:=m.tick.slots.set (ol.slot - 1).toNat {m.tick.slot ol.slot with used:=false},free:=m.tick.free++[⟨ol.slot⟩]}):=by
   show m.access ⟨5,0,0,0,ol,wNil⟩=_
   have hs:∀e,m.state ol.slot ol.gen e=none:=fun e=>by
    unfold PlotM.state
    rw [if_neg (by omega),if_neg (by rw [q2];decide),if_pos q3]
   unfold PlotM.access PlotM.wrong
   simp only [hs]
   rfl
  rw [e]
  exact⟨h.del ol.slot,NZ (qU hm) T s1 q1,k⟩
end
section
open Go Go.Sx Go.Proofs AH
set_option maxRecDepth 100000
theorem Et {Q:An->AH->Prop} {p:PlotM}:∀{k:Nat} {h:AH} {j:JobM} {x:Rp1},Abs p h->eZ Q k h (j.next x) ->
 ∃f c' j' h',tM f j x=some (c',j') /\ Abs p h' /\ ((c'.kind=12 /\ Q c'.ans h') \/ (eF c' /\ ∃k',k' < k /\ h'.Wp c' fun y h''=>eZ Q k' h'' (j'.next y)))
 | 0,_,_,_,_,hh=>hh.elim
 | k+1,h,j,x,A,hh=>by
   have stay:¬((j.next x).1.kind=7 \/ (j.next x).1.kind=10)->tM 1 j x=some ((j.next x).1,(j.next x).2):=fun hn=>by unfold tM;rw [if_neg hn]
   have go:∀{h2:AH},((j.next x).1.kind=7 \/ (j.next x).1.kind=10)->Abs p h2->eZ Q k h2 ((j.next x).2.next ⟨wNil,true⟩) ->
    ∃f c' j' h',tM f j x=some (c',j') /\ Abs p h' /\ ((c'.kind=12 /\ Q c'.ans h') \/ (eF c' /\ ∃k',k' < k+1 /\ h'.Wp c' fun y h''=>eZ Q k' h'' (j'.next y))):=fun {h2} hk A2 he=>by
    obtain⟨f,c',j',h',e,A',r⟩:=Et A2 he
    refine⟨f+1,c',j',h',?_,A',r.imp id fun⟨a,k',hlt,w⟩=>⟨a,k',by omega,w⟩⟩
    unfold tM;rw [if_pos hk];exact e
   rcases hh with⟨e,q⟩ | hw
   ·exact⟨1,_,_,h,stay (by omega),A,.inl ⟨e,q⟩⟩
   ·have hw0:=hw
    unfold Wp at hw
    by_cases k1:(j.next x).1.kind=3 \/ (j.next x).1.kind=6
    ·exact⟨1,_,_,h,stay (by omega),A,.inr ⟨by unfold eF;omega,k,by omega,hw0⟩⟩
    rw [if_neg k1] at hw
    by_cases k2:(j.next x).1.kind=4
    ·exact⟨1,_,_,h,stay (by omega),A,.inr ⟨by unfold eF;omega,k,by omega,hw0⟩⟩
    rw [if_neg k2] at hw
    by_cases k3:(j.next x).1.kind=5
    ·exact⟨1,_,_,h,stay (by omega),A,.inr ⟨by unfold eF;omega,k,by omega,hw0⟩⟩
    rw [if_neg k3] at hw
    by_cases k4:(j.next x).1.kind=7
    ·rw [if_pos k4] at hw
     exact go (.inl k4) A hw
    rw [if_neg k4] at hw
    by_cases k5:(j.next x).1.kind=8
    ·exact⟨1,_,_,h,stay (by omega),A,.inr ⟨by unfold eF;omega,k,by omega,hw0⟩⟩
    rw [if_neg k5] at hw
    by_cases k6:(j.next x).1.kind=9
    ·exact⟨1,_,_,h,stay (by omega),A,.inr ⟨by unfold eF;omega,k,by omega,hw0⟩⟩
    by_cases k7:(j.next x).1.kind=10
    ·rw [if_pos (.inr k7)] at hw
     exact go (.inr k7) (FB A) hw.2.2
    rw [if_neg (by omega)] at hw
    exact hw.elim
def yW (Q:An->AH->Prop) (k:Nat) (v:VerM) (p:PlotM):Prop :=
 (Free1 v /\ ∃a h,Abs p h /\ Q a h) \/ ∃c j h,Run1 v c j /\ Abs p h /\ ∃k',k' < k /\ h.Wp c fun y h''=>eZ Q k' h'' (j.next y)
theorem Gj {Q:An->AH->Prop} {k:Nat} {v:VerM} {p:PlotM} {c':Cl} {j':JobM} {h':AH} (A:Abs p h')
 (hr:(c'.kind=12 /\ Q c'.ans h') \/ (eF c' /\ ∃k',k' < k /\ h'.Wp c' fun y h''=>eZ Q k' h'' (j'.next y))) (h1:c'.kind=12->Free1 v) (h2:eF c'->Run1 v c' j'):yW Q k v p:=by
 rcases hr with⟨e,q⟩ | ⟨a,r⟩
 ·exact .inl ⟨h1 e,_,_,A,q⟩
 ·exact .inr ⟨_,_,_,h2 a,A,r⟩
theorem HU {n:Nat} {Q:An->AH->Prop} {k:Nat} {v:VerM} {p:PlotM} (hp:p.WF n) (hr:yW Q (k+1) v p) (hb:v.doing≠0) (hok:pN (hN v p)=true) :
 (cD v p).1.real=0 /\ yW Q k (cD v p).2.1 (cD v p).2.2:=by
 rcases hr with⟨f,_⟩ | ⟨c,j,h,hr,A,k',hk,hw⟩
 ·exact absurd f.dg hb
 ·obtain⟨h',A',he⟩:=sE hp A hr.ac hw
  obtain⟨f,c2,j2,h2,e,A2,r⟩:=Et A' he
  have s:=hZ hr hok e (r.imp (fun q=>q.1) fun q=>q.1)
  refine⟨s.1,Gj (by rw [s.2.1];exact A2) (r.imp id fun⟨a,k2,hlt,w⟩=>⟨a,k2,by omega,w⟩) s.2.2.2.1 s.2.2.2.2⟩
theorem HV {Q:An->AH->Prop} {k:Nat} {v:VerM} {p:PlotM} {h:AH} {o:O} (hf:Free1 v) (A:Abs p h) (hok:pN (u6 bS v.sort.toNat v o)=true) (he:eZ Q k h ((p5 v.sort.toNat o).next ⟨wNil,true⟩)):yW Q k (fB v o) p:=by
 obtain⟨f,c2,j2,h2,e,A2,r⟩:=Et A he
 have s:=WS hf hok e (r.imp (fun q=>q.1) fun q=>q.1)
 exact Gj A2 r s.2.1 s.2.2
theorem Cu {Q:An->AH->Prop} {v:VerM} {p:PlotM} (h:yW Q 0 v p):Free1 v /\ ∃a h,Abs p h /\ Q a h:=by
 rcases h with h | ⟨_,_,_,_,_,k',hk,_⟩
 ·exact h
 ·exact absurd hk (Nat.not_lt_zero _)
theorem za {Q:An->AH->Prop} {k:Nat} {v:VerM} {p:PlotM} (h:yW Q k v p) (hb:v.doing=0):Free1 v /\ ∃a h,Abs p h /\ Q a h:=by
 rcases h with h | ⟨_,_,_,hr,_⟩
 ·exact h
 ·exact absurd (hr.dg.symm.trans hb) (by decide)
theorem qf {Q:An->AH->Prop} {k:Nat} {v:VerM} {p:PlotM} (h:yW Q k v p):v.rite.notes=[]:=by
 rcases h with⟨h,_⟩ | ⟨_,_,_,hr,_⟩
 ·exact h.id.no
 ·exact hr.pd.no
structure NvI (n k:Nat) (v:VerM) (p:PlotM):Prop where
 so:1<=v.sort /\ v.sort<=5
 wf:v.WF n 0
 rest:v.rest
 pl:p.WF n
 hd:Hd (v.sort==2) p
 run:yW (fun _ h=>FF v.sort.toNat h) k v p
theorem BX {n:Int} {K:Nat} {v:VerM} (h:v.WF n K) (hn:v.rite.notes=[]):v.WF n 0:=by
 have b:=h.rite.b
 exact⟨h.kj,h.dg,⟨⟨b.eng,b.me,b.thr,b.holds,b.notes,by rw [hn];exact Nat.le_refl _,b.word,b.seen⟩,h.rite.call,h.rite.acc,h.rite.st⟩,h.call,h.idle,h.job⟩
theorem Gz {n k:Nat} {v:VerM} {p:PlotM} (h:NvI n (k+1) v p) (hb:v.doing≠0):Gv v p /\ p.valid (gS v.rite).1 /\ (cD v p).1.real=0 /\ NvI n k (cD v p).2.1 (cD v p).2.2 /\ (cD v p).2.1.sort=v.sort:=by
 obtain⟨s1,s2,s3,s4,s5,s6,s7⟩:=Sh (by omega) h.wf h.rest hb h.pl h.hd
 obtain⟨r1,r2⟩:=HU h.pl h.run hb s1.2
 have hr:yW (fun _ g=>FF (cD v p).2.1.sort.toNat g) k (cD v p).2.1 (cD v p).2.2:=by rw [s5];exact r2
 exact⟨s1,s2,r1,⟨by rw [s5];exact h.so,BX s3 (qf r2),s4,s6,by rw [s5];exact s7,hr⟩,s5⟩
theorem PZ {s:Int} {o:O} (h:iw s o=true):FitJ s.toNat o:=by
 rcases GY h with⟨rfl,hk⟩ | ⟨rfl,hk⟩ | ⟨hs,hk,k0,k1,ht⟩
 ·exact⟨fun _=>hk,fun e=>absurd e (by decide),fun e=>absurd e (by decide),fun e=>absurd e (by decide)⟩
 ·exact⟨fun e=>absurd e (by decide),fun _=>hk,fun e=>absurd e (by decide),fun e=>absurd e (by decide)⟩
 ·refine⟨fun e=>by omega,fun e=>by omega,fun _=>⟨hk,k0,k1⟩,fun e h6=>⟨?_,ht h6⟩⟩
  have e:s=5:=by omega
  subst e
  have h:cond (oI o) false true=true:=h
  cases hb:oI o with
  | true=>rw [hb] at h;cases h
  | false =>
    unfold oI at hb
    rw [DG (by unfold oI;exact hb),h6] at hb
    have hb:decide (o.tall < 1)=false:=hb
    have:=of_decide_eq_false hb
    omega
theorem GA {n k:Nat} {v:VerM} {p:PlotM} (h:NvI n k v p) (hb:v.doing=0) {o:O} (hf:iw v.sort o=true):Gx v o /\ NvI n 19000 (fB v o) p /\ (fB v o).sort=v.sort:=by
 obtain⟨s1,s2,s3,s4⟩:=PK (by omega) (by omega) h.wf hb hf
 obtain⟨f,a,g,A,q⟩:=za h.run hb
 have hs:v.sort.toNat=1 \/ v.sort.toNat=2 \/ v.sort.toNat=3 \/ v.sort.toNat=4 \/ v.sort.toNat=5:=by have:=h.so;omega
 have r:=HV (Q:=fun _ h=>FF v.sort.toNat h) f A s1.2 (Mu hs q (PZ hf))
 have hr:yW (fun _ g=>FF (fB v o).sort.toNat g) 19000 (fB v o) p:=by rw [s4];exact r
 exact⟨s1,⟨by rw [s4];exact h.so,BX s2 (qf r),s3,h.pl,by rw [s4];exact h.hd,hr⟩,s4⟩
end
section
open Go Go.Sx Go.Proofs
set_option maxRecDepth 100000
def sF (f:Int) (w:W):Acc:=⟨2,0,0,f,wNil,w⟩
def lQ:Acc:=⟨4,0,0,0,wNil,wNil⟩
section
variable {β:Type} (I:Bool->β->β->β) (N:Bool->β->β) (fl:β)
def PA (f1 f2:Int) (w1 w2:W->W) (p:PlotM) (k:PlotM->β):β :=
 let r:=p.access lQ
 N (decide p.Ok) (I true (I (!r.1.ok) fl (N (decide r.2.Ok) (I (decide (r.2.valid (sF f1 (w1 r.1.w)))) (N (decide (r.2.access (sF f1 (w1 r.1.w))).2.Ok)
   (I (decide ((r.2.access (sF f1 (w1 r.1.w))).2.valid (sF f2 (w2 r.1.w)))) (k ((r.2.access (sF f1 (w1 r.1.w))).2.access (sF f2 (w2 r.1.w))).2) fl)) fl))) fl)
def Th (s:Nat) (p:PlotM) (k:PlotM->β):β:=match s with
 | 2=>PA I N fl 0 1 bP bP p k
 | 4=>PA I N fl 8 16 bP (fun _=>dt 1) p k
 | _=>k p
end
end
section
open Go Go.Sx Go.Proofs
set_option maxRecDepth 100000
set_option maxHeartbeats 4000000
theorem ub:∀{k:Nat} {x:N1},x∈nB k->1<=x.val /\ x.val<=(k:Int)
 | 0,x,h=>by cases h
 | k+1,x,h=>by
   rcases List.mem_cons.1 h with rfl | h
   ·exact⟨by show 1<=((k+1:Nat):Int);omega,Int.le_refl _⟩
   ·have:=ub h;omega
theorem Dq:∀(k:Nat),((nB k).map N1.val).Nodup
 | 0=>List.nodup_nil
 | k+1=>by
   refine List.nodup_cons.2 ⟨fun h=>?_,Dq k⟩
   obtain⟨y,hy,e⟩:=List.mem_map.1 h
   have:=ub hy
   have e:y.val=((k+1:Nat):Int):=e
   omega
theorem SD {k:Nat} {i:Nat}:(List.replicate k slZ).getD i kslots.dflt=slZ \/ (List.replicate k slZ).getD i kslots.dflt=kslots.dflt:=by
 rw [List.getD_eq_getElem?_getD,List.getElem?_replicate]
 split
 ·exact .inl rfl
 ·exact .inr rfl
theorem ql {k:Nat} (hk:k<=1024):(jg k).WF k:=by
 have hz:WOk k wNil:=ay (by omega)
 refine⟨hk,rfl,List.length_replicate,fun w hw=>?_,fun s hs=>?_,fun s hs w hw=>?_,fun x hx=>ub hx,fun x hx=>?_,Dq k⟩
 ·rw [List.eq_of_mem_replicate (show w∈List.replicate 85 wNil from hw)];exact hz
 ·rw [List.eq_of_mem_replicate (show s∈List.replicate k slZ from hs)];rfl
 ·rw [List.eq_of_mem_replicate (show s∈List.replicate k slZ from hs)] at hw
  simp only [slZ,List.mem_cons,List.not_mem_nil,or_false] at hw
  rcases hw with rfl | rfl | rfl | rfl | rfl | rfl | rfl | rfl | rfl | rfl<;>exact hz
 ·show ((List.replicate k slZ).getD _ kslots.dflt).used=false
  rcases SD (k:=k) (i:=(x.val - 1).toNat) with h | h<;>rw [h]<;>rfl
theorem QE (p:PlotM) (f:Int) (w:W):p.access (sF f w)=(⟨wNil,true⟩,{p with steps:=bH p.steps,board:=p.board.set f.toNat w}):=rfl
theorem oT {n:Nat} {p:PlotM} (h:p.WF n) {f:Int} {w:W} (h0:0<=f) (h1:f < 85):p.valid (sF f w):=by
 show (if (2:Int)=1 \/ (2:Int)=2 \/ (2:Int)=3 then p.hasA 0 0 f else _)
 rw [if_pos (by decide)]
 unfold PlotM.hasA
 rw [if_pos rfl,h.lb]
 exact⟨rfl,h0,h1⟩
theorem A0 {n:Nat} {p:PlotM} (h:p.WF n) {f:Int} {w:W} (h0:0<=f) (h1:f < 85) (hw:WOk n w):(p.access (sF f w)).2.WF n :=
 (uq (hd:=false) h (fun e=>by cases e) (oT h h0 h1) hw fun e=>by cases e).wf
theorem Hh {n:Nat} {p:PlotM} (h:p.WF n) (hf:p.free.length≠0):(p.access lQ).1.ok=true /\ 1<=(p.access lQ).1.w.slot /\ WOk n (p.access lQ).1.w /\ (p.access lQ).2.WF n:=by
 have hv:p.valid lQ:=by
  show (if (4:Int)=1 \/ (4:Int)=2 \/ (4:Int)=3 then _ else if (4:Int)=4 then True else _)
  rw [if_neg (by decide),if_pos rfl];trivial
 have ha:=uq (hd:=false) h (fun e=>by cases e) hv (ay (by omega)) fun e=>by cases e
 have hok:(p.access lQ).1.ok=true:=by
  show (PlotM.alloc {p with steps:=bH p.steps} 0).1.ok=true
  unfold PlotM.alloc
  rw [if_neg (show ¬({p with steps:=bH p.steps}:PlotM).free.length=0 from hf)]
 exact⟨hok,ha.al rfl hok,ha.w,ha.wf⟩
theorem NB {s e i n no:Int} (hs:1<=s /\ s<=5) (he:1<=e /\ e<=5) (hn:1<=n /\ n<=6) (hno:1<=no /\ no<=64) (hi:0<=i /\ i < n):yx (s,e,i,n,no)=false:=by
 unfold yx sq
 dsimp only
 rw [decide_eq_false (show ¬s < 1 by omega),decide_eq_false (show ¬s > 5 by omega),decide_eq_false (show ¬e < 1 by omega),decide_eq_false (show ¬e > 5 by omega),decide_eq_false (show ¬n < 1 by omega),decide_eq_false (show ¬n > 6 by omega),
  decide_eq_false (show ¬i < 0 by omega),decide_eq_false (show ¬i>=n by omega),decide_eq_false (show ¬no < 1 by omega),decide_eq_false (show ¬no > 64 by omega)]
 rfl
end
section
open Go Go.Sx Go.Proofs AH
set_option maxRecDepth 100000
def h00:AH:=⟨fun _=>wNil,fun _ _=>wNil,fun _ _=>False⟩
theorem NX (k:Nat):Abs (jg k) h00:=by
 refine⟨fun f f0 f1=>?_,fun s g _ hl=>hl.elim,fun s g f _ hl=>hl.elim⟩
 unfold PlotM.read
 rw [if_pos rfl]
 show (List.replicate 85 wNil).getD f.toNat _=wNil
 rw [List.getD_eq_getElem?_getD,List.getElem?_replicate,if_pos (by omega)];rfl
theorem NY {n:Nat} {m:PlotM} (hm:m.WF n) {h:AH} (A:Abs m h) {f:Int} (h1:18<=f) (h2:f < 85) {w:W}:Abs (m.write 0 f w) h:=by
 refine⟨fun g g0 g1=>?_,fun s g hs hl=>?_,fun s g c hs hl c0 c1=>?_⟩
 ·rw [qh hm (Int.le_refl 0) (by omega) (by omega) (fun _=>h2) (fun e=>absurd rfl e) (Int.le_refl 0) (by omega) g0 (fun e=>absurd rfl e),if_neg (by omega)]
  exact A.bd g g0 g1
 ·exact A.lv s g hs hl
 ·have:=A.cl s g c hs hl c0 c1
  unfold PlotM.read at this ⊢
  rw [if_neg (by omega)] at this ⊢
  exact this
noncomputable def iY (k:Nat):PlotM:=((jg k).access (sF 24 (dt 1))).2
theorem Ni {k:Nat} (hk:k<=1024):(iY k).WF k:=A0 (ql hk) (f:=24) (w:=dt 1) (by decide) (by decide) (dP (by omega) _)
theorem I6 {k:Nat} (hk:k<=1024):Abs (iY k) h00:=by
 unfold iY
 rw [QE]
 exact NY (qU (ql hk)) (DN (k:=bH (jg k).steps) (NX k)) (f:=24) (w:=dt 1) (by decide) (by decide)
theorem Fm {k:Nat} (h1:1<=k):(iY k).free.length≠0:=by
 show (nB k).length≠0
 rw [pr];omega
noncomputable def xI (f1 f2:Int) (w1 w2:W->W) (p:PlotM):PlotM:=(((p.access lQ).2.access (sF f1 (w1 (p.access lQ).1.w))).2.access (sF f2 (w2 (p.access lQ).1.w))).2
noncomputable def tE (s:Nat) (p:PlotM):PlotM:=match s with
 | 2=>xI 0 1 bP bP p
 | 4=>xI 8 16 bP (fun _=>dt 1) p
 | _=>p
section
variable {n:Nat} {p:PlotM} {f1 f2:Int} {w1 w2:W->W}
theorem rT {β:Type} {fl:T β} {k:PlotM->T β} (h:p.WF n) (hf:p.free.length≠0) (h1:0<=f1 /\ f1 < 85) (h2:0<=f2 /\ f2 < 85) (hw1:∀{w},WOk n w->WOk n (w1 w)) (hw2:∀{w},WOk n w->WOk n (w2 w)) :
 (xI f1 f2 w1 w2 p).WF n /\ (PA tI tN fl f1 f2 w1 w2 p k).val=(k (xI f1 f2 w1 w2 p)).val:=by
 obtain⟨a1,a2,a3,a4⟩:=Hh h hf
 have b1:=A0 a4 h1.1 h1.2 (hw1 a3)
 refine⟨A0 b1 h2.1 h2.2 (hw2 a3),?_⟩
 unfold PA
 dsimp only
 exact(nv (decide_eq_true h.ok)).trans ((ivT rfl).trans ((ivF (by rw [a1];rfl)).trans ((nv (decide_eq_true a4.ok)).trans ((ivT (decide_eq_true (oT a4 h1.1 h1.2))).trans ((nv (decide_eq_true b1.ok)).trans (ivT (decide_eq_true (oT b1 h2.1 h2.2))))))))
theorem C5 (h:p.WF n) (hf:p.free.length≠0) (h1:0<=f1 /\ f1 < 18) (h2:0<=f2 /\ f2 < 18) (hw1:∀{w},WOk n w->WOk n (w1 w)) (A:Abs p h00) :
 ∃x:W,1<=x.slot /\ Abs (xI f1 f2 w1 w2 p) (((h00.new x.slot x.gen).wr (aC f1) (w1 x)).wr (aC f2) (w2 x)):=by
 obtain⟨a1,a2,a3,a4⟩:=Hh h hf
 obtain⟨g1,A1,k1⟩:=sE (c:=fV) h A (.inr (.inr (.inr (.inr (.inl rfl))))) (K:=fun x g=>x.ok=true->g=h00.new x.w.slot x.w.gen) (lR (fun e=>by cases e) fun w _ _ _=>rfl)
 have A1:Abs (p.access lQ).2 g1:=A1
 have k1:=k1 a1
 rw [k1] at A1
 obtain⟨g2,A2,k2⟩:=sE (c:=bz (aC f1) (w1 (p.access lQ).1.w)) a4 A1 (.inr (.inl rfl)) (K:=fun _ g=>g=(h00.new (p.access lQ).1.w.slot (p.access lQ).1.w.gen).wr (aC f1) (w1 (p.access lQ).1.w)) (dO (aY h1.1 h1.2) rfl)
 rw [k2] at A2
 have b1:=A0 a4 h1.1 (by omega) (hw1 a3)
 obtain⟨g3,A3,k3⟩:=sE (c:=bz (aC f2) (w2 (p.access lQ).1.w)) b1 A2 (.inr (.inl rfl)) (K:=fun _ g=>g=((h00.new (p.access lQ).1.w.slot (p.access lQ).1.w.gen).wr (aC f1) (w1 (p.access lQ).1.w)).wr (aC f2) (w2 (p.access lQ).1.w)) (dO (aY h2.1 h2.2) rfl)
 rw [k3] at A3
 exact⟨(p.access lQ).1.w,a2,A3⟩
end
theorem GM {k:Nat} (h1:1<=k) (hk:k<=1024) {s:Nat} (hs:1<=s /\ s<=5):(tE s (iY k)).WF k /\ Hd ((s:Int)==2) (tE s (iY k)) /\ (∃h,Abs (tE s (iY k)) h /\ FF s h) /\
 ∀{β:Type} {fl:T β} {c:PlotM->T β},(Th tI tN fl s (iY k) c).val=(c (tE s (iY k))).val:=by
 have W:=Ni hk
 have A:=I6 hk
 have F:=Fm h1
 have nh:∀q,Hd false q:=fun q (e:false=true)=>by cases e
 rcases (by omega:s=1 \/ s=2 \/ s=3 \/ s=4 \/ s=5) with rfl | rfl | rfl | rfl | rfl
 ·exact⟨W,nh _,⟨h00,A,[],[],rfl,List.nodup_nil,rfl⟩,fun {_ _ _}=>rfl⟩
 ·obtain⟨x,x1,B⟩:=C5 (f1:=0) (f2:=1) (w1:=bP) (w2:=bP) W F (by decide) (by decide) (fun h=>bo h) A
  refine⟨(rT (β:=Unit) (f1:=0) (f2:=1) (w1:=bP) (w2:=bP) (fl:=.leaf ()) (k:=fun _=>.leaf ()) W F (by decide) (by decide) (fun h=>bo h) (fun h=>bo h)).1,fun _=>?_,⟨_,B,[],⟨x.slot,x.gen,wNil.num⟩,[],[],⟨x.slot,x.gen,wNil.num⟩,rfl,?_,?_,?_,?_,rfl⟩,fun {_ _ _}=>(rT (f1:=0) (f2:=1) (w1:=bP) (w2:=bP) W F (by decide) (by decide) (fun h=>bo h) (fun h=>bo h)).2⟩
  ·have:=B.bd 0 (by decide) (by decide)
   show 1<=((xI 0 1 bP bP (iY k)).board.getD 0 kwords.dflt).slot
   have e:(xI 0 1 bP bP (iY k)).board.getD 0 kwords.dflt=bP x:=this
   rw [e];exact x1
  ·exact⟨rfl,rfl,x1,by show (if x.slot=x.slot then x.gen=x.gen else _);rw [if_pos rfl],by show (if x.slot=x.slot then wNil else _).num=_;rw [if_pos rfl],by show (if x.slot=x.slot then wNil else _).slot=0;rw [if_pos rfl];rfl⟩
  ·simp
  ·rfl
  ·rfl
 ·exact⟨W,nh _,⟨h00,A,[],⟨aY (by decide) (by decide),.inr rfl,⟨rfl,rfl⟩,List.nodup_nil,by simp⟩,List.Pairwise.nil,fun x hx=>by cases hx⟩,fun {_ _ _}=>rfl⟩
 ·obtain⟨x,x1,B⟩:=C5 (f1:=8) (f2:=16) (w1:=bP) (w2:=fun _=>dt 1) W F (by decide) (by decide) (fun h=>bo h) A
  refine⟨(rT (β:=Unit) (f1:=8) (f2:=16) (w1:=bP) (w2:=fun _=>dt 1) (fl:=.leaf ()) (k:=fun _=>.leaf ()) W F (by decide) (by decide) (fun h=>bo h) (fun _=>dP (by omega) _)).1,nh _,⟨_,B,[⟨x.slot,x.gen,0,0⟩],?_,?_,?_,?_,?_,?_⟩,fun {_ _ _}=>(rT (f1:=8) (f2:=16) (w1:=bP) (w2:=fun _=>dt 1) W F (by decide) (by decide) (fun h=>bo h) (fun _=>dP (by omega) _)).2⟩
  ·exact⟨rfl,rfl,rfl,x1,by show (if x.slot=x.slot then x.gen=x.gen else _);rw [if_pos rfl],by show (if x.slot=x.slot then wNil else _).num=_;rw [if_pos rfl];rfl,by show (if x.slot=x.slot then wNil else _).num=_;rw [if_pos rfl];rfl,by show (if x.slot=x.slot then wNil else _).slot=0 /\ (if x.slot=x.slot then wNil else _).mark=false;rw [if_pos rfl];exact⟨rfl,rfl⟩⟩
  ·simp
  ·exact List.pairwise_singleton _ _
  ·exact⟨_,List.mem_cons_self,rfl,rfl,rfl⟩
  ·intro c c0 c8
   rcases (by omega:c=0 \/ c=1 \/ c=2 \/ c=3 \/ c=4 \/ c=5 \/ c=6 \/ c=7) with rfl | rfl | rfl | rfl | rfl | rfl | rfl | rfl
   ·exact .inr ⟨_,List.mem_cons_self,rfl,rfl,rfl⟩
   all_goals exact .inl rfl
  ·intro y hy
   rw [List.mem_singleton.1 hy]
   exact⟨by show (0:Int)<=0;decide,by show (0:Int) < 512;decide⟩
 ·exact⟨W,nh _,⟨h00,A,[],fun m _ _=>⟨rfl,rfl⟩,List.nodup_nil,List.Pairwise.nil,(fun x hx=>by cases hx),fun x hx=>by cases hx⟩,fun {_ _ _}=>rfl⟩
end
section
open Go Go.Sx Go.Proofs Go.RowKit
theorem MG (M:List Bool) (l:List AV) (j:Nat) (a:AV) (h:l[j]?=some a):ab (hpO M l) (M.length+j)=some (.abs a):=by
 unfold hpO
 rw [aH,dv,if_neg (by omega),show M.length+j - M.length=j by omega]
 exact(bL _ _ _).2 ⟨a,h,rfl⟩
def FG (f:FuncId) (es:Nat) (ty:TypeId):Prop :=
 (∀(n c:Nat) (w:World),Calls Tryz.prog f #[.slice none n c] w fun e w'=>e=.returned (.slice none 0 0) /\ w'=w) /\
 ∀(b off n c:Nat) (news:List Value) (w:World),news.length=n * es->n<=1000000->(∀j u,news[j]?=some u->w.cell? ⟨b,off+j,none⟩=some u)->(∀u∈news,u.oneCell'=true) ->
   Calls Tryz.prog f #[.slice (some ⟨b,off,none⟩) n c] w fun e w'=>∃v',e=.returned v' /\ w'.ownsRow w.heap.size ty es v' n news /\ v'≠.slice none 0 0 /\ Below w.heap.size w w'
def BN (ok:AV->Bool) (es:Nat) (args:List SV) (l:List AV):T (SV×List AV×List AV):=match args,l with
 | [.v (.c (.vs n 0 len e false))],[a]=>match Nat.beq n 7,Nat.beq e es,ok a with
   | true,true,true=>.need (decide (len=a.len /\ len<=1000000)) (.leaf (.v (.c (.vs (7+1) 0 len es false)),[a],[a]))
   | _,_,_=>.fail "copy"
 | _,_=>.fail "copy"
theorem I3 {σ:Sg} {f:FuncId} {es:Nat} {ty:TypeId} (hc:FG f es ty) {ok:AV->Bool} (hok:∀a,ok a=true->∃vs,a.arr=some (es,ty,vs)):FnOk Tryz.prog (NV σ) f (aZ isS noM (BN ok es)):=by
 refine dQ bR rfl fun args l v l' nw h hl hargs=>?_
 unfold BN at h
 split at h
 ·rename_i n len e a
  split at h
  ·rename_i h1 h2 h3
   have hn:=(ai _ _).1 h1
   have he:=(ai _ _).1 h2
   subst hn he
   replace h:=aj h
   obtain⟨hb,h⟩:=h
   have hb:=of_decide_eq_true hb
   simp only [T.val,Option.some.injEq,Prod.mk.injEq] at h
   obtain⟨rfl,rfl,rfl⟩:=h
   obtain⟨vs,harr⟩:=hok a h3
   have hF:(NV σ).F.arr a=some (e,ty,vs):=harr
   have hlen:=(NV σ).F.len_ok a _ _ _ hF
   have hla:(NV σ).F.len a=len:=hb.1.symm
   rw [hla] at hlen
   have h7:ab (hpO noM [a]) 7=some (.abs a):=MG noM [a] 0 _ rfl
   have h8:ab (hpO noM [a,a]) (7+1)=some (.abs a):=MG noM [a,a] 1 _ rfl
   refine⟨?_,tQ noM [a,a],fun ρ w hO=>?_⟩
   ·intro c hcc
    simp [V1.cells] at hcc
    subst hcc
    intro m hm
    cases hm
    exact⟨_,h8⟩
   ·obtain⟨hone,hq⟩:=(NV σ).F.arr_q a _ _ _ hF
    have hv:=(hq _ _ _).1 (hO.q 7 _ h7)
    have fin:∀(w':World) (lc:Sx.Loc) (S':Nat->Prop),iC lc S' vs e ty w'->Fr (fun _=>False) S' w w'->∃ρ',aW lc 0 len e=(SV.v (.c (.vs (7+1) 0 len e false))).den ρ' /\ Own (NV σ) ρ' (hpO noM [a,a]) w' /\ Evo (NV σ) (hpO noM [a]).length ρ (hpO noM [a]) w ρ' (hpO noM [a,a]) w':=by
     intro w' lc S' g1 g2
     obtain⟨o1,o2⟩:=su (N:=NV σ) hO (tQ noM [a]) (by show 7<=_;exact Nat.le_succ _) (d:=none) (fun n h=>by cases h) hF (S:=fun _=>False) (fun k h=>h.elim) g1 g2
     refine⟨_,?_,o1,o2⟩
     show _=aW ((ρ.set (7+1) lc S').L (7+1)) 0 len e
     rw [(fz _ _ _ _).1]
    show Calls Tryz.prog f #[aW (ρ.L 7) 0 len e] w _
    rw [vsDen_eq]
    by_cases hn:len=0 /\ (ρ.L 7).c=0
    ·rw [if_pos hn]
     refine(hc.1 0 0 w).mono ?_
     rintro ex w' ⟨rfl,rfl⟩
     have hvs:vs=[]:=List.eq_nil_of_length_eq_zero (by rw [hlen,hn.1,Nat.zero_mul])
     obtain⟨ρ',r1,r2,r3⟩:=fin w' ⟨0,0,0⟩ (fun _=>False) (.inl ⟨Nat.zero_le _,hvs,fun _ h=>h⟩) ⟨fun _ _ _=>rfl,fun k h=>h.elim,rfl,rfl,rfl,Nat.le_refl _⟩
     refine⟨ρ',?_,r2,r3⟩
     rw [<- r1,vsDen_eq,if_pos ⟨hn.1,rfl⟩]
    ·rw [if_neg hn]
     refine(hc.2 _ _ len _ vs w hlen hb.2 (fun j u hu=>?_) hone).mono ?_
     ·have:=vf hv j u hu
      have ea:(⟨(ρ.L 7).b,(ρ.L 7).o,none⟩:Addr).add j=⟨(ρ.L 7).b,(ρ.L 7).o+j,none⟩:=by unfold Addr.add;split<;>simp_all
      rw [ea] at this
      exact this
     ·rintro ex w' ⟨v',rfl,⟨_,hown⟩,hne,hbl⟩
      rcases hown with⟨h0,_⟩ | ⟨g,cap,cur,rfl,hg,hh,hle,_,hcs,htk⟩
      ·exact absurd h0 hne
      ·obtain⟨ρ',r1,r2,r3⟩:=fin w' ⟨g,0,cap+1⟩ (fun k=>k=g) (.inr ⟨Nat.succ_pos _,fun k=>Iff.rfl,cur.toList,by rw [Array.toArray_toList];exact hh,by simp [hcs],by rw [hlen];exact Nat.mul_le_mul_right _ (by simpa using hle),fun j u hu=>by
        rw [<- htk,List.getElem?_take] at hu
        split at hu
        ·simpa using hu
        ·cases hu⟩)
        ⟨fun k hk _=>hbl.block k hk,fun k hk=>.inl (by rw [hk];exact hg),hbl.os,hbl.tape,hbl.output,hbl.size⟩
       refine⟨ρ',?_,r2,r3⟩
       rw [<- r1,vsDen_eq,if_neg (fun h=>by cases h.2)]
       rfl
  ·simp [T.val] at h
 ·simp [T.val] at h
theorem I5 {f:FuncId} {rn:Go.Shelf.Ren} (L:SlLaysE0.n41 Tryz.prog rn) (hf:rn.f 41=f) {t:TypeId} {si:SI} (hs:slT.get t=some si) (ht:rn.t 23=si.e) (hb:si.bytes<=1000):FG f si.size si.e:=by
 subst hf
 obtain⟨hu,i,z,hi,hz,e1,e2,hpos,hzl,hzd,hzn⟩:=fT (OE t si hs)
 have hzs:z.cells.size=si.size:=by
  have:=congrArg List.length (hzd Nm.id)
  rw [bc] at this
  simp at this
  omega
 refine⟨fun n c w=>AnyE.slices_Clone_nil L n c w,fun b off n c news w hl hn hc h1=>?_⟩
 have h:=AnyE.slices_Clone L i z si.size si.bytes (by rw [ht];exact hi) hz e1 e2 hzs hpos (fun w=>by rw [ht];simp [Go.sizeOf,typeInfo,hi,e1]) b off n c news w hl (by simp only [maxLen];omega) (by
  have:n * si.bytes<=1000000 * 1000:=Nat.mul_le_mul hn hb
  omega) hc h1
 rw [ht] at h
 exact h
end
end Go.Proofs.YtadmfaohjnjajaaGreatDoor

namespace Go.Proofs
open Go Go.Sx Go.Proofs
open Go.Shelf in
def Tryz.cloneNt_ren:Go.Shelf.Ren:=⟨fun | 41=>65 | n=>n,fun | 22=>41 | 23=>151 | 4=>4 | n=>n,fun | n=>n⟩
theorem Tryz.cloneNt:Go.Proofs.SlLaysE0.n41 Tryz.prog Tryz.cloneNt_ren:={
 mixed:=by kernel_rfl
 f41:=⟨Tryz.f65.name,by decide,Tryz.func65.trans (congrArg some (by kernel_rfl))⟩
 t4:=Tryz.underlying4
 a4:=Tryz.isAgg4
 z4:=Tryz.sizeOf4
 v4:=Tryz.zeroValue4
 t22:=Tryz.underlying41
 a22:=Tryz.isAgg41
 z22:=Tryz.sizeOf41
 v22:=Tryz.zeroValue41}
end Go.Proofs
namespace Go.Proofs.YtadmfaohjnjajaaGreatDoor
section
open Go Go.Sx Go.Proofs Go.RowKit
set_option maxRecDepth 100000
variable {σ:Sg} {lp:Lp}
theorem I4:FG 65 7 151:=I5 (t:=41) (si:=Kw) Tryz.cloneNt rfl (by kernel_rfl) rfl (by decide)
def V8:AV->Bool | .notes _=>true | _=>false
theorem Fk:FnOk Tryz.prog (NV σ) 65 (aZ isS noM (BN V8 7)):=I3 I4 fun a ha=>by cases a<;>first | (cases ha;done) | exact⟨_,rfl⟩
noncomputable def Rc:Tab:=aQ 65 (aZ isS noM (BN V8 7)) bm
theorem JP:bO Tryz.prog (NV σ) Rc:=au Fk aJ
def jG (v:VerM):Bool:=v.doing != 0
theorem DC:FnOk Tryz.prog (NV σ) 10 (aZ isS noM (dK aNo vBo oVer (fun _ _=>none) (fun v _=>(jG v,v)))) :=
 ij aJ rfl fun v x _=>by
  obtain⟨so,en,ri,dg,cl,op,job,an⟩:=v
  rcases job with _ | ⟨j | j | j | j | j⟩<;>exact⟨lW,VerM.wr _,rfl,[],rfl,fun _=>rfl,congrArg T.val (by kernel_rfl:_=tN true (.leaf (some (jG _,_))))⟩
def wL (args:List SV) (l:List AV):T (SV×List AV×List AV):=match args,l with
 | [.v (.c (.ptr 7 0))],[.rite m]=>.need (decide (m.notes.length<=1000000)) (.leaf (.v (.c (.vs 8 0 m.notes.length 7 false)),[.rite m],[.notes m.notes]))
 | _,_=>.fail "Notes"
noncomputable def KH (σ:Sg) (m:RiteM):T (SV×List AV×List AV):=Eu σ Rc 33 noM [.v (.c (.ptr 7 0))] [dR m] (dw AV.len cL (RiteM.wr m))
theorem VT (σ:Sg) (m:RiteM):KH σ m=.need (decide (m.notes.length=m.notes.length /\ m.notes.length<=1000000)) (.need (rS (rOf m)) (.leaf (.v (.c (.vs 8 0 m.notes.length 7 false)),[dR m],[.notes m.notes]))):=by kernel_rfl
theorem Md (m:RiteM):rS (rOf m)=true:=by unfold rS rOf;simp
theorem Ey:FnOk Tryz.prog (NV σ) 33 (aZ isS noM wL):=by
 refine dQ bR rfl fun args l v l' nw h hl hargs=>?_
 unfold wL at h
 split at h
 ·rename_i m
  obtain⟨h1,h⟩:=aj h
  have h1:=of_decide_eq_true h1
  have h2:(KH σ m).val=some (v,l',nw):=(congrArg T.val (VT σ m)).trans ((nv (decide_eq_true ⟨rfl,h1⟩)).trans ((nv (Md m)).trans h))
  exact(A9 JP (σ:=σ) (M:=noM) rfl (a:=dR m) (l:=[]) (K:=dw AV.len cL (RiteM.wr m)) rfl ⟨_,rfl⟩ rfl hargs h2).1
 ·simp [T.val] at h
def EK (args:List SV) (l:List AV):T (SV×List AV×List AV):=match args,l with
 | [.v (.c (.ptr 7 0))],[.ver v]=>.need (decide (v.rite.notes.length<=1000000)) (.leaf (.v (.c (.vs 8 0 v.rite.notes.length 7 false)),[.ver v],[.notes v.rite.notes]))
 | _,_=>.fail "Notes"
noncomputable def JL:Tab:=aQ 33 (aZ isS noM wL) bm
theorem Hy:bO Tryz.prog (NV σ) JL:=au Ey aJ
noncomputable def KF (σ:Sg) (v:VerM):T (SV×List AV×List AV):=Eu σ JL 12 noM [.v (.c (.ptr 7 0))] [eJ v] (dw AV.len lW (VerM.wr v))
theorem Iq (σ:Sg) (v:VerM):KF σ v=.need (decide (v.rite.notes.length<=1000000)) (.need true (.leaf (.v (.c (.vs 8 0 v.rite.notes.length 7 false)),[eJ v],[.notes v.rite.notes]))):=by
 obtain⟨so,en,ri,dg,cl,op,job,an⟩:=v
 rcases job with _ | ⟨j | j | j | j | j⟩<;>as_aux_lemma=>kernel_rfl
theorem LB:FnOk Tryz.prog (NV σ) 12 (aZ isS noM EK):=by
 refine dQ bR rfl fun args l v l' nw h hl hargs=>?_
 unfold EK at h
 split at h
 ·rename_i w
  obtain⟨h1,h⟩:=aj h
  have h2:(KF σ w).val=some (v,l',nw):=(congrArg T.val (Iq σ w)).trans ((nv h1).trans ((nv rfl).trans h))
  exact(A9 Hy (σ:=σ) (M:=noM) rfl (a:=eJ w) (l:=[]) (K:=dw AV.len lW (VerM.wr w)) rfl ⟨_,rfl⟩ rfl hargs h2).1
 ·simp [T.val] at h
noncomputable def mLd:List Bool:=mkM 7
noncomputable def Vb (σ:Sg) (np:Int->PlotM):Tab:=aQ 20 (aZ isS noM (mP aI2 oPlot (fun x=>some (decide (0<=x.1 /\ x.1<=1024 /\ x.2=85))) (fun x=>np x.1))) (aQ 22 (aZ isS mDo (doS σ)) bm)
def M6:SV×List AV×List AV->Option PlotM
 | (.v (.c (.ptr 7 0)),[],[.plot p])=>some p
 | _=>none
theorem Ff {r:SV×List AV×List AV} {p:PlotM} (h:M6 r=some p):r=(.v (.c (.ptr 7 0)),[],[.plot p]):=by
 unfold M6 at h
 split at h
 ·cases h;rfl
 ·cases h
noncomputable def wJ (σ:Sg) (np:Int->PlotM) (s:Nat) (k:Int):T (Option PlotM):=(gg σ (Vb σ np) 7 mLd [.v (.c (.il .i64 (Int.ofNat s))),.v (.c (.it .i64 k))] []).map M6
def xJ (np:Int->PlotM) (s:Nat) (k:Int):T (Option PlotM) :=
 .need (decide (0<=k /\ k<=1024 /\ (85:Int)=85)) (.need (decide (np k).Ok) (.ite (decide ((np k).valid (sF 24 (dt 1)))) (Th tI tN (.leaf none) s ((np k).access (sF 24 (dt 1))).2 fun p=>.leaf (some p)) (Th tI tN (.leaf none) s (np k) fun p=>.leaf (some p))))
theorem Tn (σ:Sg) (np:Int->PlotM) (k:Int):wJ σ np 1 k=xJ np 1 k:=by kernel_rfl
theorem Tm (σ:Sg) (np:Int->PlotM) (k:Int):wJ σ np 2 k=xJ np 2 k:=by kernel_rfl
theorem Tl (σ:Sg) (np:Int->PlotM) (k:Int):wJ σ np 3 k=xJ np 3 k:=by kernel_rfl
theorem Tk (σ:Sg) (np:Int->PlotM) (k:Int):wJ σ np 4 k=xJ np 4 k:=by kernel_rfl
theorem Tj (σ:Sg) (np:Int->PlotM) (k:Int):wJ σ np 5 k=xJ np 5 k:=by kernel_rfl
def Mi (okl:Int->Int->Bool) (ld:Int->Int->PlotM) (args:List SV) (l:List AV):T (SV×List AV×List AV):=match args,l with
 | [.v (.c a),.v (.c b)],[]=>match iOf a,iOf b with
   | some s,some k=>.need (okl s k) (.leaf (.v (.c (.ptr 7 0)),[],[.plot (ld s k)]))
   | _,_=>.fail "laid"
 | _,_=>.fail "laid"
noncomputable def zK (s k:Int):PlotM:=tE s.toNat (iY k.toNat)
def Lm (s k:Int):Bool:=decide (1<=s /\ s<=5 /\ 1<=k /\ k<=1024)
theorem Mf (σ:Sg) {s:Nat} {k:Int} (hs:1<=s /\ s<=5) (h1:1<=k) (hk:k<=1024):(wJ σ (fun i=>jg i.toNat) s k).val=some (some (tE s (iY k.toNat))):=by
 have e:wJ σ (fun i=>jg i.toNat) s k=xJ (fun i=>jg i.toNat) s k:=by
  rcases (by omega:s=1 \/ s=2 \/ s=3 \/ s=4 \/ s=5) with rfl | rfl | rfl | rfl | rfl
  ·exact Tn σ _ k
  ·exact Tm σ _ k
  ·exact Tl σ _ k
  ·exact Tk σ _ k
  ·exact Tj σ _ k
 rw [e]
 have w0:=ql (k:=k.toNat) (by omega)
 unfold xJ
 refine(nv (decide_eq_true ⟨by omega,hk,rfl⟩)).trans ((nv (decide_eq_true w0.ok)).trans ((ivT (decide_eq_true (oT w0 (by decide) (by decide)))).trans ?_))
 exact(GM (k:=k.toNat) (by omega) (by omega) hs).2.2.2
theorem Mh:FnOk Tryz.prog (NV σ) 7 (aZ isS mLd (Mi Lm zK)):=by
 refine dQ bR (gC _) fun args l v l' nw h hl hargs=>?_
 unfold Mi at h
 split at h
 ·rename_i a b
  split at h
  ·rename_i s k ha hb
   obtain⟨h1,h⟩:=aj h
   obtain⟨s1,s5,k1,k2⟩:=of_decide_eq_true h1
   obtain⟨s,rfl⟩:∃n:Nat,s=Int.ofNat n:=⟨s.toNat,by simp;omega⟩
   simp only [T.val,Option.some.injEq,Prod.mk.injEq] at h
   obtain⟨rfl,rfl,rfl⟩:=h
   have hs:1<=s /\ s<=5:=by simp at s1 s5;omega
   obtain⟨y,g1,g2⟩:=map_some (Mf σ hs k1 k2)
   have g2:=Ff g2
   subst g2
   have hc:=(oY (au EN (au M4 aJ)) (M:=mLd) (gC _) (cW rfl) g1).1
   exact eX hc fun ρ=>by simp only [List.map_cons,List.map_nil,SV.den,V1.den,bp ha ρ,bp hb ρ];rfl
  ·simp [T.val] at h
 ·simp [T.val] at h
end
section
open Go Go.Sx Go.Proofs
set_option maxRecDepth 100000
set_option maxHeartbeats 0
variable {σ:Sg}
theorem HE {isS:AV->Nat->Bool} {M:List Bool} {t1 t2:List SV->List AV->T (SV×List AV×List AV)} (h:∀args l r,(t2 args l).val=some r->(t1 args l).val=some r) {args:List SV} {H:Hp AV} {r:SV×Hp AV} (h2:(aZ isS M t2 args H).val=some r):(aZ isS M t1 args H).val=some r:=by
 unfold aZ at h2 ⊢
 split at h2
 ·simp [T.val] at h2
 ·dsimp only at h2 ⊢
  split at h2
  ·obtain⟨y,g1,g2⟩:=T.bind_some h2
   rw [T.val_bind,h _ _ _ g1]
   exact g2
  ·simp [T.val] at h2
theorem zU {f:FuncId} {M:List Bool} {t1 t2:List SV->List AV->T (SV×List AV×List AV)} (hf:FnOk Tryz.prog (NV σ) f (aZ isS M t1)) (h:∀args l r,(t2 args l).val=some r->(t1 args l).val=some r):FnOk Tryz.prog (NV σ) f (aZ isS M t2) :=
 fun args H v H' h2=>hf args H v H' (HE h h2)
structure VlF where
 okl:Int->Int->Bool
 ld:Int->Int->PlotM
 bad:Int×Int×Int×Int×Int->Bool
 mv:Int×Int×Int×Int×Int->VerM
 okk:VerM->Bool
 fit:VerM->O->Bool
 okg:VerM->O->Bool
 gv:VerM->O->VerM
 oks:VerM->PlotM->Bool
 sr:VerM->PlotM->Strd
 sv:VerM->PlotM->VerM
 sp:VerM->PlotM->PlotM
def PO (σ:Sg) (F:VlF) (args:List SV) (l:List AV):T (SV×List AV×List AV):=match args,l with
 | [.v (.c (.ptr 7 0)),a],[.ver v]=>match aOp.dec [a] with
   | some o=>.need (F.okk v) (.ite (!F.fit v o) (.leaf (.v (E8 σ ErA),[.ver v],[])) (.need (F.okg v o) (.leaf (.v (.c .inil),[.ver (F.gv v o)],[]))))
   | none=>.fail "Give"
 | _,_=>.fail "Give"
def Ox (F:VlF) (args:List SV) (l:List AV):T (SV×List AV×List AV):=match args,l with
 | [.v (.c (.ptr 7 0)),.v (.c (.ptr 8 0))],[.ver v,.plot p]=>.need (F.oks v p) (.leaf (.tup [Ow (F.sr v p),.c .inil],[.ver (F.sv v p),.plot (F.sp v p)],[]))
 | _,_=>.fail "Step"
noncomputable def vlM:VlF where
 okl:=Lm
 ld:=zK
 bad:=yx
 mv:=oe
 okk v:=fO (yO v /\ v.doing=0)
 fit v o:=iw v.sort o
 okg v o:=fO (Gx v o)
 gv:=fB
 oks v p:=fO (v.doing≠0 /\ p.Ok /\ p.valid (gS v.rite).1 /\ Gv v p)
 sr v p:=(cD v p).1
 sv v p:=(cD v p).2.1
 sp v p:=(cD v p).2.2
theorem ML (args:List SV) (l:List AV) (r:SV×List AV×List AV) (h:(PO σ vlM args l).val=some r):(GV σ args l).val=some r:=by
 unfold PO at h
 split at h
 ·split at h
  ·rename_i o h0
   obtain⟨h1,h⟩:=aj h
   obtain⟨k1,k2⟩:=eU h1
   simp only [GV,h0]
   rw [nv (fN k1),ivF (by rw [k2];rfl)]
   exact h
  ·simp [T.val] at h
 ·simp [T.val] at h
theorem J8 (args:List SV) (l:List AV) (r:SV×List AV×List AV) (h:(Ox vlM args l).val=some r):(Ga σ args l).val=some r:=by
 unfold Ox at h
 split at h
 ·rename_i v p
  obtain⟨h1,h⟩:=aj h
  obtain⟨k1,k2,k3,k4⟩:=eU h1
  simp only [Ga]
  rw [ivF (by simpa using k1),nv (decide_eq_true k2),ivT (decide_eq_true k3),nv (fN k4)]
  exact h
 ·simp [T.val] at h
theorem Tx:FnOk Tryz.prog (NV σ) 9 (aZ isS mGv (PO σ vlM)):=zU PL ML
theorem Si:FnOk Tryz.prog (NV σ) 11 (aZ isS mSt (Ox vlM)):=zU Oy J8
end
section
open Go Go.Sx Go.Proofs
set_option maxRecDepth 100000
set_option maxHeartbeats 0
variable {σ:Sg}
noncomputable def N11:Code:=fv 11 (bx (cB Tryz.f3))
noncomputable def N15:Code:=fv 15 (bx (cB Tryz.f3))
def yT (ops:List O) (p:PlotM) (v:VerM):Hp AV:=hpO allM [.opsA ops,.plot p,.ver v]
def Iz:List Nat:=[1,5,6,8]
def xY (ops:List O) (no:Nat) (i:Int) (p:PlotM) (v:VerM):Sx.St AV:={E:=only Iz [(1,.v (.c (.vs 7 0 no 4 false))),(5,.v (.c (.ptr 8 0))),(6,.v (.c (.ptr 9 0))),(8,.v (.c (.it .i64 i)))] 81,H:=yT ops p v}
def Iy:List Nat:=[1,5,6,8,9]
def BE (ops:List O) (no:Nat) (i k:Int) (p:PlotM) (v:VerM):Sx.St AV:={E:=only Iy [(1,.v (.c (.vs 7 0 no 4 false))),(5,.v (.c (.ptr 8 0))),(6,.v (.c (.ptr 9 0))),(8,.v (.c (.it .i64 i))),(9,.v (.c (.it .i64 k)))] 81,H:=yT ops p v}
noncomputable def F0 (F:VlF):Tab:=aQ 10 (aZ isS noM (dK aNo vBo oVer (fun _ _=>none) (fun v _=>(jG v,v)))) (aQ 11 (aZ isS mSt (Ox F)) bm)
noncomputable def F7 (σ:Sg) (F:VlF):Tab:=aQ 10 (aZ isS noM (dK aNo vBo oVer (fun _ _=>none) (fun v _=>(jG v,v)))) (aQ 9 (aZ isS mGv (PO σ F)) (aQ 12 (aZ isS noM EK) bm))
theorem XW (σ:Sg) (F:VlF) (ops:List O) (no:Nat) (i k:Int) (p:PlotM) (v:VerM):(xc (NV σ) (aN (lv (NV σ) (F0 F) 8)) (fun _=>none) 81 N15 (BE ops no i k p v)).bind (cM 10 81 Iy cP) =
 .ite (decide (k < 20000)==true) (.ite (jG v) (.need (F.oks v p) (.ite ((F.sr v p).real != 0) (.leaf (.ret,BE ops no i k (F.sp v p) (F.sv v p))) (.leaf (.normal,BE ops no i (IntKind.wrap .i64 (k+1)) (F.sp v p) (F.sv v p))))) (.leaf (.exit 2,BE ops no i k p v))) (.leaf (.exit 2,BE ops no i k p v)):=by kernel_rfl
structure MI where
 k:Nat
 p:PlotM
 v:VerM
def GS (n:Nat) (m:MI):Prop:=m.k<=19000 /\ NvI n (19000 - m.k) m.v m.p
noncomputable def wy (n:Nat) (m:MI):T (Ex×MI):=.need (fO (GS n m)) (.leaf (cond (jG m.v) (.normal,⟨m.k+1,(cD m.v m.p).2.2,(cD m.v m.p).2.1⟩) (.exit 2,m)))
def MR (ops:List O) (no:Nat) (i:Int) (m:MI):Sx.St AV:=BE ops no i (m.k:Int) m.p m.v
theorem JU:bO Tryz.prog (NV σ) (F0 vlM):=au DC (au Si aJ)
theorem um {v:VerM}:jG v=true↔v.doing≠0:=by unfold jG;simp
theorem MB {n:Nat} {m:MI} (h:GS n m) (hb:m.v.doing≠0):m.k < 19000:=by
 rcases Nat.lt_or_ge m.k 19000 with h1 | h1
 ·exact h1
 ·have h2:=h.2.run
  rw [show 19000 - m.k=0 by omega] at h2
  exact absurd (Cu h2).1.dg hb
theorem Ei (σ:Sg) (n:Nat) (ops:List O) (no:Nat) (i:Int) (m:MI) (r:Ex×MI) (h:(wy n m).val=some r) :
 ((xc (NV σ) (aN (lv (NV σ) (F0 vlM) 8)) (fun _=>none) 81 N15 (MR ops no i m)).bind (cM 10 81 Iy cP)).val=some (r.1,MR ops no i r.2):=by
 obtain⟨hb,h⟩:=aj (h:(T.need _ _).val=_)
 have hi:=eU hb
 have hl:=hi.1
 obtain⟨k,p,v⟩:=m
 dsimp only at hl
 simp only [T.val,Option.some.injEq] at h
 subst h
 show ((xc (NV σ) _ _ 81 N15 (BE ops no i k p v)).bind _).val=_
 rw [XW,ivT (by rw [decide_eq_true (show (k:Int) < 20000 by omega)];rfl)]
 cases hw:jG v with
 | false=>rw [ivF rfl];rfl
 | true =>
   have hd:=um.1 hw
   have hlt:=MB hi hd
   dsimp only at hlt
   obtain⟨s1,s2,s3,s4,s5⟩:=Gz (k:=18999 - k) (by rw [show 18999 - k+1=19000 - k by omega];exact hi.2) hd
   rw [ivT rfl]
   refine(nv (fN ⟨hd,hi.2.pl.ok,s2,s1⟩)).trans ((ivF (by show ((cD v p).1.real != 0)=false;rw [s3];rfl)).trans ?_)
   show some (Ex.normal,BE ops no i (IntKind.wrap .i64 ((k:Int)+1)) _ _)=_
   rw [FI (by omega)];rfl
noncomputable def uA:Nat->MI->MI
 | 0,m=>m
 | f+1,m=>cond (jG m.v) (uA f ⟨m.k+1,(cD m.v m.p).2.2,(cD m.v m.p).2.1⟩) m
theorem Bz {n:Nat}:∀{f:Nat} {m:MI},m.k+f=19000->NvI n f m.v m.p->dj (wy n) (f+1) m=some (.exit 2,uA f m) /\ NvI n 0 (uA f m).v (uA f m).p /\ (uA f m).v.doing=0 /\ (uA f m).v.sort=m.v.sort
 | 0,m,hk,h=>by
   have hi:GS n m:=⟨by omega,by rw [show 19000 - m.k=0 by omega];exact h⟩
   have hd:m.v.doing=0:=(Cu h.run).1.dg
   have hw:jG m.v=false:=by unfold jG;rw [hd];rfl
   refine⟨?_,h,hd,rfl⟩
   rw [dj,wy,nv (fN hi),hw];rfl
 | f+1,m,hk,h=>by
   have hi:GS n m:=⟨by omega,by rw [show 19000 - m.k=f+1 by omega];exact h⟩
   rw [dj,wy,nv (fN hi),uA]
   cases hw:jG m.v with
   | false =>
     have hd:m.v.doing=0:=by
      by_cases e:m.v.doing=0
      ·exact e
      ·exact absurd (um.2 e) (by rw [hw];decide)
     exact⟨rfl,⟨h.so,h.wf,h.rest,h.pl,h.hd,.inl (za h.run hd)⟩,hd,rfl⟩
   | true =>
     obtain⟨s1,s2,s3,s4,s5⟩:=Gz h (um.1 hw)
     obtain⟨a,b,c,d⟩:=Bz (f:=f) (m:=⟨m.k+1,(cD m.v m.p).2.2,(cD m.v m.p).2.1⟩) (by show m.k+1+f=_;omega) s4
     exact⟨a,b,c,d.trans s5⟩
def Xm (ops:List O) (no:Nat) (i:Int) (p:PlotM) (v:VerM) (s:Sx.St AV):Prop:=Sx.look s.E 1=.v (.c (.vs 7 0 no 4 false)) /\ Sx.look s.E 5=.v (.c (.ptr 8 0)) /\ Sx.look s.E 6=.v (.c (.ptr 9 0)) /\ Sx.look s.E 8=.v (.c (.it .i64 i)) /\ Sx.look s.E 9=.v (.c (.il .i64 (Int.ofNat 0))) /\ s.H=yT ops p v
noncomputable def g15 (e:PlotM->VerM->MI) (c:PlotM->VerM->Prop) (s:Sx.St AV):T (Ex×Sx.St AV):=match Sx.look s.E 1,Sx.look s.E 8,ab s.H 7,ab s.H 8,ab s.H 9 with
 | .v (.c (.vs n0 o0 no e0 b0)),.v (.c (.it .i64 i)),some (.abs (.opsA ops)),some (.abs (.plot p)),some (.abs (.ver v))=>.need (fO (Xm ops no i p v s /\ c p v)) (.leaf (.exit 2,BE ops no i (e p v).k (e p v).p (e p v).v))
 | _,_,_,_,_=>.fail "enter"
noncomputable def mA (p:PlotM) (v:VerM):MI:=uA 19000 ⟨0,p,v⟩
theorem TR {N':Env AV} (hF:N'.F=(NV σ).F) (hG:N'.G=(NV σ).G) (n:Nat):dG Tryz.prog N' 81 N15 (g15 mA fun p v=>NvI n 19000 v p):=by
 have hcal:dM Tryz.prog (NV σ) (aN (lv (NV σ) (F0 vlM) 8)):=bK (iH okV oq hvV JU 8)
 refine cJ (N:=NV σ) hF hG okV hcal (lp:=fun _=>none) (fun _ _ _ g hg=>by cases hg) fun s s' ex hgs=>?_
 obtain⟨E1,H1⟩:=s
 unfold g15 at hgs
 split at hgs
 ·rename_i n0 o0 no e0 b0 i ops p v _ _ _ _ _
  replace hgs:=aj hgs
  obtain⟨hb,hgs⟩:=hgs
  obtain⟨⟨e1,e5,e6,e8,e9,eH⟩,hv⟩:=eU hb
  simp only at e1 e5 e6 e8 e9 eH
  subst eH
  simp only [T.val,Option.some.injEq,Prod.mk.injEq] at hgs
  obtain⟨rfl,rfl⟩:=hgs
  refine⟨{M:=MI,fam:=MR ops no i,step:=wy n,ks:=Iy,pk:=cP,hpk:=fun d a h=>(by cases h),L:=10,len:=rfl,hGL:=(by show 7<=10;decide),run:=Ei σ n ops no i,m:=⟨0,p,v⟩,k:=19001,m':=mA p v,ent:=?_,it:=(Bz (m:=⟨0,p,v⟩) rfl hv).1,fin:=rfl}⟩
  have he:=eT (N:=NV σ) (nt:=81) (s:={E:=E1,H:=yT ops p v}) (ks:=Iy) (E':=[(1,.v (.c (.vs 7 0 no 4 false))),(5,.v (.c (.ptr 8 0))),(6,.v (.c (.ptr 9 0))),(8,.v (.c (.it .i64 i))),(9,.v (.c (.it .i64 ((0:Nat):Int))))]) (l:=[]) (fun a h=>by cases h) (by show 7<=10;decide) fun k hk=>by
   simp only [Iy,List.mem_cons,List.not_mem_nil,or_false] at hk
   rcases hk with rfl | rfl | rfl | rfl | rfl
   ·exact .inl e1.symm
   ·exact .inl e5.symm
   ·exact .inl e6.symm
   ·exact .inl e8.symm
   ·refine .inr (.inl ⟨?_,?_,fun ρ=>?_⟩)
    ·show Sx.look E1 9≠_
     rw [e9];exact fun h=>by cases h
    ·exact pL 0
    ·show _=(Sx.look E1 9).den ρ
     rw [e9];rfl
  exact he
 ·simp [T.val] at hgs
noncomputable def LX (e:PlotM->VerM->MI) (c:PlotM->VerM->Prop):Nat->Option (Sx.St AV->T (Ex×Sx.St AV)):=fun id=>match Nat.beq id 15 with | true=>some (g15 e c) | false=>none
theorem Pp (n:Nat):FE Tryz.prog (NV σ) 81 N11 (LX mA fun p v=>NvI n 19000 v p):=fun id b hb g hg=>by
 unfold LX at hg
 split at hg
 ·rename_i e
  have e:=(ai _ _).1 e
  subst e
  cases hg
  have:b=N15:=by
   have h:=br (id:=15) (l:=bx N11) (by kernel_rfl) (15,b) hb rfl
   rw [show b=fv 15 (bx N11) from h]
   have:fv 15 (bx N11)=N15:=by kernel_rfl
   exact this
  rw [this]
  exact TR rfl rfl n
 ·cases hg
end
end Go.Proofs.YtadmfaohjnjajaaGreatDoor
