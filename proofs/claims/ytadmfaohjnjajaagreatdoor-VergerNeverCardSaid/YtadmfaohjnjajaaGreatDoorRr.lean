import Derived.Test.YtadmfaohjnjajaaGreatDoorRu
import Derived.Test.YtadmfaohjnjajaaGreatDoorRn
import Derived.Test.YtadmfaohjnjajaaGreatDoorSxOf
import Derived.Test.YtadmfaohjnjajaaGreatDoorQr
import Derived.Test.YtadmfaohjnjajaaGreatDoorOr
set_option linter.unusedVariables false
set_option linter.unusedSimpArgs false
set_option maxHeartbeats 4000000
namespace Go.Proofs.YtadmfaohjnjajaaGreatDoor
section
open Go Go.Sx Go.Proofs
set_option maxRecDepth 100000
set_option maxHeartbeats 4000000
structure S3.Ok (n:Int) (s:S3):Prop where
 p0:AOk n s.p0
 c0:WOk n s.c0
 p1:AOk n s.p1
 c1:WOk n s.c1
 p2:AOk n s.p2
 c2:WOk n s.c2
theorem S3.put_ok {n:Int} {s:S3} (h:s.Ok n) {l:Int} {p:Ad} {c:W} (hp:AOk n p) (hc:WOk n c):(S3.put s l p c).Ok n:=by
 unfold S3.put
 split
 ·exact⟨hp,hc,h.p1,h.c1,h.p2,h.c2⟩
 ·split
  ·exact⟨h.p0,h.c0,hp,hc,h.p2,h.c2⟩
  ·exact⟨h.p0,h.c0,h.p1,h.c1,hp,hc⟩
structure ClimbM.WF (n:Int) (c:ClimbM):Prop where
 lv:c.level=0 \/ c.level=1 \/ c.level=2
 prev:AOk n c.prev
 cur:WOk n c.cur
 next:WOk n c.next
 spots:c.spots.Ok n
 found:WOk n c.found
 pc:c.pc=-1 \/ c.pc=0 \/ c.pc=2 \/ c.pc=3 \/ c.pc=4 \/ c.pc=5 \/ c.pc=6 \/ c.pc=7 \/ c.pc=8 \/ c.pc=9
 nz:(c.pc=3 \/ c.pc=4 \/ c.pc=5 \/ c.pc=6 \/ c.pc=7 \/ c.pc=8)->1<=c.cur.slot
def ClimbM.rk (c:ClimbM):Nat:=if c.pc=5 then 2 else if c.pc=2 \/ c.pc=6 \/ c.pc=7 then 1 else 0
structure ClimbOk (n:Int) (pc0:Int) (r0:Nat) (r:(Cl×Bool)×ClimbM):Prop where
 on:r.1.2=true->nr n r.1.1
 wf:r.2.WF n
 rk:r.1.2=true->imm r.1.1->r.2.rk < r0
 off:r.1.2=false->r.2.pc=-1
 st:pc0=0->r.1.2=true
theorem NJ {n:Int} {a:Ad} (h:AOk n a) (hs:a.s≠0) {f:Int} (h0:0<=f) (h1:f < 10):AOk n {a with f:=f}:=by
 rcases h with⟨h,_⟩ | ⟨h2,h3,_⟩
 ·exact absurd h hs
 ·exact .inr ⟨h2,h3,h0,h1⟩
theorem yn {n:Int} (h0:0<=n) {c:ClimbM} (h:c.WF n) {x:Rp1} (hx:WOk n x.w):ClimbOk n c.pc c.rk (ao c x):=by
 obtain⟨pc,last,prev,cur,bound,level,next,k,spots,found⟩:=c
 obtain⟨hlv,hpv,hc,hn,hsp,hfo,hp,hz⟩:=h
 dsimp only at hlv hpv hc hn hsp hfo hp hz
 have nx:0<=x.w.slot:=hx.1
 have nn:0<=next.slot:=hn.1
 rcases hlv with rfl | rfl | rfl<;>rcases hp with rfl | rfl | rfl | rfl | rfl | rfl | rfl | rfl | rfl | rfl
 all_goals unfold ao iz
 all_goals dsimp only [id]
 all_goals simp only [if_true,show ¬(1:Int)=0 by decide,show ¬(2:Int)=0 by decide,if_false]
 all_goals (repeat' (refine dF (fun hb=>?_) (fun hb=>?_)<;>first | (exact absurd hb (by decide)) | skip))
 all_goals refine⟨?_,⟨?_,?_,?_,?_,?_,?_,?_,?_⟩,?_,?_,?_⟩
 all_goals dsimp only [ClimbM.rk]
 all_goals first
  | assumption
  | exact fun h=>absurd h (by decide)
  | decide
  | exact S3.put_ok hsp (by assumption) (by assumption)
  | exact fun _=>dk h0 (by assumption) (by decide) (by decide)
  | exact fun _=>dk h0 (dh (by decide) (by decide)) (by decide) (by decide)
  | exact fun _=>dk h0 (aq (by assumption) (by decide) (by decide)) (by decide) (by decide)
  | exact fun _=>aO h0 (aq (by assumption) (by decide) (by decide))
  | exact fun _=>aO h0 (by assumption)
  | exact fun _=>aV (by assumption) (by assumption) (b5 (by assumption))
  | exact fun _=>Au h0 (by unfold vr;decide)
  | exact dh (by decide) (by decide)
  | exact aq (by assumption) (by decide) (by decide)
  | exact NJ hpv (neI (by assumption)) (by decide) (by decide)
  | exact b5 hn
  | exact bo (by assumption)
  | exact bo (b5 hn)
  | exact S3.put_ok hsp hpv (b5 hn)
  | exact fun _=>hz (by decide)
  | exact fun _=>(by have:=neI (by assumption:(x.w.slot==0)=false);omega)
  | exact fun _=>(by have:=neI (by assumption:(next.slot==0)=false);omega)
  | exact fun _=>(by have:=neI (by assumption:((wTo cur next).slot==0)=false);show 1<=next.slot;exact(by have h:next.slot≠0:=this;omega))
  | exact fun _ h=>absurd h cF
  | exact fun _ h=>absurd h dA
  | exact fun _ h=>absurd h jE
  | exact fun _=>rfl
  | exact fun _ _=>(by simp)
theorem uK {n:Int} (h0:0<=n) (b:Int):(cE b).WF n :=
 ⟨.inl rfl,lP,ay h0,ay h0,⟨lP,ay h0,lP,ay h0,lP,ay h0⟩,ay h0,.inr (.inl rfl),fun h=>absurd h (by show ¬((0:Int)=3 \/ (0:Int)=4 \/ (0:Int)=5 \/ (0:Int)=6 \/ (0:Int)=7 \/ (0:Int)=8);decide)⟩
theorem ji {n:Int} (h0:0<=n) {c:ClimbM} (h:c.WF n) (l:Int):AOk n (az c l).1 /\ WOk n (az c l).2:=by
 unfold az
 split
 ·exact⟨h.spots.p0,h.spots.c0⟩
 ·split
  ·exact⟨h.spots.p1,h.spots.c1⟩
  ·split
   ·exact⟨h.spots.p2,h.spots.c2⟩
   ·exact⟨lP,ay h0⟩
def XT (c:Option ClimbM) (l:Int):Ad×W:=match c with | none=>(dX,wNil) | some c=>az c l
def crk:Option ClimbM->Nat
 | none=>0
 | some c=>c.rk
structure SteM.WF (n:Int) (j:SteM):Prop where
 kd:j.op.kind=6 \/ j.op.kind=7 \/ j.op.kind=8
 tall:j.op.kind=6->j.op.tall<=3
 pc:(j.op.kind=6 /\ (j.pc=-1 \/ j.pc=0 \/ j.pc=1 \/ j.pc=2 \/ j.pc=3 \/ j.pc=4 \/ j.pc=5 \/ j.pc=6 \/ j.pc=7 \/ j.pc=8 \/ j.pc=9 \/ j.pc=10 \/ j.pc=11 \/ j.pc=12)) \/ (j.op.kind=7 /\ (j.pc=-1 \/ j.pc=0 \/ j.pc=1 \/ j.pc=2 \/ j.pc=3 \/ j.pc=4 \/ j.pc=5 \/ j.pc=6)) \/ (j.op.kind=8 /\ (j.pc=-1 \/ j.pc=0 \/ j.pc=1 \/ j.pc=2)) \/ (j.pc=101 \/ j.pc=102 \/ j.pc=103 \/ j.pc=104)
 last:j.pc=-1->j.last.kind=12
 node:WOk n j.node
 nd:(j.op.kind=6 /\ 2<=j.pc) \/ (j.op.kind=7 /\ 2<=j.pc) \/ 101<=j.pc->1<=j.node.slot
 cl:∀c,j.climb=some c->c.WF n
 lv:(j.op.kind=6 /\ (j.pc=7 \/ j.pc=9 \/ j.pc=10 \/ j.pc=11 \/ j.pc=12)) \/ (j.op.kind=7 /\ (j.pc=3 \/ j.pc=4 \/ j.pc=5))->0<=j.level /\ j.level<=2
def SteM.aw (c:Cl) (j:SteM):Prop:=j.op.kind=6->j.pc=1->c.kind=8
def SteM.rk (j:SteM):Nat:=crk j.climb+if j.pc=103 then 1 else 0
def Yk (n:Int) (r0:Nat) (r:Cl×SteM):Prop:=NextOk n r.1 (r.2.WF n) (r.2.aw r.1) r0 r.2.rk
theorem N3 {l:Int} (h0:0<=l+1) (h1:l<=2):bH l=l+1:=jl (by omega)
theorem gL {n:Int} {w:W} (h:WOk n w) {l:Int} (h0:0<=l) (h1:l<=2):AOk n (af w (cA 2 l)):=by
 have e:cA 2 l=2+l:=jl (by omega)
 rw [e]
 exact aq h (by omega) (by omega)
end
section
open Go Go.Sx Go.Proofs
set_option maxRecDepth 100000
set_option maxHeartbeats 60000000
theorem Nb {n:Int} {pc0:Int} {b:Int} {r:(Cl×Bool)×ClimbM} (h:ClimbOk n pc0 (cE b).rk r) (hb:r.1.2=true):¬imm r.1.1:=fun hi=>Nat.not_lt_zero _ (h.rk hb hi)
theorem P8 {n:Int} {pc0:Int} {r0:Nat} {r:(Cl×Bool)×ClimbM} (h:ClimbOk n pc0 r0 r) (hb:r.1.2=false):r.2.rk=0:=by
 unfold ClimbM.rk
 rw [h.off hb];rfl
theorem vG {n:Int} {w:ClimbM} (h:w.WF n):∀w',some w=some w'->w'.WF n:=fun w' e=>by cases e;exact h
theorem Qk {n:Int}:∀w',(none:Option ClimbM)=some w'->w'.WF n:=fun w' e=>by cases e
theorem Lr {n:Int} {w:W} (h:WOk n w) (hb:(w.slot==0)=false):1<=w.slot:=by
 have:=neI hb;have:=h.1;omega
theorem dle {a b:Int} (h:decide (a>=b)=false):a < b:=by have:=of_decide_eq_false h;omega
theorem dlt {a b:Int} (h:decide (a < b)=true):a < b:=of_decide_eq_true h
theorem XV {a:Int} (h:orB (decide (a < 1)) (decide (a > 3))=false):0<=IntKind.wrap .i64 (a - 1) /\ IntKind.wrap .i64 (a - 1)<=2:=by
 have h1:¬a < 1:=fun h1=>by rw [decide_eq_true h1] at h;cases h
 have h2:¬a > 3:=fun h2=>by rw [decide_eq_true h2,decide_eq_false h1] at h;cases h
 rw [jl (by omega)];omega
theorem okx {b:Bool} (h:(!b)=false):b=true:=by cases b<;>simp_all
theorem Sj {n:Int} (h0:0<=n) {j:SteM} (h:j.WF n) {hd:Bool} {c:Cl} (ha:j.aw c) {x:Rp1} (hr:RpFor n hd c x):Yk n j.rk (ax j x):=by
 obtain⟨pc,last,⟨kd,ky,val,tall⟩,cl,node,lv,inc,v⟩:=j
 obtain⟨hk,htl,hp,hl,hn,hnd,hcl,hlv⟩:=h
 dsimp only [SteM.aw] at hk htl hp hl hn hnd hcl hlv ha
 have al:kd=6->pc=1->x.ok=true->1<=x.w.slot:=fun h6 h=>hr.al (ha h6 h)
 have hx:=hr.w
 clear hr ha
 have nx:0<=x.w.slot:=hx.1
 have hnk:=yn h0 (uK h0 ky) hx
 have hnk1:=yn h0 (uK h0 (bH ky)) hx
 rcases hp with⟨rfl,hp⟩ | ⟨rfl,hp⟩ | ⟨rfl,hp⟩ | hp<;>rcases cl with _ | w
 all_goals first
  | (have hww:=hcl _ rfl;have hwk:=yn h0 hww hx;have hpl:=ji h0 hww)
  | skip
 all_goals unfold ax l7
 all_goals dsimp only [id]
 all_goals try simp only [show ¬((7:Int)=6) by decide,show ¬((8:Int)=6) by decide,show ¬((8:Int)=7) by decide,if_false,if_true]
 all_goals have hpl1:=fun(hb:ClimbM.WF n (ao (cE ky) x).2)=>ji h0 hb
 all_goals generalize ao (cE ky) x=r1 at hnk hpl1 ⊢
 all_goals have hpl2:=fun(hb:ClimbM.WF n (ao (cE (bH ky)) x).2)=>ji h0 hb
 all_goals generalize ao (cE (bH ky)) x=r2 at hnk1 hpl2 ⊢
 all_goals obtain⟨⟨c1,b1⟩,w1⟩:=r1
 all_goals obtain⟨⟨c2,b2⟩,w2⟩:=r2
 all_goals first
  | (have hpl3:=fun(hb:ClimbM.WF n (ao w x).2)=>ji h0 hb
     generalize ao w x=r3 at hwk hpl3 ⊢
     obtain⟨⟨c3,b3⟩,w3⟩:=r3)
  | skip
 all_goals ((repeat' (rcases (hp:_ \/ _) with hp | hp))<;>subst hp)
 all_goals dsimp only
 all_goals (repeat' (refine dF (fun hb=>?_) (fun hb=>?_)<;>first | (exact absurd hb (by decide)) | (exact absurd (of_decide_eq_true hb) (by decide)) | (exact absurd (of_decide_eq_false hb) (by decide)) | skip))
 all_goals first
  | (have hlv0:=hlv (by decide);have e1:bH lv=lv+1:=N3 (by omega) (by omega);have e2:IntKind.wrap .i64 (lv - 1)=lv - 1:=jl (by omega);try rw [e1];try rw [e2] at *)
  | skip
 all_goals have e0:bH (-1)=0:=rfl
 all_goals try rw [e0]
 all_goals refine⟨?_,⟨?_,?_,?_,?_,?_,?_,?_,?_⟩,?_,?_⟩
 all_goals dsimp only [SteM.rk,SteM.aw]
 all_goals first
  | exact .inl rfl
  | exact .inl (hl rfl)
  | exact .inr (dY h0)
  | exact .inr (hwk.on (by assumption))
  | exact vG hwk.wf
  | exact .inr (aO h0 (aq hwk.wf.found (by decide) (by decide)))
  | exact hwk.wf.found
  | exact fun _=>Lr hwk.wf.found (by assumption)
  | exact .inr (hnk.on (by assumption))
  | exact vG hnk.wf
  | exact .inr (aO h0 (aq hnk.wf.found (by decide) (by decide)))
  | exact hnk.wf.found
  | exact fun _=>Lr hnk.wf.found (by assumption)
  | exact .inr (hnk1.on (by assumption))
  | exact vG hnk1.wf
  | exact .inr (aO h0 (aq hnk1.wf.found (by decide) (by decide)))
  | exact hnk1.wf.found
  | exact fun _=>Lr hnk1.wf.found (by assumption)
  | exact .inr (aL h0 (gL hn (by omega) (by omega)) (bo (hpl3 hwk.wf _).2))
  | exact .inr (aV (hpl3 hwk.wf _).1 (hpl3 hwk.wf _).2 (b5 hn))
  | exact .inr (aL h0 (gL hn (by omega) (by omega)) (bo (hpl1 hnk.wf _).2))
  | exact .inr (aV (hpl1 hnk.wf _).1 (hpl1 hnk.wf _).2 (b5 hn))
  | exact .inr (aL h0 (gL hn (by omega) (by omega)) (bo (hpl2 hnk1.wf _).2))
  | exact .inr (aV (hpl2 hnk1.wf _).1 (hpl2 hnk1.wf _).2 (b5 hn))
  | exact .inr (gW h0 hn (hnd (by decide)))
  | exact .inr (eG h0 hn (hnd (by decide)))
  | exact .inr (eG h0 hn (hnd (.inr (.inr (by decide)))))
  | exact .inr (aO h0 (aq hn (by decide) (by decide)))
  | exact .inr (aL h0 (aq (by assumption) (by decide) (by decide)) (dP h0 _))
  | exact .inr (aV (aq hn (by decide) (by decide)) hx (lT h0))
  | exact .inr (aO h0 (gL hn (by omega) (by omega)))
  | exact .inr (aV (gL hn (by omega) (by omega)) hx (gE hx))
  | exact .inr (aO h0 (gL hn (by have:=htl rfl;have:=dle (by assumption);omega) (by have:=htl rfl;have:=dle (by assumption);omega)))
  | exact .inr (aL h0 (gL hn (by have:=htl rfl;have:=dlt (by assumption);omega) (by have:=htl rfl;have:=dlt (by assumption);omega)) (bo (ay h0)))
  | exact .inr (aV lP (ay h0) (b5 hn))
  | exact .inr (aV (gL hn (by omega) (by omega)) hx (b5 (ay h0)))
  | exact .inr (aV (hpl _).1 (hpl _).2 (b5 hn))
  | exact .inr (aV (gL hn (by omega) (by omega)) hx (b5 (hpl _).2))
  | exact .inr (aL h0 (gL hn (by have:=htl rfl;have:=dlt (by assumption);omega) (by have:=htl rfl;have:=dlt (by assumption);omega)) (bo (hpl _).2))
  | exact .inr (aL h0 (gL hn (by have:=htl rfl;have:=dlt (by assumption);omega) (by have:=htl rfl;have:=dlt (by assumption);omega)) (bo (hpl3 hwk.wf _).2))
  | exact .inr (aL h0 (gL hn (by have:=htl rfl;have:=dlt (by assumption);omega) (by have:=htl rfl;have:=dlt (by assumption);omega)) (bo (hpl1 hnk.wf _).2))
  | exact .inr (aL h0 (gL hn (by have:=htl rfl;have:=dlt (by assumption);omega) (by have:=htl rfl;have:=dlt (by assumption);omega)) (bo (hpl2 hnk1.wf _).2))
  | assumption
  | exact htl
  | exact .inr (.inr (.inr (by decide)))
  | exact fun h=>h.elim (fun h=>absurd h.2 (by decide)) (fun h=>absurd h.2 (by decide))
  | exact fun _=>htl rfl
  | exact ay h0
  | decide
  | exact fun h=>absurd h (by decide)
  | exact fun _=>rfl
  | exact fun _ _=>rfl
  | exact fun h _=>absurd h (by decide)
  | exact fun _ h=>absurd h (by decide)
  | exact fun _=>hnd (by decide)
  | exact fun _=>hnd (.inr (.inr (by decide)))
  | exact fun _=>al rfl rfl (okx (by assumption))
  | exact fun _=>⟨by omega,by omega⟩
  | exact fun _=>hlv (by decide)
  | exact fun _=>XV (by assumption)
  | exact fun _=>(by have:=neI (by assumption:(lv==0)=false);omega)
  | exact fun _=>(by have:=of_decide_eq_true (by assumption:decide (lv > 0)=true);omega)
  | exact .inr (aO h0 (gL hn (by have:=neI (by assumption:(lv==0)=false);omega) (by omega)))
  | exact .inr (aO h0 (gL hn (by have:=of_decide_eq_true (by assumption:decide (lv > 0)=true);omega) (by omega)))
  | exact fun _=>(by have:=htl rfl;have:=dle (by assumption);omega)
  | exact fun _=>(by have:=htl rfl;have:=dlt (by assumption);omega)
  | exact hk.elim (fun h=>.inl ⟨h,.inl rfl⟩) fun h=>.inr (h.elim (fun h=>.inl ⟨h,.inl rfl⟩) fun h=>.inr (.inl ⟨h,.inl rfl⟩))
  | exact vG hww
  | exact Qk
  | exact fun h=>absurd h cF
  | exact fun h=>absurd h dN
  | exact fun h=>absurd h dA
  | exact fun h=>absurd h fg
  | exact fun h=>absurd h gk
  | exact fun h=>absurd h iu
  | exact fun h=>absurd h jE
  | exact fun h=>absurd h (fw (hl rfl) (by decide) (by decide))
  | exact fun h=>absurd h (Nb hnk (by assumption))
  | exact fun h=>absurd h (Nb hnk1 (by assumption))
  | exact fun h=>(by have hq:=hwk.rk (by assumption) h;simp [crk];exact hq)
  | exact fun h=>(by have hq:=P8 hwk (by assumption);simp [crk];exact(by have hq:w3.rk=0:=hq;omega))
  | exact absurd (hnk.st rfl) (by have hq:b1=false:=(by assumption);show ¬b1=true;rw [hq];decide)
  | exact absurd (hnk1.st rfl) (by have hq:b2=false:=(by assumption);show ¬b2=true;rw [hq];decide)
  | exact fun _=>(by simp [crk])
end
section
open Go Go.Sx Go.Proofs
set_option maxRecDepth 100000
set_option maxHeartbeats 4000000
structure VauM.WF (n:Int) (j:VauM):Prop where
 key:0<=j.op.key /\ j.op.key < 256
 kd:j.op.kind=6 \/ j.op.kind=7 \/ j.op.kind=8
 child:0<=j.child /\ j.child < 8
 pc:j.pc=-1 \/ j.pc=0 \/ j.pc=1 \/ j.pc=2 \/ j.pc=3 \/ j.pc=4 \/ j.pc=5 \/ j.pc=6 \/ j.pc=7 \/ j.pc=8 \/ j.pc=9 \/ j.pc=10 \/ j.pc=11 \/ j.pc=12 \/ j.pc=13 \/ j.pc=14 \/ j.pc=15
 last:j.pc=-1->j.last.kind=12
 wb:j.pc=2->fD j.wanted j.bucket=true
 wc:3<=j.pc /\ j.pc<=10->pM j.wanted j.child=true
 base:WOk n j.base
 node:WOk n j.node
 sent:WOk n j.sentinel
 count:WOk n j.count
 nd:4<=j.pc /\ j.pc<=8->1<=j.node.slot
 wk:∀w,j.walk=some w->w.WF n
 inn:j.pc=11->∃l,j.inner=some l /\ l.WF n
def VauM.aw (c:Cl) (j:VauM):Prop:=(j.pc=3->c.kind=8) /\ (j.pc=11->∀l,j.inner=some l->l.aw c)
def lrk:Option LitM->Nat
 | none=>0
 | some l=>l.rk
def VauM.rk (j:VauM):Nat:=if j.pc=11 then lrk j.inner else wrk j.walk
def g7 (n:Int) (r0:Nat) (r:Cl×VauM):Prop:=NextOk n r.1 (r.2.WF n) (r.2.aw r.1) r0 r.2.rk
def RJ (a:An):Cl:=⟨12,dX,wNil,wNil,0,0,a⟩
noncomputable def B5 (a:An) (j:VauM):Cl×VauM:=(RJ a,{j with pc:=-1,last:=RJ a})
noncomputable def R4 (c:Cl) (j:VauM):Cl×VauM:=cond (c.kind != 12) (c,j) (cond (orB (c.ans.code != 1) (j.op.kind==8)) (B5 c.ans {j with answer:=c.ans}) (aM (aC 17),{j with answer:=c.ans,pc:=12}))
noncomputable def FN (j:VauM):Cl×VauM:=R4 (bj (fq (af j.base 2,gd j.op.key,j.op)) ⟨wNil,false⟩).1 {j with inner:=some (bj (fq (af j.base 2,gd j.op.key,j.op)) ⟨wNil,false⟩).2,pc:=11}
noncomputable def FP (j:VauM):Cl×VauM:=if j.bucket=j.wanted then FN j else(fV,{j with child:=fQ 4 j.wanted j.bucket,pc:=3})
noncomputable def DW (j:VauM) (w:WalkM):Cl×VauM:=cond w.found (kS j.node,{j with walk:=some w,sentinel:=bP w.cur,pc:=6}) (bz (af j.node 2) (bP w.cur),{j with walk:=some w,pc:=7})
noncomputable def JC (j:VauM) (x:Rp1) (w:WalkM):Cl×VauM:=cond (aG w x).1.2 ((aG w x).1.1,{j with walk:=some (aG w x).2,pc:=5}) (DW j (aG w x).2)
structure VauM.W0 (n:Int) (j:VauM):Prop where
 key:0<=j.op.key /\ j.op.key < 256
 kd:j.op.kind=6 \/ j.op.kind=7 \/ j.op.kind=8
 child:0<=j.child /\ j.child < 8
 base:WOk n j.base
 node:WOk n j.node
 sent:WOk n j.sentinel
 count:WOk n j.count
 wk:∀w,j.walk=some w->w.WF n
theorem VauM.WF.w0 {n:Int} {j:VauM} (h:j.WF n):j.W0 n:=⟨h.key,h.kd,h.child,h.base,h.node,h.sent,h.count,h.wk⟩
theorem pcI {p q:Int} (h:p=q) {P:Prop} {lo hi:Int} (hne:¬(lo<=q /\ q<=hi)):lo<=p /\ p<=hi->P:=fun e=>absurd (h▸e) hne
theorem nI {n:Int} {j:VauM} (h:j.W0 n) {r0:Nat} (a:An):g7 n r0 (B5 a j):=by
 refine⟨.inl rfl,⟨h.key,h.kd,h.child,.inl rfl,fun _=>rfl,fun e=>absurd e (by show ¬((-1:Int)=2);decide),fun e=>absurd (show (3:Int)<=-1 from e.1) (by decide),h.base,h.node,h.sent,h.count,fun e=>absurd (show (4:Int)<=-1 from e.1) (by decide),h.wk,fun e=>absurd e (by show ¬((-1:Int)=11);decide)⟩,fun h=>absurd h (fw (k:=12) rfl (by decide) (by decide)),⟨fun e=>absurd e (by show ¬((-1:Int)=3);decide),fun e=>absurd e (by show ¬((-1:Int)=11);decide)⟩⟩
theorem oR {n:Int} (h0:0<=n) {j:VauM} (h:j.W0 n) {r0:Nat} {c:Cl} (hc:nr n c) (hi:¬imm c) {p:Int} (hp:p=1 \/ p=12 \/ p=13 \/ p=14 \/ p=15):g7 n r0 (c,{j with pc:=p}):=by
 rcases hp with rfl | rfl | rfl | rfl | rfl <;>
 ·refine⟨.inr hc,⟨h.key,h.kd,h.child,?_,?_,?_,?_,h.base,h.node,h.sent,h.count,?_,h.wk,?_⟩,fun h=>absurd h hi,⟨?_,?_⟩⟩
  ·dsimp only;decide
  all_goals (intro e;dsimp only at e;exact absurd e (by decide))
theorem FO {n:Int} (h0:0<=n) {j:VauM} (h:j.W0 n) (hpc:j.pc=11) {l:LitM} (hl:j.inner=some l) (hw:l.WF n) {r0:Nat} {c:Cl} (hc:Res n c) (ha:l.aw c) (hr:imm c->l.rk < r0):g7 n r0 (R4 c j):=by
 unfold R4
 refine dF (P:=g7 n r0) (fun hb=>?_) fun hb=>dF (P:=g7 n r0) (fun _=>nI (j:={j with answer:=c.ans}) ⟨h.key,h.kd,h.child,h.base,h.node,h.sent,h.count,h.wk⟩ _) fun _=>oR h0 (j:={j with answer:=c.ans}) ⟨h.key,h.kd,h.child,h.base,h.node,h.sent,h.count,h.wk⟩ (aO h0 (dh (by decide) (by decide))) cF (.inr (.inl rfl))
 have hk:c.kind≠12:=by simpa using hb
 have hc:nr n c:=hc.elim (fun e=>absurd e hk) id
 refine⟨.inr hc,⟨h.key,h.kd,h.child,by rw [hpc];decide,fun e=>absurd (hpc.symm.trans e) (by decide),fun e=>absurd (hpc.symm.trans e) (by decide),pcI hpc (by decide),h.base,h.node,h.sent,h.count,pcI hpc (by decide),h.wk,fun _=>⟨l,hl,hw⟩⟩,fun hi=>?_,⟨fun e=>absurd (hpc.symm.trans e) (by decide),fun _ l' e=>by rw [hl] at e;cases e;exact ha⟩⟩
 show VauM.rk j < r0
 unfold VauM.rk
 rw [if_pos hpc,hl]
 exact hr hi
theorem zy {n:Int} (h0:0<=n) {a:Ad} (ha:AOk n a) {k:Int} {o:O} (ho:o.kind=6 \/ o.kind=7 \/ o.kind=8):(fq (a,k,o)).WF n:=by
 refine⟨ho,ha,?_,fun e=>?_,ay h0,fun _ e=>?_,fun w e=>(by cases e),fun _ e=>?_⟩
 ·rcases ho with h | h | h
  ·exact .inl ⟨h,.inr (.inl rfl)⟩
  ·exact .inr (.inl ⟨h,.inr (.inl rfl)⟩)
  ·exact .inr (.inr ⟨h,.inr (.inl rfl)⟩)
 ·exact absurd (show (0:Int)=-1 from e) (by decide)
 ·exact absurd (show (0:Int)=2 \/ (0:Int)=3 \/ (0:Int)=4 \/ (0:Int)=5 \/ (0:Int)=6 \/ (0:Int)=7 from e) (by decide)
 ·exact absurd (show (0:Int)=2 \/ (0:Int)=3 \/ (0:Int)=4 from e) (by decide)
theorem zz {c:Cl} {x:Ad×Int×O}:(fq x).aw c:=fun _ e=>absurd (show (0:Int)=1 from e) (by decide)
theorem Is {x:Ad×Int×O}:(fq x).rk=0:=by
 unfold LitM.rk fq wrk
 dsimp only
 rw [if_neg (fun e=>absurd e.2 (by decide))]
theorem rp0 {n:Int} (h0:0<=n) {hd:Bool}:RpFor n hd aD ⟨wNil,false⟩:=⟨ay h0,fun e=>absurd (show (0:Int)=8 from e) (by decide),fun _ e=>absurd (show (0:Int)=6 from e) (by decide)⟩
theorem B4 {n:Int} (h0:0<=n) {j:VauM} (h:j.W0 n) {r0:Nat}:g7 n r0 (FN j):=by
 have hl:=ES h0 (zy h0 (a:=af j.base 2) (aq h.base (by decide) (by decide)) (k:=gd j.op.key) h.kd) (hd:=false) (c:=aD) zz (rp0 h0)
 unfold FN
 generalize bj (fq (af j.base 2,gd j.op.key,j.op)) ⟨wNil,false⟩=r at hl ⊢
 refine FO h0 (j:={j with inner:=some r.2,pc:=11}) ⟨h.key,h.kd,h.child,h.base,h.node,h.sent,h.count,h.wk⟩ rfl rfl hl.wf hl.res hl.aw fun hi=>?_
 have:=hl.rk hi
 rw [Is] at this
 exact absurd this (Nat.not_lt_zero _)
theorem z8 {P:Int->Int->Prop} (h:∀i j:Fin 8,P (i.val:Nat) (j.val:Nat)) {w b:Int} (hr:0<=w /\ w < 8 /\ 0<=b /\ b < 8):P w b:=by
 have:=h ⟨w.toNat,by omega⟩ ⟨b.toNat,by omega⟩
 rwa [show ((w.toNat:Nat):Int)=w by omega,show ((b.toNat:Nat):Int)=b by omega] at this
theorem Np {w b:Int} (h:fD w b=true) (hne:¬b=w):pM w (fQ 4 w b)=true /\ 0<=fQ 4 w b /\ fQ 4 w b < 8 :=
 z8 (P:=fun w b=>fD w b=true->¬b=w->pM w (fQ 4 w b)=true /\ 0<=fQ 4 w b /\ fQ 4 w b < 8) (by decide) (g9 h) h hne
theorem BZ {w c:Int} (h:pM w c=true):fD w c=true:=z8 (P:=fun w c=>pM w c=true->fD w c=true) (by decide) (Jr h) h
theorem RR {w b:Int} (h:fD w b=true) (hb:¬b=0):fD w (lK b)=true /\ 0<=lK b /\ lK b < 8 :=
 z8 (P:=fun w b=>fD w b=true->¬b=0->fD w (lK b)=true /\ 0<=lK b /\ lK b < 8) (by decide) (g9 h) h hb
theorem vT {n:Int} (h0:0<=n) {j:VauM} (h:j.W0 n) (hw:fD j.wanted j.bucket=true) {r0:Nat}:g7 n r0 (FP j):=by
 unfold FP
 split
 ·exact B4 h0 h
 ·rename_i hne
  obtain⟨h1,h2⟩:=Np hw hne
  refine⟨.inr (dY h0),⟨h.key,h.kd,h2,?_,?_,?_,fun _=>h1,h.base,h.node,h.sent,h.count,?_,h.wk,?_⟩,fun h=>absurd h fg,⟨fun _=>rfl,?_⟩⟩
  ·dsimp only;decide
  all_goals (intro e;dsimp only at e;exact absurd e (by decide))
theorem Hr {n:Int} (h0:0<=n) {j:VauM} (h:j.W0 n) (hc:pM j.wanted j.child=true) (hn:1<=j.node.slot) {w:WalkM} (hw:w.WF n) {r0:Nat}:g7 n r0 (DW j w):=by
 unfold DW
 refine dF (P:=g7 n r0) (fun hb=>?_) fun hb=>?_
 ·refine⟨.inr (gW h0 h.node hn),⟨h.key,h.kd,h.child,?_,?_,?_,fun _=>hc,h.base,h.node,bo hw.cur,h.count,fun _=>hn,gw hw,?_⟩,fun h=>absurd h gk,⟨?_,?_⟩⟩
  ·dsimp only;decide
  all_goals (intro e;dsimp only at e;exact absurd e (by decide))
 ·refine⟨.inr (aL h0 (aq h.node (by decide) (by decide)) (bo hw.cur)),⟨h.key,h.kd,h.child,?_,?_,?_,fun _=>hc,h.base,h.node,h.sent,h.count,fun _=>hn,gw hw,?_⟩,fun h=>absurd h dN,⟨?_,?_⟩⟩
  ·dsimp only;decide
  all_goals (intro e;dsimp only at e;exact absurd e (by decide))
theorem vP {n:Int} (h0:0<=n) {j:VauM} (h:j.W0 n) (hc:pM j.wanted j.child=true) (hn:1<=j.node.slot) {w:WalkM} (hw:w.WF n) {x:Rp1} (hx:WOk n x.w) {r0:Nat} (hr:w.rk<=r0):g7 n r0 (JC j x w):=by
 have hk:=AM h0 hw hx
 unfold JC
 generalize aG w x=r at hk ⊢
 obtain⟨⟨c,b⟩,w'⟩:=r
 cases b with
 | false=>exact Hr h0 h hc hn hk.wf
 | true =>
   refine⟨.inr (hk.on rfl),⟨h.key,h.kd,h.child,?_,?_,?_,fun _=>hc,h.base,h.node,h.sent,h.count,fun _=>hn,gw hk.wf,?_⟩,fun hi=>?_,⟨?_,?_⟩⟩
   ·dsimp only [cond];decide
   ·intro e;dsimp only [cond] at e;exact absurd e (by decide)
   ·intro e;dsimp only [cond] at e;exact absurd e (by decide)
   ·intro e;dsimp only [cond] at e;exact absurd e (by decide)
   ·exact Nat.lt_of_lt_of_le (hk.rk rfl hi) hr
   all_goals (intro e;dsimp only [cond] at e;exact absurd e (by decide))
theorem pE {n:Int} {b:Int} (h0:0<=b) (h1:b < 8):AOk n (aC (cA 8 b)):=by
 rw [show cA 8 b=8+b from jl (by omega)]
 exact dh (by omega) (by omega)
theorem HC (k:Int):szN k=1 \/ szN k=2 \/ szN k=4 \/ szN k=8:=by
 unfold szN
 split
 ·rename_i h;have h:=eq_of_beq h;subst h;exact .inr (.inl rfl)
 ·split
  ·rename_i h;have h:=eq_of_beq h;subst h;exact .inr (.inr (.inl rfl))
  ·split
   ·rename_i h;have h:=eq_of_beq h;subst h;exact .inr (.inr (.inr rfl))
   ·exact .inl rfl
theorem Oo {k s:Int} (h0:0<=k) (hs:s=1 \/ s=2 \/ s=4 \/ s=8):0<=Int.tmod k s /\ Int.tmod k s < 8:=by
 have hp:0 < s:=by omega
 rw [Int.tmod_eq_emod_of_nonneg h0]
 have:=Int.emod_nonneg k (show s≠0 by omega)
 have:=Int.emod_lt_of_pos k hp
 omega
theorem N9 {b:Int} (h0:0<=b) (h1:b < 8):fD b b=true:=by
 rcases (by omega:b=0 \/ b=1 \/ b=2 \/ b=3 \/ b=4 \/ b=5 \/ b=6 \/ b=7) with rfl | rfl | rfl | rfl | rfl | rfl | rfl | rfl<;>decide
theorem B6 {n:Int} {j:VauM} (h:j.W0 n) (hc:pM j.wanted j.child=true) (hn:1<=j.node.slot) {r0:Nat} {c:Cl} (hcl:nr n c) (hi:¬imm c) {p:Int} (hp:p=4 \/ p=8 \/ p=9 \/ p=10):g7 n r0 (c,{j with pc:=p}):=by
 rcases hp with rfl | rfl | rfl | rfl <;>
 ·refine⟨.inr hcl,⟨h.key,h.kd,h.child,?_,?_,?_,fun _=>hc,h.base,h.node,h.sent,h.count,fun _=>hn,h.wk,?_⟩,fun h=>absurd h hi,⟨?_,?_⟩⟩
  ·dsimp only;decide
  all_goals (intro e;dsimp only at e;exact absurd e (by decide))
theorem vU {n:Int} {j:VauM} (h:j.W0 n) (hc:pM j.wanted j.child=true) {r0:Nat} {c:Cl} (hcl:nr n c) (hi:¬imm c) {p:Int} (hp:p=9 \/ p=10):g7 n r0 (c,{j with pc:=p}):=by
 rcases hp with rfl | rfl <;>
 ·refine⟨.inr hcl,⟨h.key,h.kd,h.child,?_,?_,?_,fun _=>hc,h.base,h.node,h.sent,h.count,?_,h.wk,?_⟩,fun h=>absurd h hi,⟨?_,?_⟩⟩
  ·dsimp only;decide
  all_goals (intro e;dsimp only at e;exact absurd e (by decide))
theorem B7 {n:Int} (h0:0<=n) {j:VauM} (h:j.W0 n) (hw:fD j.wanted j.bucket=true) (hb:0<=j.bucket /\ j.bucket < 8) {r0:Nat}:g7 n r0 (aM (aC (cA 8 j.bucket)),{j with pc:=2}):=by
 refine⟨.inr (aO h0 (pE hb.1 hb.2)),⟨h.key,h.kd,h.child,?_,?_,fun _=>hw,?_,h.base,h.node,h.sent,h.count,?_,h.wk,?_⟩,fun h=>absurd h cF,⟨?_,?_⟩⟩
 ·dsimp only;decide
 all_goals (intro e;dsimp only at e;exact absurd e (by decide))
theorem We {a:Ad×Int}:(dS a).rk=0:=by
 unfold WalkM.rk dS
 dsimp only
 rw [if_neg (by decide),if_neg (by decide)]
theorem RV {n:Int} (h0:0<=n) {j:VauM} (h:j.WF n) {hd:Bool} {c:Cl} (ha:j.aw c) {x:Rp1} (hr:RpFor n hd c x):g7 n j.rk (aF j x):=by
 have hx:WOk n x.w:=hr.w
 have nx:0<=x.w.slot:=hx.1
 have w:=h.w0
 have hp:=h.pc
 have hq:=h
 obtain⟨pc,last,op,size,wanted,bucket,child,base,node,sentinel,walk,inner,answer,count⟩:=j
 dsimp only at hp
 rcases hp with rfl | rfl | rfl | rfl | rfl | rfl | rfl | rfl | rfl | rfl | rfl | rfl | rfl | rfl | rfl | rfl | rfl
 ·exact⟨.inl (h.last rfl),h,fun e=>absurd e (fw (h.last rfl) (by decide) (by decide)),⟨fun e=>absurd (show (-1:Int)=3 from e) (by decide),fun e=>absurd (show (-1:Int)=11 from e) (by decide)⟩⟩
 ·exact oR h0 (j:=⟨0,last,op,size,wanted,bucket,child,base,node,sentinel,walk,inner,answer,count⟩) w (c:=aM (aC 16)) (aO h0 (dh (by decide) (by decide))) cF (.inl rfl)
 ·have ht:=Oo h.key.1 (HC x.w.num)
  exact B7 h0 (j:=⟨1,last,op,szN x.w.num,Int.tmod op.key (szN x.w.num),Int.tmod op.key (szN x.w.num),child,base,node,sentinel,walk,inner,answer,count⟩) ⟨w.key,w.kd,w.child,w.base,w.node,w.sent,w.count,w.wk⟩ (N9 ht.1 ht.2) ht
 ·have hw:=h.wb rfl
  show g7 n _ (cond (!(x.w.slot==0)) (FP ⟨2,last,op,size,wanted,bucket,child,x.w,node,sentinel,walk,inner,answer,count⟩) (if bucket=0 then B5 ⟨4,0⟩ ⟨2,last,op,size,wanted,bucket,child,base,node,sentinel,walk,inner,answer,count⟩ else(aM (aC (cA 8 (lK bucket))),⟨2,last,op,size,wanted,lK bucket,child,base,node,sentinel,walk,inner,answer,count⟩)))
  refine dF (P:=g7 n _) (fun _=>vT h0 (j:=⟨2,last,op,size,wanted,bucket,child,x.w,node,sentinel,walk,inner,answer,count⟩) ⟨w.key,w.kd,w.child,hx,w.node,w.sent,w.count,w.wk⟩ hw) fun _=>?_
  split
  ·exact nI w _
  ·rename_i hb
   obtain⟨g1,g2⟩:=RR hw hb
   exact B7 h0 (j:=⟨2,last,op,size,wanted,lK bucket,child,base,node,sentinel,walk,inner,answer,count⟩) ⟨w.key,w.kd,w.child,w.base,w.node,w.sent,w.count,w.wk⟩ g1 g2
 ·have hc:=h.wc ⟨by show (3:Int)<=3;decide,by show (3:Int)<=10;decide⟩
  show g7 n _ (cond (!x.ok) (FN ⟨3,last,op,size,wanted,bucket,child,base,node,sentinel,walk,inner,answer,count⟩) (bz (af x.w 0) (dt (b4 child)),⟨4,last,op,size,wanted,bucket,child,base,x.w,sentinel,walk,inner,answer,count⟩))
  refine dF (P:=g7 n _) (fun _=>B4 h0 w) fun hb=>?_
  have hok:x.ok=true:=by cases e:x.ok with | true=>rfl | false=>rw [e] at hb;cases hb
  exact B6 (j:=⟨3,last,op,size,wanted,bucket,child,base,x.w,sentinel,walk,inner,answer,count⟩) ⟨w.key,w.kd,w.child,w.base,hx,w.sent,w.count,w.wk⟩ hc (hr.al (ha.1 rfl) hok) (aL h0 (aq hx (by decide) (by decide)) (dP h0 _)) dN (.inl rfl)
 ·have hc:=h.wc ⟨by show (3:Int)<=4;decide,by show (4:Int)<=10;decide⟩
  have hn:=h.nd ⟨by show (4:Int)<=4;decide,by show (4:Int)<=8;decide⟩
  exact vP h0 (j:=⟨4,last,op,size,wanted,bucket,child,base,node,sentinel,walk,inner,answer,count⟩) w hc hn (qk h0 (aq w.base (by decide) (by decide)) (b4 child)) hx (by rw [We];exact Nat.zero_le _)
 ·have hc:=h.wc ⟨by show (3:Int)<=5;decide,by show (5:Int)<=10;decide⟩
  have hn:=h.nd ⟨by show (4:Int)<=5;decide,by show (5:Int)<=8;decide⟩
  cases walk with
  | none =>
    show g7 n _ (bz (af node 2) (bP wNil),⟨7,last,op,size,wanted,bucket,child,base,node,sentinel,none,inner,answer,count⟩)
    refine⟨.inr (aL h0 (aq w.node (by decide) (by decide)) (ay h0)),⟨w.key,w.kd,w.child,?_,?_,?_,fun _=>hc,w.base,w.node,w.sent,w.count,fun _=>hn,w.wk,?_⟩,fun h=>absurd h dN,⟨?_,?_⟩⟩
    ·dsimp only;decide
    all_goals (intro e;dsimp only at e;exact absurd e (by decide))
  | some wk=>exact vP h0 (j:=⟨5,last,op,size,wanted,bucket,child,base,node,sentinel,some wk,inner,answer,count⟩) w hc hn (h.wk wk rfl) hx (Nat.le_refl _)
 ·have hc:=h.wc ⟨by show (3:Int)<=6;decide,by show (6:Int)<=10;decide⟩
  exact vU (j:=⟨6,last,op,size,wanted,bucket,child,base,node,sentinel,walk,inner,answer,count⟩) w hc (aO h0 (pE w.child.1 w.child.2)) cF (.inl rfl)
 ·have hc:=h.wc ⟨by show (3:Int)<=7;decide,by show (7:Int)<=10;decide⟩
  have hn:=h.nd ⟨by show (4:Int)<=7;decide,by show (7:Int)<=8;decide⟩
  refine B6 (j:=⟨7,last,op,size,wanted,bucket,child,base,node,sentinel,walk,inner,answer,count⟩) w hc hn (c:=bf (match walk with | none=>(dX,wNil,wNil) | some w=>(w.prev,w.cur,w.next)).1 (match walk with | none=>(dX,wNil,wNil) | some w=>(w.prev,w.cur,w.next)).2.1 (wTo (match walk with | none=>(dX,wNil,wNil) | some w=>(w.prev,w.cur,w.next)).2.1 node)) ?_ dA (.inr (.inl rfl))
  cases walk with
  | none=>exact aV lP (ay h0) (b5 w.node)
  | some wk=>exact aV (h.wk wk rfl).prev (h.wk wk rfl).cur (b5 w.node)
 ·have hc:=h.wc ⟨by show (3:Int)<=8;decide,by show (8:Int)<=10;decide⟩
  have hn:=h.nd ⟨by show (4:Int)<=8;decide,by show (8:Int)<=8;decide⟩
  show g7 n _ (cond x.ok (aM (aC (cA 8 child)),⟨9,last,op,size,wanted,bucket,child,base,node,node,walk,inner,answer,count⟩) (JC ⟨8,last,op,size,wanted,bucket,child,base,node,sentinel,walk,inner,answer,count⟩ x (dS (af base 2,b4 child))))
  refine dF (P:=g7 n _) (fun _=>?_) fun _=>?_
  ·exact vU (j:=⟨8,last,op,size,wanted,bucket,child,base,node,node,walk,inner,answer,count⟩) ⟨w.key,w.kd,w.child,w.base,w.node,w.node,w.count,w.wk⟩ hc (aO h0 (pE w.child.1 w.child.2)) cF (.inl rfl)
  ·exact vP h0 (j:=⟨8,last,op,size,wanted,bucket,child,base,node,sentinel,walk,inner,answer,count⟩) w hc hn (qk h0 (aq w.base (by decide) (by decide)) (b4 child)) hx (by rw [We];exact Nat.zero_le _)
 ·have hc:=h.wc ⟨by show (3:Int)<=9;decide,by show (9:Int)<=10;decide⟩
  show g7 n _ (cond (x.w.slot==0) (bf (aC (cA 8 child)) x.w (wTo x.w sentinel),⟨10,last,op,size,wanted,bucket,child,base,node,sentinel,walk,inner,answer,count⟩) (FP ⟨9,last,op,size,wanted,child,child,sentinel,node,sentinel,walk,inner,answer,count⟩))
  refine dF (P:=g7 n _) (fun _=>?_) fun _=>vT h0 (j:=⟨9,last,op,size,wanted,child,child,sentinel,node,sentinel,walk,inner,answer,count⟩) ⟨w.key,w.kd,w.child,w.sent,w.node,w.sent,w.count,w.wk⟩ (BZ hc)
  exact vU (j:=⟨9,last,op,size,wanted,bucket,child,base,node,sentinel,walk,inner,answer,count⟩) w hc (aV (pE w.child.1 w.child.2) hx (b5 w.sent)) dA (.inr rfl)
 ·have hc:=h.wc ⟨by show (3:Int)<=10;decide,by show (10:Int)<=10;decide⟩
  exact vT h0 (j:=⟨10,last,op,size,wanted,child,child,sentinel,node,sentinel,walk,inner,answer,count⟩) ⟨w.key,w.kd,w.child,w.sent,w.node,w.sent,w.count,w.wk⟩ (BZ hc)
 ·obtain⟨l,hl,hlw⟩:=h.inn rfl
  have hl:inner=some l:=hl
  subst hl
  have hn:=ES h0 hlw (ha.2 rfl l rfl) hr
  exact FO h0 (j:=⟨11,last,op,size,wanted,bucket,child,base,node,sentinel,walk,some (bj l x).2,answer,count⟩) ⟨w.key,w.kd,w.child,w.base,w.node,w.sent,w.count,w.wk⟩ rfl rfl hn.wf hn.res hn.aw hn.rk
 ·show g7 n _ (cond (op.kind==7) (bf (aC 17) x.w (eI x.w (-1)),⟨13,last,op,size,wanted,bucket,child,base,node,sentinel,walk,inner,answer,x.w⟩) (bf (aC 17) x.w (eI x.w 1),⟨13,last,op,size,wanted,bucket,child,base,node,sentinel,walk,inner,answer,x.w⟩))
  refine dF (P:=g7 n _) (fun _=>?_) fun _=>?_
  all_goals (exact oR h0 (j:=⟨12,last,op,size,wanted,bucket,child,base,node,sentinel,walk,inner,answer,x.w⟩) ⟨w.key,w.kd,w.child,w.base,w.node,w.sent,hx,w.wk⟩ (aV (dh (by decide) (by decide)) hx (lT h0)) dA (.inr (.inr (.inl rfl))))
 ·show g7 n _ (cond (!x.ok) (aM (aC 17),⟨12,last,op,size,wanted,bucket,child,base,node,sentinel,walk,inner,answer,count⟩) (cond (orB (op.kind==7) (orB (size==8) (decide (count.num < IntKind.wrap .i64 (2 * size))))) (B5 answer ⟨13,last,op,size,wanted,bucket,child,base,node,sentinel,walk,inner,answer,count⟩) (aM (aC 16),⟨14,last,op,size,wanted,bucket,child,base,node,sentinel,walk,inner,answer,count⟩)))
  refine dF (P:=g7 n _) (fun _=>?_) fun _=>dF (P:=g7 n _) (fun _=>nI w _) fun _=>?_
  ·exact oR h0 (j:=⟨13,last,op,size,wanted,bucket,child,base,node,sentinel,walk,inner,answer,count⟩) w (aO h0 (dh (by decide) (by decide))) cF (.inr (.inl rfl))
  ·exact oR h0 (j:=⟨13,last,op,size,wanted,bucket,child,base,node,sentinel,walk,inner,answer,count⟩) w (aO h0 (dh (by decide) (by decide))) cF (.inr (.inr (.inr (.inl rfl))))
 ·show g7 n _ (cond (x.w.num==size) (bf (aC 16) x.w (eI x.w size),⟨15,last,op,size,wanted,bucket,child,base,node,sentinel,walk,inner,answer,count⟩) (B5 answer ⟨14,last,op,size,wanted,bucket,child,base,node,sentinel,walk,inner,answer,count⟩))
  refine dF (P:=g7 n _) (fun _=>?_) fun _=>nI w _
  exact oR h0 (j:=⟨14,last,op,size,wanted,bucket,child,base,node,sentinel,walk,inner,answer,count⟩) w (aV (dh (by decide) (by decide)) hx (lT h0)) dA (.inr (.inr (.inr (.inr rfl))))
 ·exact nI (j:=⟨15,last,op,size,wanted,bucket,child,base,node,sentinel,walk,inner,answer,count⟩) w _
end
end Go.Proofs.YtadmfaohjnjajaaGreatDoor

namespace Go.Sx
variable {AV:Type} {P:Program} {N:Env AV}
def yQ:Option (Chunk AV)->Option (Chunk AV)
 | some (.cells l ty)=>some (.cells (u0 l) ty)
 | x=>x
def GD (s:St AV):St AV:={E:=s.E,H:=s.H.map yQ}
def uU (L nt:Nat) (ks:List Nat) (pk:Chunk AV->Option AV) (r:Ex×St AV):T (Ex×St AV):=(cM L nt ks pk r).bind fun r=>.leaf (r.1,GD r.2)
theorem rE (H:Hp AV) (n:Nat):ab (H.map yQ) n=yQ (ab H n):=pe yQ rfl H n
theorem Ip {l:List Cell} {c:Cell} (h:c∈u0 l):∃c'∈l,c'.name=c.name:=by
 rw [xe] at h
 obtain⟨c',h1,rfl⟩:=List.mem_map.1 h
 exact⟨c',h1,(tj c').symm⟩
theorem xd {H:Hp AV} {n:Nat} {c:Chunk AV} (h:ab H n=some c):∃c',ab (H.map yQ) n=some c':=by
 rw [rE,h]
 cases c with
 | cells l ty=>exact⟨_,rfl⟩
 | vec l es ty=>exact⟨_,rfl⟩
 | dead=>exact⟨_,rfl⟩
 | abs a=>exact⟨_,rfl⟩
theorem Fj {s:St AV} (h:Closed N s):Closed N (GD s):=by
 have pers:∀{c:Cell},ClC s.H c->ClC (s.H.map yQ) c:=fun hc n hn=>by
  obtain⟨x,hx⟩:=hc n hn
  exact xd hx
 refine⟨fun k=>ClV.mono (h.E k) fun n c hn=>xd hn,fun n x hx=>?_⟩
 have hx:ab (s.H.map yQ) n=some x:=hx
 rw [rE] at hx
 cases hs:ab s.H n with
 | none=>rw [hs] at hx;cases hx
 | some d =>
   rw [hs] at hx
   have hd:=h.H n d hs
   cases d with
   | cells l ty =>
     cases hx
     intro c hc m hm
     obtain⟨c',h1,h2⟩:=Ip hc
     exact pers (hd c' h1) m (by rw [h2];exact hm)
   | vec l es ty=>cases hx;exact fun c hc=>pers (hd c hc)
   | dead=>cases hx;exact fun c hc=>pers (hd c hc)
   | abs a=>cases hx;exact fun c hc=>pers (hd c hc)
theorem EJ (π:Nat->Nat) (d:Chunk AV):∃c,yQ (some d)=some c /\ Lesser N (d.ren π) (c.ren π):=by
 cases d with
 | cells l ty =>
   refine⟨_,rfl,fun ρ n w=>⟨fun h=>?_,fun k=>Iff.rfl⟩⟩
   have h:w.heap[ρ n]?=some (.cells (ah ρ (l.map (Cell.ren π))).toArray ty (0,0)):=h
   show w.heap[ρ n]?=some (.cells (ah ρ ((u0 l).map (Cell.ren π))).toArray ty (0,0))
   rw [oF] at h ⊢
   rw [oc];exact h
 | vec l es ty=>exact⟨_,rfl,Lesser.refl _⟩
 | dead=>exact⟨_,rfl,Lesser.refl _⟩
 | abs a=>exact⟨_,rfl,Lesser.refl _⟩
theorem NC {L nt:Nat} {ks:List Nat} {pk:Chunk AV->Option AV} (hpk:∀d a,pk d=some a->∀π,Lesser N (d.ren π) (.abs a)) (hG:N.G<=L) {r r':Ex×St AV} (h:(uU L nt ks pk r).val=some r'):r'.1=r.1 /\ ∃π,Back N L nt r.2 r'.2 π:=by
 obtain⟨r1,h1,h2⟩:=T.bind_some h
 obtain⟨e1,π,hb⟩:=yy hpk hG h1
 simp only [T.val,Option.some.injEq] at h2
 subst h2
 refine⟨e1,π,hb.less rfl (by simp [GD]) (fun n=>?_) (Fj hb.cl)⟩
 show _ \/ ∃d c,_ /\ ab (r1.2.H.map yQ) n=some c /\ _
 rw [show ab (GD r1.2).H n=yQ (ab r1.2.H n) from rE _ n]
 cases hd:ab r1.2.H n with
 | none=>exact .inl ⟨rfl,rfl⟩
 | some d =>
   obtain⟨c,g1,g2⟩:=EJ (N:=N) π d
   exact .inr ⟨d,c,rfl,by rw [rE,hd];exact g1,g2⟩
theorem ma (hT:TblOk P N) {cal:Callee AV} (hcal:dM P N cal) {lp:Nat->Option (St AV->T (Ex×St AV))} {nt L:Nat} {c:Code} (hlp:FE P N nt c lp) {ks:List Nat} {pk:Chunk AV->Option AV} (hpk:∀d a,pk d=some a->∀π,Lesser N (d.ren π) (.abs a)) (hG:N.G<=L) {s:St AV} {r:Ex×St AV}
 (h:((xc N cal lp nt c s).bind (uU L nt ks pk)).val=some r):∃s1,Rnd P N nt c s r.1 s1 /\ ∃π,Back N L nt s1 r.2 π:=by
 obtain⟨⟨e1,s1⟩,h1,h2⟩:=T.bind_some h
 obtain⟨h3,π,h4⟩:=NC hpk hG h2
 simp only at h3 h4
 exact⟨s1,KN hT hcal hlp (by rw [h3];exact h1),π,h4⟩
end Go.Sx

namespace Go.Proofs.YtadmfaohjnjajaaGreatDoor
open Go Go.Sx Go.Proofs
set_option maxRecDepth 100000
variable {σ:Sg} {lp:Lp}
@[reducible] def oVer:ObK VerM:=⟨eJ,Jw,fun _ _=>DU,fun _=>rfl⟩
structure AdF where
 okb:RiteM->Cl->Bool
 bg:RiteM->Cl->RiteM
 np:PileM->Rp1->Cl×PileM
 nc:CortM->Rp1->Cl×CortM
 nl:LitM->Rp1->Cl×LitM
 okv:VauM->Bool
 nv:VauM->Rp1->Cl×VauM
 oks:SteM->Bool
 ns:SteM->Rp1->Cl×SteM
noncomputable def uv (F:AdF):Tab:=aQ 55 (aZ isS noM (dK aNo vBo oRite (fun _ _=>none) (fun m _=>(fZ m,m)))) (aQ 56 (aZ isS noM (dK aNo vRp oRite (fun _ _=>none) (fun m _=>(m.reply,m))))
 (aQ 54 (aZ isS noM (dK aCl vQ oRite (fun m c=>some (F.okb m c)) (fun m c=>((),F.bg m c))))
 (aQ 133 (aZ isS noM (dK aRp vCl oPile (fun _ _=>none) F.np)) (aQ 143 (aZ isS noM (dK aRp vCl oCort (fun _ _=>none) F.nc))
 (aQ 152 (aZ isS noM (jy aRp vCl oLit (fun _ _=>none) F.nl aD)) (aQ 174 (aZ isS noM (dK aRp vCl oVau (fun j _=>some (F.okv j)) F.nv)) (aQ 193 (aZ isS noM (dK aRp vCl oSte (fun j _=>some (F.oks j)) F.ns)) bm)))))))
noncomputable def adF:AdF:=⟨CJ,bS,jv,iy,bj,Il,aF,CI,ax⟩
theorem JT:bO Tryz.prog (NV σ) (uv adF):=au sV (au Ew (au DF (au O6 (au Qb (au L9 (au RW (au Sk aJ)))))))
def ksA:List Nat:=[0]
noncomputable def LA:Code:=fv 0 (bx (cB Tryz.f29))
def hpV (v:VerM):Hp AV:=kD (hpO noM [eJ v]) 7 (dw AV.len lW (VerM.wr v))
def qD (v:VerM):St AV:={E:=only ksA [(0,.v (.c (.ptr 7 2)))] 52,H:=hpV v}
def fC:Cl:=⟨2,dX,wNil,wNil,0,0,⟨0,0⟩⟩
section
variable {β:Type} (I:Bool->β->β->β) (N:Bool->β->β) (L:Ex×VerM->β)
def eC (F:AdF) (v:VerM) (nx:Cl×JobM):β :=
 I (nx.1.kind != 12) (N (F.okb v.rite nx.1) (L (.normal,{v with doing:=2,call:=nx.1,rite:=F.bg v.rite nx.1,job:=some nx.2})))
   (N (F.okb v.rite fC) (L (.normal,{v with answer:=nx.1.ans,doing:=3,call:=fC,rite:=F.bg v.rite fC,job:=some nx.2})))
def dI (v:VerM) (c:β):β :=
 I ((v.doing != 0)==true) (I (!fZ v.rite) (I (v.doing==1) (I (v.doing==1) c (L (.normal,{v with doing:=0}))) (I (v.doing==2) c (L (.normal,{v with doing:=0})))) (L (.exit 0,v))) (L (.exit 0,v))
end
def tF (r:Ex×VerM):T (Ex×St AV):=.leaf (r.1,qD r.2)
theorem Qy (σ:Sg) (F:AdF) (v:VerM) (j:PileM):(xc (NV σ) (aN (lv (NV σ) (uv F) 5)) (fun _=>none) 52 LA (qD {v with job:=some (.pile j)})).bind (uU 10 52 ksA cP) =
 dI tI tF {v with job:=some (.pile j)} (eC tI tN tF F {v with job:=some (.pile j)} ((F.np j v.rite.reply).1,.pile (F.np j v.rite.reply).2)):=by kernel_rfl
theorem QA (σ:Sg) (F:AdF) (v:VerM) (j:CortM):(xc (NV σ) (aN (lv (NV σ) (uv F) 5)) (fun _=>none) 52 LA (qD {v with job:=some (.cort j)})).bind (uU 10 52 ksA cP) =
 dI tI tF {v with job:=some (.cort j)} (eC tI tN tF F {v with job:=some (.cort j)} ((F.nc j v.rite.reply).1,.cort (F.nc j v.rite.reply).2)):=by kernel_rfl
theorem Ul (σ:Sg) (F:AdF) (v:VerM) (j:LitM):(xc (NV σ) (aN (lv (NV σ) (uv F) 5)) (fun _=>none) 52 LA (qD {v with job:=some (.lit j)})).bind (uU 10 52 ksA cP) =
 dI tI tF {v with job:=some (.lit j)} (eC tI tN tF F {v with job:=some (.lit j)} ((F.nl j v.rite.reply).1,.lit (F.nl j v.rite.reply).2)):=by kernel_rfl
theorem Ui (σ:Sg) (F:AdF) (v:VerM) (j:VauM):(xc (NV σ) (aN (lv (NV σ) (uv F) 5)) (fun _=>none) 52 LA (qD {v with job:=some (.vau j)})).bind (uU 10 52 ksA cP) =
 dI tI tF {v with job:=some (.vau j)} (tN (F.okv j) (eC tI tN tF F {v with job:=some (.vau j)} ((F.nv j v.rite.reply).1,.vau (F.nv j v.rite.reply).2))):=by kernel_rfl
theorem Uj (σ:Sg) (F:AdF) (v:VerM) (j:SteM):(xc (NV σ) (aN (lv (NV σ) (uv F) 5)) (fun _=>none) 52 LA (qD {v with job:=some (.ste j)})).bind (uU 10 52 ksA cP) =
 dI tI tF {v with job:=some (.ste j)} (tN (F.oks j) (eC tI tN tF F {v with job:=some (.ste j)} ((F.ns j v.rite.reply).1,.ste (F.ns j v.rite.reply).2))):=by kernel_rfl
def Rj:T (Ex×St AV):=.fail "nilCheck"
theorem Qz (σ:Sg) (F:AdF) (v:VerM):(xc (NV σ) (aN (lv (NV σ) (uv F) 5)) (fun _=>none) 52 LA (qD {v with job:=none})).bind (uU 9 52 ksA cP) =
 dI tI tF {v with job:=none} Rj:=by kernel_rfl
end Go.Proofs.YtadmfaohjnjajaaGreatDoor
