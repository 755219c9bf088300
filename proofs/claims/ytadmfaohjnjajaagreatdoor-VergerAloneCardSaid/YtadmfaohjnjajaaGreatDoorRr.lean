import Derived.Test.YtadmfaohjnjajaaGreatDoorRu
import Derived.Test.YtadmfaohjnjajaaGreatDoorRn
import Derived.Test.YtadmfaohjnjajaaGreatDoorSxOf
import Derived.Test.YtadmfaohjnjajaaGreatDoorQr
import Derived.Test.YtadmfaohjnjajaaGreatDoorOr
set_option linter.unusedVariables false
set_option linter.unusedSimpArgs false
set_option maxHeartbeats 0
set_option maxRecDepth 100000
noncomputable section
namespace Go.Proofs.YtadmfaohjnjajaaGreatDoor
section
open Go Go.Sx Go.Proofs
structure S3.Ok (n:Int) (s:S3):Prop where
 p0:Ay n s.p0
 c0:gV n s.c0
 p1:Ay n s.p1
 c1:gV n s.c1
 p2:Ay n s.p2
 c2:gV n s.c2
theorem S3.JY {n:Int} {s:S3} (h:s.Ok n) {l:Int} {p:Ad} {c:W} (hp:Ay n p) (hc:gV n c):(S3.put s l p c).Ok n:=by
 unfold S3.put;split
 ·exact⟨hp,hc,h.p1,h.c1,h.p2,h.c2⟩
 ·split
  ·exact⟨h.p0,h.c0,hp,hc,h.p2,h.c2⟩
  ·exact⟨h.p0,h.c0,h.p1,h.c1,hp,hc⟩
structure aQ.WF (n:Int) (c:aQ):Prop where
 lv:c.level=0 \/ c.level=1 \/ c.level=2
 prev:Ay n c.prev
 cur:gV n c.cur
 next:gV n c.next
 eJ:c.eJ.Ok n
 found:gV n c.found
 pc:c.pc=-1 \/ c.pc=0 \/ c.pc=2 \/ c.pc=3 \/ c.pc=4 \/ c.pc=5 \/ c.pc=6 \/ c.pc=7 \/ c.pc=8 \/ c.pc=9
 nz:(c.pc=3 \/ c.pc=4 \/ c.pc=5 \/ c.pc=6 \/ c.pc=7 \/ c.pc=8)->1<=c.cur.ae
def aQ.rk (c:aQ):Nat:=if c.pc=5 then 2 else if c.pc=2 \/ c.pc=6 \/ c.pc=7 then 1 else 0
structure K1 (n:Int) (pc0:Int) (r0:Nat) (r:(Cl×Bool)×aQ):Prop where
 on:r.1.2=true->ug n r.1.1
 wf:r.2.WF n
 rk:r.1.2=true->GO r.1.1->r.2.rk < r0
 off:r.1.2=false->r.2.pc=-1
 st:pc0=0->r.1.2=true
theorem aao {n:Int} {a:Ad} (h:Ay n a) (hs:a.s≠0) {f:Int} (h0:0<=f) (h1:f < 10):Ay n {a with f:=f}:=by
 rcases h with⟨h,_⟩ | ⟨h2,h3,_⟩
 ·exact absurd h hs
 ·exact .inr ⟨h2,h3,h0,h1⟩
theorem F7 {n:Int} (h0:0<=n) {c:aQ} (h:c.WF n) {x:cJ} (hx:gV n x.w):K1 n c.pc c.rk (aL c x):=by
 obtain⟨pc,last,prev,cur,CA,level,next,k,eJ,found⟩:=c;obtain⟨Cn,Oz,hc,hn,hsp,Vi,hp,hz⟩:=h;dsimp only at Cn Oz hc hn hsp Vi hp hz;have nx:0<=x.w.ae:=hx.1;have nn:0<=next.ae:=hn.1;rcases Cn with rfl | rfl | rfl<;>rcases hp with rfl | rfl | rfl | rfl | rfl | rfl | rfl | rfl | rfl | rfl;all_goals unfold aL m5
 all_goals dsimp only [id]
 all_goals simp only [if_true,show ¬(1:Int)=0 by decide,show ¬(2:Int)=0 by decide,if_false]
 all_goals (repeat' (refine gW (fun hb=>?_) (fun hb=>?_)<;>first | (exact absurd hb (by decide)) | skip))
 all_goals refine⟨?_,⟨?_,?_,?_,?_,?_,?_,?_,?_⟩,?_,?_,?_⟩
 all_goals dsimp only [aQ.rk]
 all_goals first
  | assumption
  | exact fun h=>absurd h (by decide)
  | decide
  | exact S3.JY hsp (by assumption) (by assumption)
  | exact fun _=>gm h0 (by assumption) (by decide) (by decide)
  | exact fun _=>gm h0 (gd (by decide) (by decide)) (by decide) (by decide)
  | exact fun _=>gm h0 (aM (by assumption) (by decide) (by decide)) (by decide) (by decide)
  | exact fun _=>bH h0 (aM (by assumption) (by decide) (by decide))
  | exact fun _=>bH h0 (by assumption)
  | exact fun _=>bQ (by assumption) (by assumption) (eK (by assumption))
  | exact fun _=>Je h0 (by unfold Dm;decide)
  | exact gd (by decide) (by decide)
  | exact aM (by assumption) (by decide) (by decide)
  | exact aao Oz (RC (by assumption)) (by decide) (by decide)
  | exact eK hn
  | exact cK (by assumption)
  | exact cK (eK hn)
  | exact S3.JY hsp Oz (eK hn)
  | exact fun _=>hz (by decide)
  | exact fun _=>(by have:=RC (by assumption:(x.w.ae==0)=false);omega)
  | exact fun _=>(by have:=RC (by assumption:(next.ae==0)=false);omega)
  | exact fun _=>(by have:=RC (by assumption:((iV cur next).ae==0)=false);show 1<=next.ae;exact(by have h:next.ae≠0:=this;omega))
  | exact fun _ h=>absurd h fy
  | exact fun _ h=>absurd h gO
  | exact fun _ h=>absurd h oS
  | exact fun _=>rfl
  | exact fun _ _=>(by simp)
theorem Ci {n:Int} (h0:0<=n) (b:Int):(fx b).WF n :=
 ⟨.inl rfl,rS,aU h0,aU h0,⟨rS,aU h0,rS,aU h0,rS,aU h0⟩,aU h0,.inr (.inl rfl),fun h=>absurd h (by show ¬((0:Int)=3 \/ (0:Int)=4 \/ (0:Int)=5 \/ (0:Int)=6 \/ (0:Int)=7 \/ (0:Int)=8);decide)⟩
theorem ow {n:Int} (h0:0<=n) {c:aQ} (h:c.WF n) (l:Int):Ay n (aZ c l).1 /\ gV n (aZ c l).2:=by
 unfold aZ;split
 ·exact⟨h.eJ.p0,h.eJ.c0⟩
 ·split
  ·exact⟨h.eJ.p1,h.eJ.c1⟩
  ·split
   ·exact⟨h.eJ.p2,h.eJ.c2⟩
   ·exact⟨rS,aU h0⟩
def asj (c:Option aQ) (l:Int):Ad×W:=match c with | none=>(iC,aq) | some c=>aZ c l
def crk:Option aQ->Nat
 | none=>0
 | some c=>c.rk
structure cD.WF (n:Int) (j:cD):Prop where
 kd:j.op.aj=6 \/ j.op.aj=7 \/ j.op.aj=8
 bI:j.op.aj=6->j.op.bI<=3
 pc:(j.op.aj=6 /\ (j.pc=-1 \/ j.pc=0 \/ j.pc=1 \/ j.pc=2 \/ j.pc=3 \/ j.pc=4 \/ j.pc=5 \/ j.pc=6 \/ j.pc=7 \/ j.pc=8 \/ j.pc=9 \/ j.pc=10 \/ j.pc=11 \/ j.pc=12)) \/ (j.op.aj=7 /\ (j.pc=-1 \/ j.pc=0 \/ j.pc=1 \/ j.pc=2 \/ j.pc=3 \/ j.pc=4 \/ j.pc=5 \/ j.pc=6)) \/ (j.op.aj=8 /\ (j.pc=-1 \/ j.pc=0 \/ j.pc=1 \/ j.pc=2)) \/ (j.pc=101 \/ j.pc=102 \/ j.pc=103 \/ j.pc=104)
 last:j.pc=-1->j.last.aj=12
 node:gV n j.node
 nd:(j.op.aj=6 /\ 2<=j.pc) \/ (j.op.aj=7 /\ 2<=j.pc) \/ 101<=j.pc->1<=j.node.ae
 cl:∀c,j.kY=some c->c.WF n
 lv:(j.op.aj=6 /\ (j.pc=7 \/ j.pc=9 \/ j.pc=10 \/ j.pc=11 \/ j.pc=12)) \/ (j.op.aj=7 /\ (j.pc=3 \/ j.pc=4 \/ j.pc=5))->0<=j.level /\ j.level<=2
def cD.aw (c:Cl) (j:cD):Prop:=j.op.aj=6->j.pc=1->c.aj=8
def cD.rk (j:cD):Nat:=crk j.kY+if j.pc=103 then 1 else 0
def ave (n:Int) (r0:Nat) (r:Cl×cD):Prop:=GI n r.1 (r.2.WF n) (r.2.aw r.1) r0 r.2.rk
theorem aa1 {l:Int} (h0:0<=l+1) (h1:l<=2):di l=l+1:=mD (by omega)
theorem mg {n:Int} {w:W} (h:gV n w) {l:Int} (h0:0<=l) (h1:l<=2):Ay n (az w (eZ 2 l)):=by have e:eZ 2 l=2+l:=mD (by omega);rw [e];exact aM h (by omega) (by omega)
end
section
open Go Go.Sx Go.Proofs
theorem ZT {n:Int} {pc0:Int} {b:Int} {r:(Cl×Bool)×aQ} (h:K1 n pc0 (fx b).rk r) (hb:r.1.2=true):¬GO r.1.1:=fun hi=>Nat.not_lt_zero _ (h.rk hb hi)
theorem adR {n:Int} {pc0:Int} {r0:Nat} {r:(Cl×Bool)×aQ} (h:K1 n pc0 r0 r) (hb:r.1.2=false):r.2.rk=0:=by unfold aQ.rk;rw [h.off hb];rfl
theorem DF {n:Int} {w:aQ} (h:w.WF n):∀w',some w=some w'->w'.WF n:=fun w' e=>by cases e;exact h
theorem ad5 {n:Int}:∀w',(none:Option aQ)=some w'->w'.WF n:=fun w' e=>by cases e
theorem XR {n:Int} {w:W} (h:gV n w) (hb:(w.ae==0)=false):1<=w.ae:=by have:=RC hb;have:=h.1;omega
theorem dle {a b:Int} (h:decide (a>=b)=false):a < b:=by have:=aaL h;omega
theorem ZK {a b:Int} (h:decide (a < b)=true):a < b:=aaF h
theorem asq {a:Int} (h:ll (decide (a < 1)) (decide (a > 3))=false):0<=IntKind.wrap .i64 (a - 1) /\ IntKind.wrap .i64 (a - 1)<=2:=by
 have h1:¬a < 1:=fun h1=>by rw [aaC h1] at h;cases h
 have h2:¬a > 3:=fun h2=>by rw [aaC h2,aaK h1] at h;cases h
 rw [mD (by omega)];omega
theorem okx {b:Bool} (h:(!b)=false):b=true:=by cases b<;>simp_all
theorem aha {n:Int} (h0:0<=n) {j:cD} (h:j.WF n) {hd:Bool} {c:Cl} (ha:j.aw c) {x:cJ} (hr:wh n hd c x):ave n j.rk (aN j x):=by
 obtain⟨pc,last,⟨kd,ky,val,bI⟩,cl,node,lv,inc,v⟩:=j;obtain⟨hk,Iy,hp,hl,hn,jQ,hcl,Cn⟩:=h;dsimp only [cD.aw] at hk Iy hp hl hn jQ hcl Cn ha;have al:kd=6->pc=1->x.ok=true->1<=x.w.ae:=fun h6 h=>hr.al (ha h6 h);have hx:=hr.w;clear hr ha;have nx:0<=x.w.ae:=hx.1;have pg:=F7 h0 (Ci h0 ky) hx;have CS:=F7 h0 (Ci h0 (di ky)) hx;rcases hp with⟨rfl,hp⟩ | ⟨rfl,hp⟩ | ⟨rfl,hp⟩ | hp<;>rcases cl with _ | w;all_goals first
  | (have vC:=hcl _ rfl;have xQ:=F7 h0 vC hx;have Nl:=ow h0 vC)
  | skip
 all_goals unfold aN sq
 all_goals dsimp only [id]
 all_goals try simp only [show ¬((7:Int)=6) by decide,show ¬((8:Int)=6) by decide,show ¬((8:Int)=7) by decide,if_false,if_true]
 all_goals have Y1:=fun(hb:aQ.WF n (aL (fx ky) x).2)=>ow h0 hb
 all_goals generalize aL (fx ky) x=r1 at pg Y1 ⊢
 all_goals have Y0:=fun(hb:aQ.WF n (aL (fx (di ky)) x).2)=>ow h0 hb
 all_goals generalize aL (fx (di ky)) x=r2 at CS Y0 ⊢
 all_goals obtain⟨⟨c1,b1⟩,w1⟩:=r1
 all_goals obtain⟨⟨c2,b2⟩,w2⟩:=r2
 all_goals first
  | (have YZ:=fun(hb:aQ.WF n (aL w x).2)=>ow h0 hb;generalize aL w x=r3 at xQ YZ ⊢;obtain⟨⟨c3,b3⟩,w3⟩:=r3)
  | skip
 all_goals ((repeat' (rcases (hp:_ \/ _) with hp | hp))<;>subst hp)
 all_goals dsimp only
 all_goals (repeat' (refine gW (fun hb=>?_) (fun hb=>?_)<;>first | (exact absurd hb (by decide)) | (exact absurd (aaF hb) (by decide)) | (exact absurd (aaL hb) (by decide)) | skip))
 all_goals first
  | (have ayi:=Cn (by decide);have e1:di lv=lv+1:=aa1 (by omega) (by omega);have e2:IntKind.wrap .i64 (lv - 1)=lv - 1:=mD (by omega);try rw [e1];try rw [e2] at *)
  | skip
 all_goals have e0:di (-1)=0:=rfl
 all_goals try rw [e0]
 all_goals refine⟨?_,⟨?_,?_,?_,?_,?_,?_,?_,?_⟩,?_,?_⟩
 all_goals dsimp only [cD.rk,cD.aw]
 all_goals first
  | exact .inl rfl
  | exact .inl (hl rfl)
  | exact .inr (iJ h0)
  | exact .inr (xQ.on (by assumption))
  | exact DF xQ.wf
  | exact .inr (bH h0 (aM xQ.wf.found (by decide) (by decide)))
  | exact xQ.wf.found
  | exact fun _=>XR xQ.wf.found (by assumption)
  | exact .inr (pg.on (by assumption))
  | exact DF pg.wf
  | exact .inr (bH h0 (aM pg.wf.found (by decide) (by decide)))
  | exact pg.wf.found
  | exact fun _=>XR pg.wf.found (by assumption)
  | exact .inr (CS.on (by assumption))
  | exact DF CS.wf
  | exact .inr (bH h0 (aM CS.wf.found (by decide) (by decide)))
  | exact CS.wf.found
  | exact fun _=>XR CS.wf.found (by assumption)
  | exact .inr (bB h0 (mg hn (by omega) (by omega)) (cK (YZ xQ.wf _).2))
  | exact .inr (bQ (YZ xQ.wf _).1 (YZ xQ.wf _).2 (eK hn))
  | exact .inr (bB h0 (mg hn (by omega) (by omega)) (cK (Y1 pg.wf _).2))
  | exact .inr (bQ (Y1 pg.wf _).1 (Y1 pg.wf _).2 (eK hn))
  | exact .inr (bB h0 (mg hn (by omega) (by omega)) (cK (Y0 CS.wf _).2))
  | exact .inr (bQ (Y0 CS.wf _).1 (Y0 CS.wf _).2 (eK hn))
  | exact .inr (my h0 hn (jQ (by decide)))
  | exact .inr (jo h0 hn (jQ (by decide)))
  | exact .inr (jo h0 hn (jQ (.inr (.inr (by decide)))))
  | exact .inr (bH h0 (aM hn (by decide) (by decide)))
  | exact .inr (bB h0 (aM (by assumption) (by decide) (by decide)) (iy h0 _))
  | exact .inr (bQ (aM hn (by decide) (by decide)) hx (rX h0))
  | exact .inr (bH h0 (mg hn (by omega) (by omega)))
  | exact .inr (bQ (mg hn (by omega) (by omega)) hx (l7 hx))
  | exact .inr (bH h0 (mg hn (by have:=Iy rfl;have:=dle (by assumption);omega) (by have:=Iy rfl;have:=dle (by assumption);omega)))
  | exact .inr (bB h0 (mg hn (by have:=Iy rfl;have:=ZK (by assumption);omega) (by have:=Iy rfl;have:=ZK (by assumption);omega)) (cK (aU h0)))
  | exact .inr (bQ rS (aU h0) (eK hn))
  | exact .inr (bQ (mg hn (by omega) (by omega)) hx (eK (aU h0)))
  | exact .inr (bQ (Nl _).1 (Nl _).2 (eK hn))
  | exact .inr (bQ (mg hn (by omega) (by omega)) hx (eK (Nl _).2))
  | exact .inr (bB h0 (mg hn (by have:=Iy rfl;have:=ZK (by assumption);omega) (by have:=Iy rfl;have:=ZK (by assumption);omega)) (cK (Nl _).2))
  | exact .inr (bB h0 (mg hn (by have:=Iy rfl;have:=ZK (by assumption);omega) (by have:=Iy rfl;have:=ZK (by assumption);omega)) (cK (YZ xQ.wf _).2))
  | exact .inr (bB h0 (mg hn (by have:=Iy rfl;have:=ZK (by assumption);omega) (by have:=Iy rfl;have:=ZK (by assumption);omega)) (cK (Y1 pg.wf _).2))
  | exact .inr (bB h0 (mg hn (by have:=Iy rfl;have:=ZK (by assumption);omega) (by have:=Iy rfl;have:=ZK (by assumption);omega)) (cK (Y0 CS.wf _).2))
  | assumption
  | exact Iy
  | exact .inr (.inr (.inr (by decide)))
  | exact fun h=>h.elim (fun h=>absurd h.2 (by decide)) (fun h=>absurd h.2 (by decide))
  | exact fun _=>Iy rfl
  | exact aU h0
  | decide
  | exact fun h=>absurd h (by decide)
  | exact fun _=>rfl
  | exact fun _ _=>rfl
  | exact fun h _=>absurd h (by decide)
  | exact fun _ h=>absurd h (by decide)
  | exact fun _=>jQ (by decide)
  | exact fun _=>jQ (.inr (.inr (by decide)))
  | exact fun _=>al rfl rfl (okx (by assumption))
  | exact fun _=>⟨by omega,by omega⟩
  | exact fun _=>Cn (by decide)
  | exact fun _=>asq (by assumption)
  | exact fun _=>(by have:=RC (by assumption:(lv==0)=false);omega)
  | exact fun _=>(by have:=aaF (by assumption:decide (lv > 0)=true);omega)
  | exact .inr (bH h0 (mg hn (by have:=RC (by assumption:(lv==0)=false);omega) (by omega)))
  | exact .inr (bH h0 (mg hn (by have:=aaF (by assumption:decide (lv > 0)=true);omega) (by omega)))
  | exact fun _=>(by have:=Iy rfl;have:=dle (by assumption);omega)
  | exact fun _=>(by have:=Iy rfl;have:=ZK (by assumption);omega)
  | exact hk.elim (fun h=>.inl ⟨h,.inl rfl⟩) fun h=>.inr (h.elim (fun h=>.inl ⟨h,.inl rfl⟩) fun h=>.inr (.inl ⟨h,.inl rfl⟩))
  | exact DF vC
  | exact ad5
  | exact fun h=>absurd h fy
  | exact fun h=>absurd h iq
  | exact fun h=>absurd h gO
  | exact fun h=>absurd h jL
  | exact fun h=>absurd h lN
  | exact fun h=>absurd h mV
  | exact fun h=>absurd h oS
  | exact fun h=>absurd h (jP (hl rfl) (by decide) (by decide))
  | exact fun h=>absurd h (ZT pg (by assumption))
  | exact fun h=>absurd h (ZT CS (by assumption))
  | exact fun h=>(by have hq:=xQ.rk (by assumption) h;simp [crk];exact hq)
  | exact fun h=>(by have hq:=adR xQ (by assumption);simp [crk];exact(by have hq:w3.rk=0:=hq;omega))
  | exact absurd (pg.st rfl) (by have hq:b1=false:=(by assumption);show ¬b1=true;rw [hq];decide)
  | exact absurd (CS.st rfl) (by have hq:b2=false:=(by assumption);show ¬b2=true;rw [hq];decide)
  | exact fun _=>(by simp [crk])
end
section
open Go Go.Sx Go.Proofs
structure ca.WF (n:Int) (j:ca):Prop where
 key:0<=j.op.key /\ j.op.key < 256
 kd:j.op.aj=6 \/ j.op.aj=7 \/ j.op.aj=8
 child:0<=j.child /\ j.child < 8
 pc:j.pc=-1 \/ j.pc=0 \/ j.pc=1 \/ j.pc=2 \/ j.pc=3 \/ j.pc=4 \/ j.pc=5 \/ j.pc=6 \/ j.pc=7 \/ j.pc=8 \/ j.pc=9 \/ j.pc=10 \/ j.pc=11 \/ j.pc=12 \/ j.pc=13 \/ j.pc=14 \/ j.pc=15
 last:j.pc=-1->j.last.aj=12
 wb:j.pc=2->jW j.wanted j.bucket=true
 wc:3<=j.pc /\ j.pc<=10->xt j.wanted j.child=true
 base:gV n j.base
 node:gV n j.node
 gH:gV n j.sentinel
 count:gV n j.count
 nd:4<=j.pc /\ j.pc<=8->1<=j.node.ae
 wk:∀w,j.walk=some w->w.WF n
 kW:j.pc=11->∃l,j.inner=some l /\ l.WF n
def ca.aw (c:Cl) (j:ca):Prop:=(j.pc=3->c.aj=8) /\ (j.pc=11->∀l,j.inner=some l->l.aw c)
def lrk:Option cU->Nat
 | none=>0
 | some l=>l.rk
def ca.rk (j:ca):Nat:=if j.pc=11 then lrk j.inner else wrk j.walk
def mC (n:Int) (r0:Nat) (r:Cl×ca):Prop:=GI n r.1 (r.2.WF n) (r.2.aw r.1) r0 r.2.rk
def agl (a:An):Cl:=⟨12,iC,aq,aq,0,0,a⟩
def Lq (a:An) (j:ca):Cl×ca:=(agl a,{j with pc:=-1,last:=agl a})
def agS (c:Cl) (j:ca):Cl×ca:=cond (c.aj != 12) (c,j) (cond (ll (c.qB.mZ != 1) (j.op.aj==8)) (Lq c.qB {j with answer:=c.qB}) (bC (bc 17),{j with answer:=c.qB,pc:=12}))
def QL (j:ca):Cl×ca:=agS (ct (jO (az j.base 2,jc j.op.key,j.op)) ⟨aq,false⟩).1 {j with inner:=some (ct (jO (az j.base 2,jc j.op.key,j.op)) ⟨aq,false⟩).2,pc:=11}
def QN (j:ca):Cl×ca:=if j.bucket=j.wanted then QL j else(kP,{j with child:=kE 4 j.wanted j.bucket,pc:=3})
def OJ (j:ca) (w:bs):Cl×ca:=cond w.found (qz j.node,{j with walk:=some w,sentinel:=dB w.cur,pc:=6}) (cW (az j.node 2) (dB w.cur),{j with walk:=some w,pc:=7})
def VJ (j:ca) (x:cJ) (w:bs):Cl×ca:=cond (bh w x).1.2 ((bh w x).1.1,{j with walk:=some (bh w x).2,pc:=5}) (OJ j (bh w x).2)
structure ca.W0 (n:Int) (j:ca):Prop where
 key:0<=j.op.key /\ j.op.key < 256
 kd:j.op.aj=6 \/ j.op.aj=7 \/ j.op.aj=8
 child:0<=j.child /\ j.child < 8
 base:gV n j.base
 node:gV n j.node
 gH:gV n j.sentinel
 count:gV n j.count
 wk:∀w,j.walk=some w->w.WF n
theorem ca.WF.w0 {n:Int} {j:ca} (h:j.WF n):j.W0 n:=⟨h.key,h.kd,h.child,h.base,h.node,h.gH,h.count,h.wk⟩
theorem pcI {p q:Int} (h:p=q) {P:Prop} {lo hi:Int} (dE:¬(lo<=q /\ q<=hi)):lo<=p /\ p<=hi->P:=fun e=>absurd (h▸e) dE
theorem uK {n:Int} {j:ca} (h:j.W0 n) {r0:Nat} (a:An):mC n r0 (Lq a j):=by refine⟨.inl rfl,⟨h.key,h.kd,h.child,.inl rfl,fun _=>rfl,fun e=>absurd e (by show ¬((-1:Int)=2);decide),fun e=>absurd (show (3:Int)<=-1 from e.1) (by decide),h.base,h.node,h.gH,h.count,fun e=>absurd (show (4:Int)<=-1 from e.1) (by decide),h.wk,fun e=>absurd e (by show ¬((-1:Int)=11);decide)⟩,fun h=>absurd h (jP (k:=12) rfl (by decide) (by decide)),⟨fun e=>absurd e (by show ¬((-1:Int)=3);decide),fun e=>absurd e (by show ¬((-1:Int)=11);decide)⟩⟩
theorem wC {n:Int} (h0:0<=n) {j:ca} (h:j.W0 n) {r0:Nat} {c:Cl} (hc:ug n c) (hi:¬GO c) {p:Int} (hp:p=1 \/ p=12 \/ p=13 \/ p=14 \/ p=15):mC n r0 (c,{j with pc:=p}):=by
 rcases hp with rfl | rfl | rfl | rfl | rfl <;>
 ·refine⟨.inr hc,⟨h.key,h.kd,h.child,?_,?_,?_,?_,h.base,h.node,h.gH,h.count,?_,h.wk,?_⟩,fun h=>absurd h hi,⟨?_,?_⟩⟩
  ·dsimp only;decide
  all_goals (intro e;dsimp only at e;exact absurd e (by decide))
theorem QM {n:Int} (h0:0<=n) {j:ca} (h:j.W0 n) (hpc:j.pc=11) {l:cU} (hl:j.inner=some l) (hw:l.WF n) {r0:Nat} {c:Cl} (hc:Res n c) (ha:l.aw c) (hr:GO c->l.rk < r0):mC n r0 (agS c j):=by
 unfold agS;refine gW (P:=mC n r0) (fun hb=>?_) fun hb=>gW (P:=mC n r0) (fun _=>uK (j:={j with answer:=c.qB}) ⟨h.key,h.kd,h.child,h.base,h.node,h.gH,h.count,h.wk⟩ _) fun _=>wC h0 (j:={j with answer:=c.qB}) ⟨h.key,h.kd,h.child,h.base,h.node,h.gH,h.count,h.wk⟩ (bH h0 (gd (by decide) (by decide))) fy (.inr (.inl rfl));have hk:c.aj≠12:=by simpa using hb
 have hc:ug n c:=hc.elim (fun e=>absurd e hk) id;refine⟨.inr hc,⟨h.key,h.kd,h.child,by rw [hpc];decide,fun e=>absurd (hpc.symm.trans e) (by decide),fun e=>absurd (hpc.symm.trans e) (by decide),pcI hpc (by decide),h.base,h.node,h.gH,h.count,pcI hpc (by decide),h.wk,fun _=>⟨l,hl,hw⟩⟩,fun hi=>?_,⟨fun e=>absurd (hpc.symm.trans e) (by decide),fun _ l' e=>by rw [hl] at e;cases e;exact ha⟩⟩;show ca.rk j < r0;unfold ca.rk;rw [if_pos hpc,hl];exact hr hi
theorem Ia {n:Int} (h0:0<=n) {a:Ad} (ha:Ay n a) {k:Int} {o:O} (ho:o.aj=6 \/ o.aj=7 \/ o.aj=8):(jO (a,k,o)).WF n:=by
 refine⟨ho,ha,?_,fun e=>?_,aU h0,fun _ e=>?_,fun w e=>(by cases e),fun _ e=>?_⟩
 ·rcases ho with h | h | h
  ·exact .inl ⟨h,.inr (.inl rfl)⟩
  ·exact .inr (.inl ⟨h,.inr (.inl rfl)⟩)
  ·exact .inr (.inr ⟨h,.inr (.inl rfl)⟩)
 ·exact absurd (show (0:Int)=-1 from e) (by decide)
 ·exact absurd (show (0:Int)=2 \/ (0:Int)=3 \/ (0:Int)=4 \/ (0:Int)=5 \/ (0:Int)=6 \/ (0:Int)=7 from e) (by decide)
 ·exact absurd (show (0:Int)=2 \/ (0:Int)=3 \/ (0:Int)=4 from e) (by decide)
theorem Ib {c:Cl} {x:Ad×Int×O}:(jO x).aw c:=fun _ e=>absurd (show (0:Int)=1 from e) (by decide)
theorem T2 {x:Ad×Int×O}:(jO x).rk=0:=by unfold cU.rk jO wrk;dsimp only;rw [if_neg (fun e=>absurd e.2 (by decide))]
theorem rp0 {n:Int} (h0:0<=n) {hd:Bool}:wh n hd bf ⟨aq,false⟩:=⟨aU h0,fun e=>absurd (show (0:Int)=8 from e) (by decide),fun _ e=>absurd (show (0:Int)=6 from e) (by decide)⟩
theorem Lo {n:Int} (h0:0<=n) {j:ca} (h:j.W0 n) {r0:Nat}:mC n r0 (QL j):=by have hl:=PG h0 (Ia h0 (a:=az j.base 2) (aM h.base (by decide) (by decide)) (k:=jc j.op.key) h.kd) (hd:=false) (c:=bf) Ib (rp0 h0);unfold QL;generalize ct (jO (az j.base 2,jc j.op.key,j.op)) ⟨aq,false⟩=r at hl ⊢;refine QM h0 (j:={j with inner:=some r.2,pc:=11}) ⟨h.key,h.kd,h.child,h.base,h.node,h.gH,h.count,h.wk⟩ rfl rfl hl.wf hl.Rk hl.aw fun hi=>?_;have:=hl.rk hi;rw [T2] at this;exact absurd this (Nat.not_lt_zero _)
theorem z8 {P:Int->Int->Prop} (h:∀i j:Fin 8,P (i.val:Nat) (j.val:Nat)) {w b:Int} (hr:0<=w /\ w < 8 /\ 0<=b /\ b < 8):P w b:=by have:=h ⟨w.toNat,by omega⟩ ⟨b.toNat,by omega⟩;rwa [show ((w.toNat:Nat):Int)=w by omega,show ((b.toNat:Nat):Int)=b by omega] at this
theorem Z5 {w b:Int} (h:jW w b=true) (dE:¬b=w):xt w (kE 4 w b)=true /\ 0<=kE 4 w b /\ kE 4 w b < 8 :=
 z8 (P:=fun w b=>jW w b=true->¬b=w->xt w (kE 4 w b)=true /\ 0<=kE 4 w b /\ kE 4 w b < 8) (by decide) (mF h) h dE
theorem Li {w c:Int} (h:xt w c=true):jW w c=true:=z8 (P:=fun w c=>xt w c=true->jW w c=true) (by decide) (Vx h) h
theorem agE {w b:Int} (h:jW w b=true) (hb:¬b=0):jW w (rI b)=true /\ 0<=rI b /\ rI b < 8 :=
 z8 (P:=fun w b=>jW w b=true->¬b=0->jW w (rI b)=true /\ 0<=rI b /\ rI b < 8) (by decide) (mF h) h hb
theorem DP {n:Int} (h0:0<=n) {j:ca} (h:j.W0 n) (hw:jW j.wanted j.bucket=true) {r0:Nat}:mC n r0 (QN j):=by
 unfold QN;split
 ·exact Lo h0 h
 ·rename_i dE;obtain⟨h1,h2⟩:=Z5 hw dE;refine⟨.inr (iJ h0),⟨h.key,h.kd,h2,?_,?_,?_,fun _=>h1,h.base,h.node,h.gH,h.count,?_,h.wk,?_⟩,fun h=>absurd h jL,⟨fun _=>rfl,?_⟩⟩
  ·dsimp only;decide
  all_goals (intro e;dsimp only at e;exact absurd e (by decide))
theorem S6 {n:Int} (h0:0<=n) {j:ca} (h:j.W0 n) (hc:xt j.wanted j.child=true) (hn:1<=j.node.ae) {w:bs} (hw:w.WF n) {r0:Nat}:mC n r0 (OJ j w):=by
 unfold OJ;refine gW (P:=mC n r0) (fun hb=>?_) fun hb=>?_
 ·refine⟨.inr (my h0 h.node hn),⟨h.key,h.kd,h.child,?_,?_,?_,fun _=>hc,h.base,h.node,cK hw.cur,h.count,fun _=>hn,lS hw,?_⟩,fun h=>absurd h lN,⟨?_,?_⟩⟩
  ·dsimp only;decide
  all_goals (intro e;dsimp only at e;exact absurd e (by decide))
 ·refine⟨.inr (bB h0 (aM h.node (by decide) (by decide)) (cK hw.cur)),⟨h.key,h.kd,h.child,?_,?_,?_,fun _=>hc,h.base,h.node,h.gH,h.count,fun _=>hn,lS hw,?_⟩,fun h=>absurd h iq,⟨?_,?_⟩⟩
  ·dsimp only;decide
  all_goals (intro e;dsimp only at e;exact absurd e (by decide))
theorem DO {n:Int} (h0:0<=n) {j:ca} (h:j.W0 n) (hc:xt j.wanted j.child=true) (hn:1<=j.node.ae) {w:bs} (hw:w.WF n) {x:cJ} (hx:gV n x.w) {r0:Nat} (hr:w.rk<=r0):mC n r0 (VJ j x w):=by
 have hk:=Jx h0 hw hx;unfold VJ;generalize bh w x=r at hk ⊢;obtain⟨⟨c,b⟩,w'⟩:=r;cases b with
 | false=>exact S6 h0 h hc hn hk.wf
 | true =>
   refine⟨.inr (hk.on rfl),⟨h.key,h.kd,h.child,?_,?_,?_,fun _=>hc,h.base,h.node,h.gH,h.count,fun _=>hn,lS hk.wf,?_⟩,fun hi=>?_,⟨?_,?_⟩⟩
   ·dsimp only [cond];decide
   ·intro e;dsimp only [cond] at e;exact absurd e (by decide)
   ·intro e;dsimp only [cond] at e;exact absurd e (by decide)
   ·intro e;dsimp only [cond] at e;exact absurd e (by decide)
   ·exact Nat.lt_of_lt_of_le (hk.rk rfl hi) hr
   all_goals (intro e;dsimp only [cond] at e;exact absurd e (by decide))
theorem xk {n:Int} {b:Int} (h0:0<=b) (h1:b < 8):Ay n (bc (eZ 8 b)):=by rw [show eZ 8 b=8+b from mD (by omega)];exact gd (by omega) (by omega)
theorem Tg (k:Int):uF k=1 \/ uF k=2 \/ uF k=4 \/ uF k=8:=by
 unfold uF;split
 ·rename_i h;have h:=eq_of_beq h;subst h;exact .inr (.inl rfl)
 ·split
  ·rename_i h;have h:=eq_of_beq h;subst h;exact .inr (.inr (.inl rfl))
  ·split
   ·rename_i h;have h:=eq_of_beq h;subst h;exact .inr (.inr (.inr rfl))
   ·exact .inl rfl
theorem abk {k s:Int} (h0:0<=k) (hs:s=1 \/ s=2 \/ s=4 \/ s=8):0<=Int.tmod k s /\ Int.tmod k s < 8:=by
 have hp:0 < s:=by omega
 rw [Int.tmod_eq_emod_of_nonneg h0];have:=Int.emod_nonneg k (show s≠0 by omega);have:=Int.emod_lt_of_pos k hp;omega
theorem aa5 {b:Int} (h0:0<=b) (h1:b < 8):jW b b=true:=by rcases (by omega:b=0 \/ b=1 \/ b=2 \/ b=3 \/ b=4 \/ b=5 \/ b=6 \/ b=7) with rfl | rfl | rfl | rfl | rfl | rfl | rfl | rfl<;>decide
theorem Lr {n:Int} {j:ca} (h:j.W0 n) (hc:xt j.wanted j.child=true) (hn:1<=j.node.ae) {r0:Nat} {c:Cl} (hcl:ug n c) (hi:¬GO c) {p:Int} (hp:p=4 \/ p=8 \/ p=9 \/ p=10):mC n r0 (c,{j with pc:=p}):=by
 rcases hp with rfl | rfl | rfl | rfl <;>
 ·refine⟨.inr hcl,⟨h.key,h.kd,h.child,?_,?_,?_,fun _=>hc,h.base,h.node,h.gH,h.count,fun _=>hn,h.wk,?_⟩,fun h=>absurd h hi,⟨?_,?_⟩⟩
  ·dsimp only;decide
  all_goals (intro e;dsimp only at e;exact absurd e (by decide))
theorem DQ {n:Int} {j:ca} (h:j.W0 n) (hc:xt j.wanted j.child=true) {r0:Nat} {c:Cl} (hcl:ug n c) (hi:¬GO c) {p:Int} (hp:p=9 \/ p=10):mC n r0 (c,{j with pc:=p}):=by
 rcases hp with rfl | rfl <;>
 ·refine⟨.inr hcl,⟨h.key,h.kd,h.child,?_,?_,?_,fun _=>hc,h.base,h.node,h.gH,h.count,?_,h.wk,?_⟩,fun h=>absurd h hi,⟨?_,?_⟩⟩
  ·dsimp only;decide
  all_goals (intro e;dsimp only at e;exact absurd e (by decide))
theorem Lt {n:Int} (h0:0<=n) {j:ca} (h:j.W0 n) (hw:jW j.wanted j.bucket=true) (hb:0<=j.bucket /\ j.bucket < 8) {r0:Nat}:mC n r0 (bC (bc (eZ 8 j.bucket)),{j with pc:=2}):=by
 refine⟨.inr (bH h0 (xk hb.1 hb.2)),⟨h.key,h.kd,h.child,?_,?_,fun _=>hw,?_,h.base,h.node,h.gH,h.count,?_,h.wk,?_⟩,fun h=>absurd h fy,⟨?_,?_⟩⟩
 ·dsimp only;decide
 all_goals (intro e;dsimp only at e;exact absurd e (by decide))
theorem ane {a:Ad×Int}:(iD a).rk=0:=by unfold bs.rk iD;dsimp only;rw [if_neg (by decide),if_neg (by decide)]
theorem agI {n:Int} (h0:0<=n) {j:ca} (h:j.WF n) {hd:Bool} {c:Cl} (ha:j.aw c) {x:cJ} (hr:wh n hd c x):mC n j.rk (bn j x):=by
 have hx:gV n x.w:=hr.w;have nx:0<=x.w.ae:=hx.1;have w:=h.w0;have hp:=h.pc;have hq:=h;obtain⟨pc,last,op,size,wanted,bucket,child,base,node,sentinel,walk,inner,answer,count⟩:=j;dsimp only at hp;rcases hp with rfl | rfl | rfl | rfl | rfl | rfl | rfl | rfl | rfl | rfl | rfl | rfl | rfl | rfl | rfl | rfl | rfl
 ·exact⟨.inl (h.last rfl),h,fun e=>absurd e (jP (h.last rfl) (by decide) (by decide)),⟨fun e=>absurd (show (-1:Int)=3 from e) (by decide),fun e=>absurd (show (-1:Int)=11 from e) (by decide)⟩⟩
 ·exact wC h0 (j:=⟨0,last,op,size,wanted,bucket,child,base,node,sentinel,walk,inner,answer,count⟩) w (c:=bC (bc 16)) (bH h0 (gd (by decide) (by decide))) fy (.inl rfl)
 ·have ht:=abk h.key.1 (Tg x.w.bU);exact Lt h0 (j:=⟨1,last,op,uF x.w.bU,Int.tmod op.key (uF x.w.bU),Int.tmod op.key (uF x.w.bU),child,base,node,sentinel,walk,inner,answer,count⟩) ⟨w.key,w.kd,w.child,w.base,w.node,w.gH,w.count,w.wk⟩ (aa5 ht.1 ht.2) ht
 ·have hw:=h.wb rfl;show mC n _ (cond (!(x.w.ae==0)) (QN ⟨2,last,op,size,wanted,bucket,child,x.w,node,sentinel,walk,inner,answer,count⟩) (if bucket=0 then Lq ⟨4,0⟩ ⟨2,last,op,size,wanted,bucket,child,base,node,sentinel,walk,inner,answer,count⟩ else(bC (bc (eZ 8 (rI bucket))),⟨2,last,op,size,wanted,rI bucket,child,base,node,sentinel,walk,inner,answer,count⟩)));refine gW (P:=mC n _) (fun _=>DP h0 (j:=⟨2,last,op,size,wanted,bucket,child,x.w,node,sentinel,walk,inner,answer,count⟩) ⟨w.key,w.kd,w.child,hx,w.node,w.gH,w.count,w.wk⟩ hw) fun _=>?_;split
  ·exact uK w _
  ·rename_i hb;obtain⟨g1,g2⟩:=agE hw hb;exact Lt h0 (j:=⟨2,last,op,size,wanted,rI bucket,child,base,node,sentinel,walk,inner,answer,count⟩) ⟨w.key,w.kd,w.child,w.base,w.node,w.gH,w.count,w.wk⟩ g1 g2
 ·have hc:=h.wc ⟨by show (3:Int)<=3;decide,by show (3:Int)<=10;decide⟩;show mC n _ (cond (!x.ok) (QL ⟨3,last,op,size,wanted,bucket,child,base,node,sentinel,walk,inner,answer,count⟩) (cW (az x.w 0) (dZ (dW child)),⟨4,last,op,size,wanted,bucket,child,base,x.w,sentinel,walk,inner,answer,count⟩));refine gW (P:=mC n _) (fun _=>Lo h0 w) fun hb=>?_;have pf:x.ok=true:=by cases e:x.ok with | true=>rfl | false=>rw [e] at hb;cases hb
  exact Lr (j:=⟨3,last,op,size,wanted,bucket,child,base,x.w,sentinel,walk,inner,answer,count⟩) ⟨w.key,w.kd,w.child,w.base,hx,w.gH,w.count,w.wk⟩ hc (hr.al (ha.1 rfl) pf) (bB h0 (aM hx (by decide) (by decide)) (iy h0 _)) iq (.inl rfl)
 ·have hc:=h.wc ⟨by show (3:Int)<=4;decide,by show (4:Int)<=10;decide⟩;have hn:=h.nd ⟨by show (4:Int)<=4;decide,by show (4:Int)<=8;decide⟩;exact DO h0 (j:=⟨4,last,op,size,wanted,bucket,child,base,node,sentinel,walk,inner,answer,count⟩) w hc hn (yi h0 (aM w.base (by decide) (by decide)) (dW child)) hx (by rw [ane];exact acX _)
 ·have hc:=h.wc ⟨by show (3:Int)<=5;decide,by show (5:Int)<=10;decide⟩;have hn:=h.nd ⟨by show (4:Int)<=5;decide,by show (5:Int)<=8;decide⟩;cases walk with
  | none =>
    show mC n _ (cW (az node 2) (dB aq),⟨7,last,op,size,wanted,bucket,child,base,node,sentinel,none,inner,answer,count⟩);refine⟨.inr (bB h0 (aM w.node (by decide) (by decide)) (aU h0)),⟨w.key,w.kd,w.child,?_,?_,?_,fun _=>hc,w.base,w.node,w.gH,w.count,fun _=>hn,w.wk,?_⟩,fun h=>absurd h iq,⟨?_,?_⟩⟩
    ·dsimp only;decide
    all_goals (intro e;dsimp only at e;exact absurd e (by decide))
  | some wk=>exact DO h0 (j:=⟨5,last,op,size,wanted,bucket,child,base,node,sentinel,some wk,inner,answer,count⟩) w hc hn (h.wk wk rfl) hx (ab4 _)
 ·have hc:=h.wc ⟨by show (3:Int)<=6;decide,by show (6:Int)<=10;decide⟩;exact DQ (j:=⟨6,last,op,size,wanted,bucket,child,base,node,sentinel,walk,inner,answer,count⟩) w hc (bH h0 (xk w.child.1 w.child.2)) fy (.inl rfl)
 ·have hc:=h.wc ⟨by show (3:Int)<=7;decide,by show (7:Int)<=10;decide⟩;have hn:=h.nd ⟨by show (4:Int)<=7;decide,by show (7:Int)<=8;decide⟩;refine Lr (j:=⟨7,last,op,size,wanted,bucket,child,base,node,sentinel,walk,inner,answer,count⟩) w hc hn (c:=cr (match walk with | none=>(iC,aq,aq) | some w=>(w.prev,w.cur,w.next)).1 (match walk with | none=>(iC,aq,aq) | some w=>(w.prev,w.cur,w.next)).2.1 (iV (match walk with | none=>(iC,aq,aq) | some w=>(w.prev,w.cur,w.next)).2.1 node)) ?_ gO (.inr (.inl rfl));cases walk with
  | none=>exact bQ rS (aU h0) (eK w.node)
  | some wk=>exact bQ (h.wk wk rfl).prev (h.wk wk rfl).cur (eK w.node)
 ·have hc:=h.wc ⟨by show (3:Int)<=8;decide,by show (8:Int)<=10;decide⟩;have hn:=h.nd ⟨by show (4:Int)<=8;decide,by show (8:Int)<=8;decide⟩;show mC n _ (cond x.ok (bC (bc (eZ 8 child)),⟨9,last,op,size,wanted,bucket,child,base,node,node,walk,inner,answer,count⟩) (VJ ⟨8,last,op,size,wanted,bucket,child,base,node,sentinel,walk,inner,answer,count⟩ x (iD (az base 2,dW child))));refine gW (P:=mC n _) (fun _=>?_) fun _=>?_
  ·exact DQ (j:=⟨8,last,op,size,wanted,bucket,child,base,node,node,walk,inner,answer,count⟩) ⟨w.key,w.kd,w.child,w.base,w.node,w.node,w.count,w.wk⟩ hc (bH h0 (xk w.child.1 w.child.2)) fy (.inl rfl)
  ·exact DO h0 (j:=⟨8,last,op,size,wanted,bucket,child,base,node,sentinel,walk,inner,answer,count⟩) w hc hn (yi h0 (aM w.base (by decide) (by decide)) (dW child)) hx (by rw [ane];exact acX _)
 ·have hc:=h.wc ⟨by show (3:Int)<=9;decide,by show (9:Int)<=10;decide⟩;show mC n _ (cond (x.w.ae==0) (cr (bc (eZ 8 child)) x.w (iV x.w sentinel),⟨10,last,op,size,wanted,bucket,child,base,node,sentinel,walk,inner,answer,count⟩) (QN ⟨9,last,op,size,wanted,child,child,sentinel,node,sentinel,walk,inner,answer,count⟩));refine gW (P:=mC n _) (fun _=>?_) fun _=>DP h0 (j:=⟨9,last,op,size,wanted,child,child,sentinel,node,sentinel,walk,inner,answer,count⟩) ⟨w.key,w.kd,w.child,w.gH,w.node,w.gH,w.count,w.wk⟩ (Li hc);exact DQ (j:=⟨9,last,op,size,wanted,bucket,child,base,node,sentinel,walk,inner,answer,count⟩) w hc (bQ (xk w.child.1 w.child.2) hx (eK w.gH)) gO (.inr rfl)
 ·have hc:=h.wc ⟨by show (3:Int)<=10;decide,by show (10:Int)<=10;decide⟩;exact DP h0 (j:=⟨10,last,op,size,wanted,child,child,sentinel,node,sentinel,walk,inner,answer,count⟩) ⟨w.key,w.kd,w.child,w.gH,w.node,w.gH,w.count,w.wk⟩ (Li hc)
 ·obtain⟨l,hl,hlw⟩:=h.kW rfl;have hl:inner=some l:=hl;subst hl;have hn:=PG h0 hlw (ha.2 rfl l rfl) hr;exact QM h0 (j:=⟨11,last,op,size,wanted,bucket,child,base,node,sentinel,walk,some (ct l x).2,answer,count⟩) ⟨w.key,w.kd,w.child,w.base,w.node,w.gH,w.count,w.wk⟩ rfl rfl hn.wf hn.Rk hn.aw hn.rk
 ·show mC n _ (cond (op.aj==7) (cr (bc 17) x.w (fH x.w (-1)),⟨13,last,op,size,wanted,bucket,child,base,node,sentinel,walk,inner,answer,x.w⟩) (cr (bc 17) x.w (fH x.w 1),⟨13,last,op,size,wanted,bucket,child,base,node,sentinel,walk,inner,answer,x.w⟩));refine gW (P:=mC n _) (fun _=>?_) fun _=>?_;all_goals (exact wC h0 (j:=⟨12,last,op,size,wanted,bucket,child,base,node,sentinel,walk,inner,answer,x.w⟩) ⟨w.key,w.kd,w.child,w.base,w.node,w.gH,hx,w.wk⟩ (bQ (gd (by decide) (by decide)) hx (rX h0)) gO (.inr (.inr (.inl rfl))))
 ·show mC n _ (cond (!x.ok) (bC (bc 17),⟨12,last,op,size,wanted,bucket,child,base,node,sentinel,walk,inner,answer,count⟩) (cond (ll (op.aj==7) (ll (size==8) (decide (count.bU < IntKind.wrap .i64 (2 * size))))) (Lq answer ⟨13,last,op,size,wanted,bucket,child,base,node,sentinel,walk,inner,answer,count⟩) (bC (bc 16),⟨14,last,op,size,wanted,bucket,child,base,node,sentinel,walk,inner,answer,count⟩)));refine gW (P:=mC n _) (fun _=>?_) fun _=>gW (P:=mC n _) (fun _=>uK w _) fun _=>?_
  ·exact wC h0 (j:=⟨13,last,op,size,wanted,bucket,child,base,node,sentinel,walk,inner,answer,count⟩) w (bH h0 (gd (by decide) (by decide))) fy (.inr (.inl rfl))
  ·exact wC h0 (j:=⟨13,last,op,size,wanted,bucket,child,base,node,sentinel,walk,inner,answer,count⟩) w (bH h0 (gd (by decide) (by decide))) fy (.inr (.inr (.inr (.inl rfl))))
 ·show mC n _ (cond (x.w.bU==size) (cr (bc 16) x.w (fH x.w size),⟨15,last,op,size,wanted,bucket,child,base,node,sentinel,walk,inner,answer,count⟩) (Lq answer ⟨14,last,op,size,wanted,bucket,child,base,node,sentinel,walk,inner,answer,count⟩));refine gW (P:=mC n _) (fun _=>?_) fun _=>uK w _;exact wC h0 (j:=⟨14,last,op,size,wanted,bucket,child,base,node,sentinel,walk,inner,answer,count⟩) w (bQ (gd (by decide) (by decide)) hx (rX h0)) gO (.inr (.inr (.inr (.inr rfl))))
 ·exact uK (j:=⟨15,last,op,size,wanted,bucket,child,base,node,sentinel,walk,inner,answer,count⟩) w _
end
end Go.Proofs.YtadmfaohjnjajaaGreatDoor

namespace Go.Sx
variable {AV:Type} {P:Program} {N:eI AV}
def G6:Option (aK AV)->Option (aK AV)
 | some (.cells l ty)=>some (.cells (CP l) ty)
 | x=>x
def RA (s:St AV):St AV:={E:=s.E,H:=s.H.map G6}
def CB (L nt:Nat) (ks:List Nat) (pk:aK AV->Option AV) (r:Ex×St AV):T (Ex×St AV):=(ff L nt ks pk r).bind fun r=>.aD (r.1,RA r.2)
theorem zu (H:Hp AV) (n:Nat):af (H.map G6) n=G6 (af H n):=wR G6 rfl H n
theorem T0 {l:List Cell} {c:Cell} (h:c∈CP l):∃c'∈l,c'.name=c.name:=by rw [EL] at h;obtain⟨c',h1,rfl⟩:=ac0.1 h;exact⟨c',h1,(Ba c').symm⟩
theorem EK {H:Hp AV} {n:Nat} {c:aK AV} (h:af H n=some c):∃c',af (H.map G6) n=some c':=by
 rw [zu,h];cases c with
 | cells l ty=>exact⟨_,rfl⟩
 | oB l es ty=>exact⟨_,rfl⟩
 | kN=>exact⟨_,rfl⟩
 | bN a=>exact⟨_,rfl⟩
theorem Qm {s:St AV} (h:bO N s):bO N (RA s):=by
 have dC:∀{c:Cell},ClC s.H c->ClC (s.H.map G6) c:=fun hc n hn=>by obtain⟨x,hx⟩:=hc n hn;exact EK hx
 refine⟨fun k=>gf.mono (h.E k) fun n c hn=>EK hn,fun n x hx=>?_⟩;have hx:af (s.H.map G6) n=some x:=hx;rw [zu] at hx;cases hs:af s.H n with
 | none=>rw [hs] at hx;cases hx
 | some d =>
   rw [hs] at hx;have hd:=h.H n d hs;cases d with
   | cells l ty =>cases hx;intro c hc m hm;obtain⟨c',h1,h2⟩:=T0 hc;exact dC (hd c' h1) m (by rw [h2];exact hm)
   | oB l es ty=>cases hx;exact fun c hc=>dC (hd c hc)
   | kN=>cases hx;exact fun c hc=>dC (hd c hc)
   | bN a=>cases hx;exact fun c hc=>dC (hd c hc)
theorem Pz (π:Nat->Nat) (d:aK AV):∃c,G6 (some d)=some c /\ iM N (d.cV π) (c.cV π):=by
 cases d with
 | cells l ty =>refine⟨_,rfl,fun ρ n w=>⟨fun h=>?_,fun k=>Iff.rfl⟩⟩;have h:w.heap[ρ n]?=some (.cells (aF ρ (l.map (Cell.cV π))).toArray ty (0,0)):=h;show w.heap[ρ n]?=some (.cells (aF ρ ((CP l).map (Cell.cV π))).toArray ty (0,0));rw [vQ] at h ⊢;rw [vn];exact h
 | oB l es ty=>exact⟨_,rfl,iM.refl _⟩
 | kN=>exact⟨_,rfl,iM.refl _⟩
 | bN a=>exact⟨_,rfl,iM.refl _⟩
theorem aai {L nt:Nat} {ks:List Nat} {pk:aK AV->Option AV} (Aw:∀d a,pk d=some a->∀π,iM N (d.cV π) (.bN a)) (hG:N.G<=L) {r r':Ex×St AV} (h:(CB L nt ks pk r).val=some r'):r'.1=r.1 /\ ∃π,wu N L nt r.2 r'.2 π:=by
 obtain⟨r1,h1,h2⟩:=T.bq h;obtain⟨e1,π,hb⟩:=Gl Aw hG h1;cases h2;refine⟨e1,π,hb.anL rfl (by simp [RA]) (fun n=>?_) (Qm hb.cl)⟩;show _ \/ ∃d c,_ /\ af (r1.2.H.map G6) n=some c /\ _;rw [show af (RA r1.2).H n=G6 (af r1.2.H n) from zu _ n];cases hd:af r1.2.H n with
 | none=>exact .inl ⟨rfl,rfl⟩
 | some d =>obtain⟨c,g1,g2⟩:=Pz (N:=N) π d;exact .inr ⟨d,c,rfl,by rw [zu,hd];exact g1,g2⟩
theorem sC (hT:fN P N) {cX:Callee AV} (cR:gZ P N cX) {lp:Nat->Option (St AV->T (Ex×St AV))} {nt L:Nat} {c:Code} (qG:QE P N nt c lp) {ks:List Nat} {pk:aK AV->Option AV} (Aw:∀d a,pk d=some a->∀π,iM N (d.cV π) (.bN a)) (hG:N.G<=L) {s:St AV} {r:Ex×St AV}
 (h:((xc N cX lp nt c s).bind (CB L nt ks pk)).val=some r):∃s1,Rnd P N nt c s r.1 s1 /\ ∃π,wu N L nt s1 r.2 π:=by
 obtain⟨⟨e1,s1⟩,h1,h2⟩:=T.bq h;obtain⟨h3,π,h4⟩:=aai Aw hG h2;simp only at h3 h4;exact⟨s1,Xb hT cR qG (by rw [h3];exact h1),π,h4⟩
end Go.Sx

namespace Go.Proofs.YtadmfaohjnjajaaGreatDoor
open Go Go.Sx Go.Proofs
variable {σ:Sg} {lp:Lp}
@[reducible] def EF:xp aA:=⟨iG,VB,fun _ _=>OI,fun _=>rfl⟩
structure AdF where
 Vc:ax->Cl->Bool
 bg:ax->Cl->ax
 np:dz->cJ->Cl×dz
 nc:dj->cJ->Cl×dj
 nl:cU->cJ->Cl×cU
 okv:ca->Bool
 nv:ca->cJ->Cl×ca
 qM:cD->Bool
 ns:cD->cJ->Cl×cD
def B4 (F:AdF):m7:=br 55 (bJ cL bS (fS Lf C5 iA (fun _ _=>none) (fun m _=>(gT m,m)))) (br 56 (bJ cL bS (fS Lf vRp iA (fun _ _=>none) (fun m _=>(m.bD,m))))
 (br 54 (bJ cL bS (fS aCl CI iA (fun m c=>some (F.Vc m c)) (fun m c=>((),F.bg m c))))
 (br 133 (bJ cL bS (fS nD C4 HW (fun _ _=>none) F.np)) (br 143 (bJ cL bS (fS nD C4 HX (fun _ _=>none) F.nc))
 (br 152 (bJ cL bS (oL nD C4 EH (fun _ _=>none) F.nl bf)) (br 174 (bJ cL bS (fS nD C4 Pu (fun j _=>some (F.okv j)) F.nv)) (br 193 (bJ cL bS (fS nD C4 EG (fun j _=>some (F.qM j)) F.ns)) b9)))))))
def GW:AdF:=⟨G5,bj,oJ,mY,ct,TX,bn,Mr,aN⟩
theorem V4:dH Tryz.prog (NV σ) (B4 GW):=aH wM (aH Ph (aH Gg (aH ab2 (aH adX (aH Yn (aH agJ (aH ahb bp)))))))
def ksA:List Nat:=[0]
def LA:Code:=jv 0 (cQ (eG Tryz.f29))
def hpV (v:aA):Hp AV:=p9 (iQ bS [iG v]) 7 (gk AV.len qJ (aA.wr v))
def yE (v:aA):St AV:={E:=only ksA [(0,.v (.c (.ptr 7 2)))] 52,H:=hpV v}
def gp:Cl:=⟨2,iC,aq,aq,0,0,⟨0,0⟩⟩
section
variable {β:Type} (I:Bool->β->β->β) (N:Bool->β->β) (L:Ex×aA->β)
def fM (F:AdF) (v:aA) (nx:Cl×dV):β :=
 I (nx.1.aj != 12) (N (F.Vc v.aP nx.1) (L (.normal,{v with aO:=2,call:=nx.1,aP:=F.bg v.aP nx.1,cF:=some nx.2})))
   (N (F.Vc v.aP gp) (L (.normal,{v with answer:=nx.1.qB,aO:=3,call:=gp,aP:=F.bg v.aP gp,cF:=some nx.2})))
def eF (v:aA) (c:β):β :=
 I ((v.aO != 0)==true) (I (!gT v.aP) (I (v.aO==1) (I (v.aO==1) c (L (.normal,{v with aO:=0}))) (I (v.aO==2) c (L (.normal,{v with aO:=0})))) (L (.exit 0,v))) (L (.exit 0,v))
end
def tF (r:Ex×aA):T (Ex×St AV):=.aD (r.1,yE r.2)
theorem aek (σ:Sg) (F:AdF) (v:aA) (j:dz):(xc (NV σ) (bE (lv (NV σ) (B4 F) 5)) (fun _=>none) 52 LA (yE {v with cF:=some (.eu j)})).bind (CB 10 52 ksA fw) =
 eF tI tF {v with cF:=some (.eu j)} (fM tI tN tF F {v with cF:=some (.eu j)} ((F.np j v.aP.bD).1,.eu (F.np j v.aP.bD).2)):=by kernel_rfl
theorem aem (σ:Sg) (F:AdF) (v:aA) (j:dj):(xc (NV σ) (bE (lv (NV σ) (B4 F) 5)) (fun _=>none) 52 LA (yE {v with cF:=some (.dO j)})).bind (CB 10 52 ksA fw) =
 eF tI tF {v with cF:=some (.dO j)} (fM tI tN tF F {v with cF:=some (.dO j)} ((F.nc j v.aP.bD).1,.dO (F.nc j v.aP.bD).2)):=by kernel_rfl
theorem akc (σ:Sg) (F:AdF) (v:aA) (j:cU):(xc (NV σ) (bE (lv (NV σ) (B4 F) 5)) (fun _=>none) 52 LA (yE {v with cF:=some (.lit j)})).bind (CB 10 52 ksA fw) =
 eF tI tF {v with cF:=some (.lit j)} (fM tI tN tF F {v with cF:=some (.lit j)} ((F.nl j v.aP.bD).1,.lit (F.nl j v.aP.bD).2)):=by kernel_rfl
theorem aj9 (σ:Sg) (F:AdF) (v:aA) (j:ca):(xc (NV σ) (bE (lv (NV σ) (B4 F) 5)) (fun _=>none) 52 LA (yE {v with cF:=some (.pQ j)})).bind (CB 10 52 ksA fw) =
 eF tI tF {v with cF:=some (.pQ j)} (tN (F.okv j) (fM tI tN tF F {v with cF:=some (.pQ j)} ((F.nv j v.aP.bD).1,.pQ (F.nv j v.aP.bD).2))):=by kernel_rfl
theorem aka (σ:Sg) (F:AdF) (v:aA) (j:cD):(xc (NV σ) (bE (lv (NV σ) (B4 F) 5)) (fun _=>none) 52 LA (yE {v with cF:=some (.pn j)})).bind (CB 10 52 ksA fw) =
 eF tI tF {v with cF:=some (.pn j)} (tN (F.qM j) (fM tI tN tF F {v with cF:=some (.pn j)} ((F.ns j v.aP.bD).1,.pn (F.ns j v.aP.bD).2))):=by kernel_rfl
def afj:T (Ex×St AV):=.fail "nilCheck"
theorem ael (σ:Sg) (F:AdF) (v:aA):(xc (NV σ) (bE (lv (NV σ) (B4 F) 5)) (fun _=>none) 52 LA (yE {v with cF:=none})).bind (CB 9 52 ksA fw) =
 eF tI tF {v with cF:=none} afj:=by kernel_rfl
