import Derived.Test.YtadmfaohjnjajaaGreatDoorRu
import Derived.Test.YtadmfaohjnjajaaGreatDoorRn
import Derived.Test.YtadmfaohjnjajaaGreatDoorSxOf
import Derived.Test.YtadmfaohjnjajaaGreatDoorQr
import Derived.Test.YtadmfaohjnjajaaGreatDoorOr
set_option linter.unusedVariables false
set_option linter.unusedSimpArgs false
set_option maxHeartbeats 0
set_option maxRecDepth 100000
noncomputable section
namespace Go.Proofs.YtadmfaohjnjajaaGreatDoor
section
open Go Go.Sx Go.Proofs
structure S3.Ok (n:Int) (s:S3):Prop where
 p0:zJ n s.p0
 c0:gD n s.c0
 p1:zJ n s.p1
 c1:gD n s.c1
 p2:zJ n s.p2
 c2:gD n s.c2
theorem S3.I1 {n:Int} {s:S3} (h:s.Ok n) {l:Int} {p:Ad} {c:W} (hp:zJ n p) (hc:gD n c):(S3.put s l p c).Ok n:=by
 unfold S3.put
 split
 ·exact⟨hp,hc,h.p1,h.c1,h.p2,h.c2⟩
 ·split
  ·exact⟨h.p0,h.c0,hp,hc,h.p2,h.c2⟩
  ·exact⟨h.p0,h.c0,h.p1,h.c1,hp,hc⟩
structure aN.WF (n:Int) (c:aN):Prop where
 lv:c.level=0 \/ c.level=1 \/ c.level=2
 prev:zJ n c.prev
 cur:gD n c.cur
 next:gD n c.next
 eo:c.eo.Ok n
 found:gD n c.found
 pc:c.pc=-1 \/ c.pc=0 \/ c.pc=2 \/ c.pc=3 \/ c.pc=4 \/ c.pc=5 \/ c.pc=6 \/ c.pc=7 \/ c.pc=8 \/ c.pc=9
 nz:(c.pc=3 \/ c.pc=4 \/ c.pc=5 \/ c.pc=6 \/ c.pc=7 \/ c.pc=8)->1<=c.cur.af
def aN.rk (c:aN):Nat:=if c.pc=5 then 2 else if c.pc=2 \/ c.pc=6 \/ c.pc=7 then 1 else 0
structure J1 (n:Int) (pc0:Int) (r0:Nat) (r:(Cl×Bool)×aN):Prop where
 on:r.1.2=true->sU n r.1.1
 wf:r.2.WF n
 rk:r.1.2=true->FG r.1.1->r.2.rk < r0
 off:r.1.2=false->r.2.pc=-1
 st:pc0=0->r.1.2=true
theorem YU {n:Int} {a:Ad} (h:zJ n a) (hs:a.s≠0) {f:Int} (h0:0<=f) (h1:f < 10):zJ n {a with f:=f}:=by
 rcases h with⟨h,_⟩ | ⟨h2,h3,_⟩
 ·exact absurd h hs
 ·exact .inr ⟨h2,h3,h0,h1⟩
theorem EX {n:Int} (h0:0<=n) {c:aN} (h:c.WF n) {x:cr} (hx:gD n x.w):J1 n c.pc c.rk (aH c x):=by
 obtain⟨pc,last,prev,cur,BS,level,next,k,eo,found⟩:=c
 obtain⟨BG,MY,hc,hn,hsp,TA,hp,hz⟩:=h
 dsimp only at BG MY hc hn hsp TA hp hz
 have nx:0<=x.w.af:=hx.1
 have nn:0<=next.af:=hn.1
 rcases BG with rfl | rfl | rfl<;>rcases hp with rfl | rfl | rfl | rfl | rfl | rfl | rfl | rfl | rfl | rfl
 all_goals unfold aH mG
 all_goals dsimp only [id]
 all_goals simp only [if_true,show ¬(1:Int)=0 by decide,show ¬(2:Int)=0 by decide,if_false]
 all_goals (repeat' (refine gE (fun hb=>?_) (fun hb=>?_)<;>first | (exact absurd hb (by decide)) | skip))
 all_goals refine⟨?_,⟨?_,?_,?_,?_,?_,?_,?_,?_⟩,?_,?_,?_⟩
 all_goals dsimp only [aN.rk]
 all_goals first
  | assumption
  | exact fun h=>absurd h (by decide)
  | decide
  | exact S3.I1 hsp (by assumption) (by assumption)
  | exact fun _=>fT h0 (by assumption) (by decide) (by decide)
  | exact fun _=>fT h0 (fQ (by decide) (by decide)) (by decide) (by decide)
  | exact fun _=>fT h0 (aL (by assumption) (by decide) (by decide)) (by decide) (by decide)
  | exact fun _=>bD h0 (aL (by assumption) (by decide) (by decide))
  | exact fun _=>bD h0 (by assumption)
  | exact fun _=>bK (by assumption) (by assumption) (eu (by assumption))
  | exact fun _=>H8 h0 (by unfold CA;decide)
  | exact fQ (by decide) (by decide)
  | exact aL (by assumption) (by decide) (by decide)
  | exact YU MY (PW (by assumption)) (by decide) (by decide)
  | exact eu hn
  | exact ct (by assumption)
  | exact ct (eu hn)
  | exact S3.I1 hsp MY (eu hn)
  | exact fun _=>hz (by decide)
  | exact fun _=>(by have:=PW (by assumption:(x.w.af==0)=false);omega)
  | exact fun _=>(by have:=PW (by assumption:(next.af==0)=false);omega)
  | exact fun _=>(by have:=PW (by assumption:((iC cur next).af==0)=false);show 1<=next.af;exact(by have h:next.af≠0:=this;omega))
  | exact fun _ h=>absurd h eX
  | exact fun _ h=>absurd h gr
  | exact fun _ h=>absurd h oz
  | exact fun _=>rfl
  | exact fun _ _=>(by simp)
theorem BC {n:Int} (h0:0<=n) (b:Int):(eW b).WF n :=
 ⟨.inl rfl,qS,aR h0,aR h0,⟨qS,aR h0,qS,aR h0,qS,aR h0⟩,aR h0,.inr (.inl rfl),fun h=>absurd h (by show ¬((0:Int)=3 \/ (0:Int)=4 \/ (0:Int)=5 \/ (0:Int)=6 \/ (0:Int)=7 \/ (0:Int)=8);decide)⟩
theorem nU {n:Int} (h0:0<=n) {c:aN} (h:c.WF n) (l:Int):zJ n (aT c l).1 /\ gD n (aT c l).2:=by
 unfold aT
 split
 ·exact⟨h.eo.p0,h.eo.c0⟩
 ·split
  ·exact⟨h.eo.p1,h.eo.c1⟩
  ·split
   ·exact⟨h.eo.p2,h.eo.c2⟩
   ·exact⟨qS,aR h0⟩
def apW (c:Option aN) (l:Int):Ad×W:=match c with | none=>(gX,ao) | some c=>aT c l
def crk:Option aN->Nat
 | none=>0
 | some c=>c.rk
structure cd.WF (n:Int) (j:cd):Prop where
 kd:j.op.aj=6 \/ j.op.aj=7 \/ j.op.aj=8
 bO:j.op.aj=6->j.op.bO<=3
 pc:(j.op.aj=6 /\ (j.pc=-1 \/ j.pc=0 \/ j.pc=1 \/ j.pc=2 \/ j.pc=3 \/ j.pc=4 \/ j.pc=5 \/ j.pc=6 \/ j.pc=7 \/ j.pc=8 \/ j.pc=9 \/ j.pc=10 \/ j.pc=11 \/ j.pc=12)) \/ (j.op.aj=7 /\ (j.pc=-1 \/ j.pc=0 \/ j.pc=1 \/ j.pc=2 \/ j.pc=3 \/ j.pc=4 \/ j.pc=5 \/ j.pc=6)) \/ (j.op.aj=8 /\ (j.pc=-1 \/ j.pc=0 \/ j.pc=1 \/ j.pc=2)) \/ (j.pc=101 \/ j.pc=102 \/ j.pc=103 \/ j.pc=104)
 last:j.pc=-1->j.last.aj=12
 node:gD n j.node
 nd:(j.op.aj=6 /\ 2<=j.pc) \/ (j.op.aj=7 /\ 2<=j.pc) \/ 101<=j.pc->1<=j.node.af
 cl:∀c,j.kz=some c->c.WF n
 lv:(j.op.aj=6 /\ (j.pc=7 \/ j.pc=9 \/ j.pc=10 \/ j.pc=11 \/ j.pc=12)) \/ (j.op.aj=7 /\ (j.pc=3 \/ j.pc=4 \/ j.pc=5))->0<=j.level /\ j.level<=2
def cd.aw (c:Cl) (j:cd):Prop:=j.op.aj=6->j.pc=1->c.aj=8
def cd.rk (j:cd):Nat:=crk j.kz+if j.pc=103 then 1 else 0
def asq (n:Int) (r0:Nat) (r:Cl×cd):Prop:=FB n r.1 (r.2.WF n) (r.2.aw r.1) r0 r.2.rk
theorem Zr {l:Int} (h0:0<=l+1) (h1:l<=2):cX l=l+1:=ma (by omega)
theorem lQ {n:Int} {w:W} (h:gD n w) {l:Int} (h0:0<=l) (h1:l<=2):zJ n (ay w (eP 2 l)):=by
 have e:eP 2 l=2+l:=ma (by omega)
 rw [e]
 exact aL h (by omega) (by omega)
end
section
open Go Go.Sx Go.Proofs
theorem Yl {n:Int} {pc0:Int} {b:Int} {r:(Cl×Bool)×aN} (h:J1 n pc0 (eW b).rk r) (hb:r.1.2=true):¬FG r.1.1:=fun hi=>Nat.not_lt_zero _ (h.rk hb hi)
theorem ab9 {n:Int} {pc0:Int} {r0:Nat} {r:(Cl×Bool)×aN} (h:J1 n pc0 r0 r) (hb:r.1.2=false):r.2.rk=0:=by
 unfold aN.rk
 rw [h.off hb];rfl
theorem CM {n:Int} {w:aN} (h:w.WF n):∀w',some w=some w'->w'.WF n:=fun w' e=>by cases e;exact h
theorem acn {n:Int}:∀w',(none:Option aN)=some w'->w'.WF n:=fun w' e=>by cases e
theorem V5 {n:Int} {w:W} (h:gD n w) (hb:(w.af==0)=false):1<=w.af:=by
 have:=PW hb;have:=h.1;omega
theorem dle {a b:Int} (h:decide (a>=b)=false):a < b:=by have:=abb h;omega
theorem Ye {a b:Int} (h:decide (a < b)=true):a < b:=aaV h
theorem ap1 {a:Int} (h:lL (decide (a < 1)) (decide (a > 3))=false):0<=IntKind.wrap .i64 (a - 1) /\ IntKind.wrap .i64 (a - 1)<=2:=by
 have h1:¬a < 1:=fun h1=>by rw [aaS h1] at h;cases h
 have h2:¬a > 3:=fun h2=>by rw [aaS h2,aaZ h1] at h;cases h
 rw [ma (by omega)];omega
theorem okx {b:Bool} (h:(!b)=false):b=true:=by cases b<;>simp_all
theorem afs {n:Int} (h0:0<=n) {j:cd} (h:j.WF n) {hd:Bool} {c:Cl} (ha:j.aw c) {x:cr} (hr:vg n hd c x):asq n j.rk (aM j x):=by
 obtain⟨pc,last,⟨kd,ky,val,bO⟩,cl,node,lv,inc,v⟩:=j
 obtain⟨hk,Hn,hp,hl,hn,iS,hcl,BG⟩:=h
 dsimp only [cd.aw] at hk Hn hp hl hn iS hcl BG ha
 have al:kd=6->pc=1->x.ok=true->1<=x.w.af:=fun h6 h=>hr.al (ha h6 h)
 have hx:=hr.w
 clear hr ha
 have nx:0<=x.w.af:=hx.1
 have oJ:=EX h0 (BC h0 ky) hx
 have B9:=EX h0 (BC h0 (cX ky)) hx
 rcases hp with⟨rfl,hp⟩ | ⟨rfl,hp⟩ | ⟨rfl,hp⟩ | hp<;>rcases cl with _ | w
 all_goals first
  | (have uN:=hcl _ rfl;have xa:=EX h0 uN hx;have Zg:=nU h0 uN)
  | skip
 all_goals unfold aM rm
 all_goals dsimp only [id]
 all_goals try simp only [show ¬((7:Int)=6) by decide,show ¬((8:Int)=6) by decide,show ¬((8:Int)=7) by decide,if_false,if_true]
 all_goals have Xn:=fun(hb:aN.WF n (aH (eW ky) x).2)=>nU h0 hb
 all_goals generalize aH (eW ky) x=r1 at oJ Xn ⊢
 all_goals have Xm:=fun(hb:aN.WF n (aH (eW (cX ky)) x).2)=>nU h0 hb
 all_goals generalize aH (eW (cX ky)) x=r2 at B9 Xm ⊢
 all_goals obtain⟨⟨c1,b1⟩,w1⟩:=r1
 all_goals obtain⟨⟨c2,b2⟩,w2⟩:=r2
 all_goals first
  | (have Xl:=fun(hb:aN.WF n (aH w x).2)=>nU h0 hb
     generalize aH w x=r3 at xa Xl ⊢
     obtain⟨⟨c3,b3⟩,w3⟩:=r3)
  | skip
 all_goals ((repeat' (rcases (hp:_ \/ _) with hp | hp))<;>subst hp)
 all_goals dsimp only
 all_goals (repeat' (refine gE (fun hb=>?_) (fun hb=>?_)<;>first | (exact absurd hb (by decide)) | (exact absurd (aaV hb) (by decide)) | (exact absurd (abb hb) (by decide)) | skip))
 all_goals first
  | (have avd:=BG (by decide);have e1:cX lv=lv+1:=Zr (by omega) (by omega);have e2:IntKind.wrap .i64 (lv - 1)=lv - 1:=ma (by omega);try rw [e1];try rw [e2] at *)
  | skip
 all_goals have e0:cX (-1)=0:=rfl
 all_goals try rw [e0]
 all_goals refine⟨?_,⟨?_,?_,?_,?_,?_,?_,?_,?_⟩,?_,?_⟩
 all_goals dsimp only [cd.rk,cd.aw]
 all_goals first
  | exact .inl rfl
  | exact .inl (hl rfl)
  | exact .inr (ic h0)
  | exact .inr (xa.on (by assumption))
  | exact CM xa.wf
  | exact .inr (bD h0 (aL xa.wf.found (by decide) (by decide)))
  | exact xa.wf.found
  | exact fun _=>V5 xa.wf.found (by assumption)
  | exact .inr (oJ.on (by assumption))
  | exact CM oJ.wf
  | exact .inr (bD h0 (aL oJ.wf.found (by decide) (by decide)))
  | exact oJ.wf.found
  | exact fun _=>V5 oJ.wf.found (by assumption)
  | exact .inr (B9.on (by assumption))
  | exact CM B9.wf
  | exact .inr (bD h0 (aL B9.wf.found (by decide) (by decide)))
  | exact B9.wf.found
  | exact fun _=>V5 B9.wf.found (by assumption)
  | exact .inr (bq h0 (lQ hn (by omega) (by omega)) (ct (Xl xa.wf _).2))
  | exact .inr (bK (Xl xa.wf _).1 (Xl xa.wf _).2 (eu hn))
  | exact .inr (bq h0 (lQ hn (by omega) (by omega)) (ct (Xn oJ.wf _).2))
  | exact .inr (bK (Xn oJ.wf _).1 (Xn oJ.wf _).2 (eu hn))
  | exact .inr (bq h0 (lQ hn (by omega) (by omega)) (ct (Xm B9.wf _).2))
  | exact .inr (bK (Xm B9.wf _).1 (Xm B9.wf _).2 (eu hn))
  | exact .inr (lY h0 hn (iS (by decide)))
  | exact .inr (iN h0 hn (iS (by decide)))
  | exact .inr (iN h0 hn (iS (.inr (.inr (by decide)))))
  | exact .inr (bD h0 (aL hn (by decide) (by decide)))
  | exact .inr (bq h0 (aL (by assumption) (by decide) (by decide)) (gT h0 _))
  | exact .inr (bK (aL hn (by decide) (by decide)) hx (qZ h0))
  | exact .inr (bD h0 (lQ hn (by omega) (by omega)))
  | exact .inr (bK (lQ hn (by omega) (by omega)) hx (lD hx))
  | exact .inr (bD h0 (lQ hn (by have:=Hn rfl;have:=dle (by assumption);omega) (by have:=Hn rfl;have:=dle (by assumption);omega)))
  | exact .inr (bq h0 (lQ hn (by have:=Hn rfl;have:=Ye (by assumption);omega) (by have:=Hn rfl;have:=Ye (by assumption);omega)) (ct (aR h0)))
  | exact .inr (bK qS (aR h0) (eu hn))
  | exact .inr (bK (lQ hn (by omega) (by omega)) hx (eu (aR h0)))
  | exact .inr (bK (Zg _).1 (Zg _).2 (eu hn))
  | exact .inr (bK (lQ hn (by omega) (by omega)) hx (eu (Zg _).2))
  | exact .inr (bq h0 (lQ hn (by have:=Hn rfl;have:=Ye (by assumption);omega) (by have:=Hn rfl;have:=Ye (by assumption);omega)) (ct (Zg _).2))
  | exact .inr (bq h0 (lQ hn (by have:=Hn rfl;have:=Ye (by assumption);omega) (by have:=Hn rfl;have:=Ye (by assumption);omega)) (ct (Xl xa.wf _).2))
  | exact .inr (bq h0 (lQ hn (by have:=Hn rfl;have:=Ye (by assumption);omega) (by have:=Hn rfl;have:=Ye (by assumption);omega)) (ct (Xn oJ.wf _).2))
  | exact .inr (bq h0 (lQ hn (by have:=Hn rfl;have:=Ye (by assumption);omega) (by have:=Hn rfl;have:=Ye (by assumption);omega)) (ct (Xm B9.wf _).2))
  | assumption
  | exact Hn
  | exact .inr (.inr (.inr (by decide)))
  | exact fun h=>h.elim (fun h=>absurd h.2 (by decide)) (fun h=>absurd h.2 (by decide))
  | exact fun _=>Hn rfl
  | exact aR h0
  | decide
  | exact fun h=>absurd h (by decide)
  | exact fun _=>rfl
  | exact fun _ _=>rfl
  | exact fun h _=>absurd h (by decide)
  | exact fun _ h=>absurd h (by decide)
  | exact fun _=>iS (by decide)
  | exact fun _=>iS (.inr (.inr (by decide)))
  | exact fun _=>al rfl rfl (okx (by assumption))
  | exact fun _=>⟨by omega,by omega⟩
  | exact fun _=>BG (by decide)
  | exact fun _=>ap1 (by assumption)
  | exact fun _=>(by have:=PW (by assumption:(lv==0)=false);omega)
  | exact fun _=>(by have:=aaV (by assumption:decide (lv > 0)=true);omega)
  | exact .inr (bD h0 (lQ hn (by have:=PW (by assumption:(lv==0)=false);omega) (by omega)))
  | exact .inr (bD h0 (lQ hn (by have:=aaV (by assumption:decide (lv > 0)=true);omega) (by omega)))
  | exact fun _=>(by have:=Hn rfl;have:=dle (by assumption);omega)
  | exact fun _=>(by have:=Hn rfl;have:=Ye (by assumption);omega)
  | exact hk.elim (fun h=>.inl ⟨h,.inl rfl⟩) fun h=>.inr (h.elim (fun h=>.inl ⟨h,.inl rfl⟩) fun h=>.inr (.inl ⟨h,.inl rfl⟩))
  | exact CM uN
  | exact acn
  | exact fun h=>absurd h eX
  | exact fun h=>absurd h gQ
  | exact fun h=>absurd h gr
  | exact fun h=>absurd h jn
  | exact fun h=>absurd h kR
  | exact fun h=>absurd h mC
  | exact fun h=>absurd h oz
  | exact fun h=>absurd h (ju (hl rfl) (by decide) (by decide))
  | exact fun h=>absurd h (Yl oJ (by assumption))
  | exact fun h=>absurd h (Yl B9 (by assumption))
  | exact fun h=>(by have hq:=xa.rk (by assumption) h;simp [crk];exact hq)
  | exact fun h=>(by have hq:=ab9 xa (by assumption);simp [crk];exact(by have hq:w3.rk=0:=hq;omega))
  | exact absurd (oJ.st rfl) (by have hq:b1=false:=(by assumption);show ¬b1=true;rw [hq];decide)
  | exact absurd (B9.st rfl) (by have hq:b2=false:=(by assumption);show ¬b2=true;rw [hq];decide)
  | exact fun _=>(by simp [crk])
end
section
open Go Go.Sx Go.Proofs
structure bW.WF (n:Int) (j:bW):Prop where
 key:0<=j.op.key /\ j.op.key < 256
 kd:j.op.aj=6 \/ j.op.aj=7 \/ j.op.aj=8
 child:0<=j.child /\ j.child < 8
 pc:j.pc=-1 \/ j.pc=0 \/ j.pc=1 \/ j.pc=2 \/ j.pc=3 \/ j.pc=4 \/ j.pc=5 \/ j.pc=6 \/ j.pc=7 \/ j.pc=8 \/ j.pc=9 \/ j.pc=10 \/ j.pc=11 \/ j.pc=12 \/ j.pc=13 \/ j.pc=14 \/ j.pc=15
 last:j.pc=-1->j.last.aj=12
 wb:j.pc=2->jF j.wanted j.bucket=true
 wc:3<=j.pc /\ j.pc<=10->wD j.wanted j.child=true
 base:gD n j.base
 node:gD n j.node
 gk:gD n j.sentinel
 count:gD n j.count
 nd:4<=j.pc /\ j.pc<=8->1<=j.node.af
 wk:∀w,j.walk=some w->w.WF n
 ku:j.pc=11->∃l,j.inner=some l /\ l.WF n
def bW.aw (c:Cl) (j:bW):Prop:=(j.pc=3->c.aj=8) /\ (j.pc=11->∀l,j.inner=some l->l.aw c)
def lrk:Option cM->Nat
 | none=>0
 | some l=>l.rk
def bW.rk (j:bW):Nat:=if j.pc=11 then lrk j.inner else wrk j.walk
def l7 (n:Int) (r0:Nat) (r:Cl×bW):Prop:=FB n r.1 (r.2.WF n) (r.2.aw r.1) r0 r.2.rk
def aeH (a:An):Cl:=⟨12,gX,ao,ao,0,0,a⟩
def Kl (a:An) (j:bW):Cl×bW:=(aeH a,{j with pc:=-1,last:=aeH a})
def afa (c:Cl) (j:bW):Cl×bW:=cond (c.aj != 12) (c,j) (cond (lL (c.p9.Cd != 1) (j.op.aj==8)) (Kl c.p9 {j with answer:=c.p9}) (br (aV 17),{j with answer:=c.p9,pc:=12}))
def Pf (j:bW):Cl×bW:=afa (b6 (js (ay j.base 2,kF j.op.key,j.op)) ⟨ao,false⟩).1 {j with inner:=some (b6 (js (ay j.base 2,kF j.op.key,j.op)) ⟨ao,false⟩).2,pc:=11}
def Ph (j:bW):Cl×bW:=if j.bucket=j.wanted then Pf j else(j9,{j with child:=jU 4 j.wanted j.bucket,pc:=3})
def Na (j:bW) (w:bm):Cl×bW:=cond w.found (p7 j.node,{j with walk:=some w,sentinel:=dv w.cur,pc:=6}) (cO (ay j.node 2) (dv w.cur),{j with walk:=some w,pc:=7})
def T5 (j:bW) (x:cr) (w:bm):Cl×bW:=cond (aY w x).1.2 ((aY w x).1.1,{j with walk:=some (aY w x).2,pc:=5}) (Na j (aY w x).2)
structure bW.W0 (n:Int) (j:bW):Prop where
 key:0<=j.op.key /\ j.op.key < 256
 kd:j.op.aj=6 \/ j.op.aj=7 \/ j.op.aj=8
 child:0<=j.child /\ j.child < 8
 base:gD n j.base
 node:gD n j.node
 gk:gD n j.sentinel
 count:gD n j.count
 wk:∀w,j.walk=some w->w.WF n
theorem bW.WF.w0 {n:Int} {j:bW} (h:j.WF n):j.W0 n:=⟨h.key,h.kd,h.child,h.base,h.node,h.gk,h.count,h.wk⟩
theorem pcI {p q:Int} (h:p=q) {P:Prop} {lo hi:Int} (dA:¬(lo<=q /\ q<=hi)):lo<=p /\ p<=hi->P:=fun e=>absurd (h▸e) dA
theorem tP {n:Int} {j:bW} (h:j.W0 n) {r0:Nat} (a:An):l7 n r0 (Kl a j):=by
 refine⟨.inl rfl,⟨h.key,h.kd,h.child,.inl rfl,fun _=>rfl,fun e=>absurd e (by show ¬((-1:Int)=2);decide),fun e=>absurd (show (3:Int)<=-1 from e.1) (by decide),h.base,h.node,h.gk,h.count,fun e=>absurd (show (4:Int)<=-1 from e.1) (by decide),h.wk,fun e=>absurd e (by show ¬((-1:Int)=11);decide)⟩,fun h=>absurd h (ju (k:=12) rfl (by decide) (by decide)),⟨fun e=>absurd e (by show ¬((-1:Int)=3);decide),fun e=>absurd e (by show ¬((-1:Int)=11);decide)⟩⟩
theorem vr {n:Int} (h0:0<=n) {j:bW} (h:j.W0 n) {r0:Nat} {c:Cl} (hc:sU n c) (hi:¬FG c) {p:Int} (hp:p=1 \/ p=12 \/ p=13 \/ p=14 \/ p=15):l7 n r0 (c,{j with pc:=p}):=by
 rcases hp with rfl | rfl | rfl | rfl | rfl <;>
 ·refine⟨.inr hc,⟨h.key,h.kd,h.child,?_,?_,?_,?_,h.base,h.node,h.gk,h.count,?_,h.wk,?_⟩,fun h=>absurd h hi,⟨?_,?_⟩⟩
  ·dsimp only;decide
  all_goals (intro e;dsimp only at e;exact absurd e (by decide))
theorem Pg {n:Int} (h0:0<=n) {j:bW} (h:j.W0 n) (hpc:j.pc=11) {l:cM} (hl:j.inner=some l) (hw:l.WF n) {r0:Nat} {c:Cl} (hc:Res n c) (ha:l.aw c) (hr:FG c->l.rk < r0):l7 n r0 (afa c j):=by
 unfold afa
 refine gE (P:=l7 n r0) (fun hb=>?_) fun hb=>gE (P:=l7 n r0) (fun _=>tP (j:={j with answer:=c.p9}) ⟨h.key,h.kd,h.child,h.base,h.node,h.gk,h.count,h.wk⟩ _) fun _=>vr h0 (j:={j with answer:=c.p9}) ⟨h.key,h.kd,h.child,h.base,h.node,h.gk,h.count,h.wk⟩ (bD h0 (fQ (by decide) (by decide))) eX (.inr (.inl rfl))
 have hk:c.aj≠12:=by simpa using hb
 have hc:sU n c:=hc.elim (fun e=>absurd e hk) id
 refine⟨.inr hc,⟨h.key,h.kd,h.child,by rw [hpc];decide,fun e=>absurd (hpc.symm.trans e) (by decide),fun e=>absurd (hpc.symm.trans e) (by decide),pcI hpc (by decide),h.base,h.node,h.gk,h.count,pcI hpc (by decide),h.wk,fun _=>⟨l,hl,hw⟩⟩,fun hi=>?_,⟨fun e=>absurd (hpc.symm.trans e) (by decide),fun _ l' e=>by rw [hl] at e;cases e;exact ha⟩⟩
 show bW.rk j < r0
 unfold bW.rk
 rw [if_pos hpc,hl]
 exact hr hi
theorem G0 {n:Int} (h0:0<=n) {a:Ad} (ha:zJ n a) {k:Int} {o:O} (ho:o.aj=6 \/ o.aj=7 \/ o.aj=8):(js (a,k,o)).WF n:=by
 refine⟨ho,ha,?_,fun e=>?_,aR h0,fun _ e=>?_,fun w e=>(by cases e),fun _ e=>?_⟩
 ·rcases ho with h | h | h
  ·exact .inl ⟨h,.inr (.inl rfl)⟩
  ·exact .inr (.inl ⟨h,.inr (.inl rfl)⟩)
  ·exact .inr (.inr ⟨h,.inr (.inl rfl)⟩)
 ·exact absurd (show (0:Int)=-1 from e) (by decide)
 ·exact absurd (show (0:Int)=2 \/ (0:Int)=3 \/ (0:Int)=4 \/ (0:Int)=5 \/ (0:Int)=6 \/ (0:Int)=7 from e) (by decide)
 ·exact absurd (show (0:Int)=2 \/ (0:Int)=3 \/ (0:Int)=4 from e) (by decide)
theorem G1 {c:Cl} {x:Ad×Int×O}:(js x).aw c:=fun _ e=>absurd (show (0:Int)=1 from e) (by decide)
theorem Sa {x:Ad×Int×O}:(js x).rk=0:=by
 unfold cM.rk js wrk
 dsimp only
 rw [if_neg (fun e=>absurd e.2 (by decide))]
theorem rp0 {n:Int} (h0:0<=n) {hd:Bool}:vg n hd aW ⟨ao,false⟩:=⟨aR h0,fun e=>absurd (show (0:Int)=8 from e) (by decide),fun _ e=>absurd (show (0:Int)=6 from e) (by decide)⟩
theorem Kk {n:Int} (h0:0<=n) {j:bW} (h:j.W0 n) {r0:Nat}:l7 n r0 (Pf j):=by
 have hl:=Oa h0 (G0 h0 (a:=ay j.base 2) (aL h.base (by decide) (by decide)) (k:=kF j.op.key) h.kd) (hd:=false) (c:=aW) G1 (rp0 h0)
 unfold Pf
 generalize b6 (js (ay j.base 2,kF j.op.key,j.op)) ⟨ao,false⟩=r at hl ⊢
 refine Pg h0 (j:={j with inner:=some r.2,pc:=11}) ⟨h.key,h.kd,h.child,h.base,h.node,h.gk,h.count,h.wk⟩ rfl rfl hl.wf hl.PI hl.aw fun hi=>?_
 have:=hl.rk hi
 rw [Sa] at this
 exact absurd this (Nat.not_lt_zero _)
theorem z8 {P:Int->Int->Prop} (h:∀i j:Fin 8,P (i.val:Nat) (j.val:Nat)) {w b:Int} (hr:0<=w /\ w < 8 /\ 0<=b /\ b < 8):P w b:=by
 have:=h ⟨w.toNat,by omega⟩ ⟨b.toNat,by omega⟩
 rwa [show ((w.toNat:Nat):Int)=w by omega,show ((b.toNat:Nat):Int)=b by omega] at this
theorem Yx {w b:Int} (h:jF w b=true) (dA:¬b=w):wD w (jU 4 w b)=true /\ 0<=jU 4 w b /\ jU 4 w b < 8 :=
 z8 (P:=fun w b=>jF w b=true->¬b=w->wD w (jU 4 w b)=true /\ 0<=jU 4 w b /\ jU 4 w b < 8) (by decide) (mc h) h dA
theorem Kg {w c:Int} (h:wD w c=true):jF w c=true:=z8 (P:=fun w c=>wD w c=true->jF w c=true) (by decide) (TT h) h
theorem aeX {w b:Int} (h:jF w b=true) (hb:¬b=0):jF w (qG b)=true /\ 0<=qG b /\ qG b < 8 :=
 z8 (P:=fun w b=>jF w b=true->¬b=0->jF w (qG b)=true /\ 0<=qG b /\ qG b < 8) (by decide) (mc h) h hb
theorem CX {n:Int} (h0:0<=n) {j:bW} (h:j.W0 n) (hw:jF j.wanted j.bucket=true) {r0:Nat}:l7 n r0 (Ph j):=by
 unfold Ph
 split
 ·exact Kk h0 h
 ·rename_i dA
  obtain⟨h1,h2⟩:=Yx hw dA
  refine⟨.inr (ic h0),⟨h.key,h.kd,h2,?_,?_,?_,fun _=>h1,h.base,h.node,h.gk,h.count,?_,h.wk,?_⟩,fun h=>absurd h jn,⟨fun _=>rfl,?_⟩⟩
  ·dsimp only;decide
  all_goals (intro e;dsimp only at e;exact absurd e (by decide))
theorem Q8 {n:Int} (h0:0<=n) {j:bW} (h:j.W0 n) (hc:wD j.wanted j.child=true) (hn:1<=j.node.af) {w:bm} (hw:w.WF n) {r0:Nat}:l7 n r0 (Na j w):=by
 unfold Na
 refine gE (P:=l7 n r0) (fun hb=>?_) fun hb=>?_
 ·refine⟨.inr (lY h0 h.node hn),⟨h.key,h.kd,h.child,?_,?_,?_,fun _=>hc,h.base,h.node,ct hw.cur,h.count,fun _=>hn,lh hw,?_⟩,fun h=>absurd h kR,⟨?_,?_⟩⟩
  ·dsimp only;decide
  all_goals (intro e;dsimp only at e;exact absurd e (by decide))
 ·refine⟨.inr (bq h0 (aL h.node (by decide) (by decide)) (ct hw.cur)),⟨h.key,h.kd,h.child,?_,?_,?_,fun _=>hc,h.base,h.node,h.gk,h.count,fun _=>hn,lh hw,?_⟩,fun h=>absurd h gQ,⟨?_,?_⟩⟩
  ·dsimp only;decide
  all_goals (intro e;dsimp only at e;exact absurd e (by decide))
theorem CW {n:Int} (h0:0<=n) {j:bW} (h:j.W0 n) (hc:wD j.wanted j.child=true) (hn:1<=j.node.af) {w:bm} (hw:w.WF n) {x:cr} (hx:gD n x.w) {r0:Nat} (hr:w.rk<=r0):l7 n r0 (T5 j x w):=by
 have hk:=Iv h0 hw hx
 unfold T5
 generalize aY w x=r at hk ⊢
 obtain⟨⟨c,b⟩,w'⟩:=r
 cases b with
 | false=>exact Q8 h0 h hc hn hk.wf
 | true =>
   refine⟨.inr (hk.on rfl),⟨h.key,h.kd,h.child,?_,?_,?_,fun _=>hc,h.base,h.node,h.gk,h.count,fun _=>hn,lh hk.wf,?_⟩,fun hi=>?_,⟨?_,?_⟩⟩
   ·dsimp only [cond];decide
   ·intro e;dsimp only [cond] at e;exact absurd e (by decide)
   ·intro e;dsimp only [cond] at e;exact absurd e (by decide)
   ·intro e;dsimp only [cond] at e;exact absurd e (by decide)
   ·exact Nat.lt_of_lt_of_le (hk.rk rfl hi) hr
   all_goals (intro e;dsimp only [cond] at e;exact absurd e (by decide))
theorem wu {n:Int} {b:Int} (h0:0<=b) (h1:b < 8):zJ n (aV (eP 8 b)):=by
 rw [show eP 8 b=8+b from ma (by omega)]
 exact fQ (by omega) (by omega)
theorem Rm (k:Int):tE k=1 \/ tE k=2 \/ tE k=4 \/ tE k=8:=by
 unfold tE
 split
 ·rename_i h;have h:=eq_of_beq h;subst h;exact .inr (.inl rfl)
 ·split
  ·rename_i h;have h:=eq_of_beq h;subst h;exact .inr (.inr (.inl rfl))
  ·split
   ·rename_i h;have h:=eq_of_beq h;subst h;exact .inr (.inr (.inr rfl))
   ·exact .inl rfl
theorem ZK {k s:Int} (h0:0<=k) (hs:s=1 \/ s=2 \/ s=4 \/ s=8):0<=Int.tmod k s /\ Int.tmod k s < 8:=by
 have hp:0 < s:=by omega
 rw [Int.tmod_eq_emod_of_nonneg h0]
 have:=Int.emod_nonneg k (show s≠0 by omega)
 have:=Int.emod_lt_of_pos k hp
 omega
theorem Zw {b:Int} (h0:0<=b) (h1:b < 8):jF b b=true:=by
 rcases (by omega:b=0 \/ b=1 \/ b=2 \/ b=3 \/ b=4 \/ b=5 \/ b=6 \/ b=7) with rfl | rfl | rfl | rfl | rfl | rfl | rfl | rfl<;>decide
theorem Km {n:Int} {j:bW} (h:j.W0 n) (hc:wD j.wanted j.child=true) (hn:1<=j.node.af) {r0:Nat} {c:Cl} (hcl:sU n c) (hi:¬FG c) {p:Int} (hp:p=4 \/ p=8 \/ p=9 \/ p=10):l7 n r0 (c,{j with pc:=p}):=by
 rcases hp with rfl | rfl | rfl | rfl <;>
 ·refine⟨.inr hcl,⟨h.key,h.kd,h.child,?_,?_,?_,fun _=>hc,h.base,h.node,h.gk,h.count,fun _=>hn,h.wk,?_⟩,fun h=>absurd h hi,⟨?_,?_⟩⟩
  ·dsimp only;decide
  all_goals (intro e;dsimp only at e;exact absurd e (by decide))
theorem CY {n:Int} {j:bW} (h:j.W0 n) (hc:wD j.wanted j.child=true) {r0:Nat} {c:Cl} (hcl:sU n c) (hi:¬FG c) {p:Int} (hp:p=9 \/ p=10):l7 n r0 (c,{j with pc:=p}):=by
 rcases hp with rfl | rfl <;>
 ·refine⟨.inr hcl,⟨h.key,h.kd,h.child,?_,?_,?_,fun _=>hc,h.base,h.node,h.gk,h.count,?_,h.wk,?_⟩,fun h=>absurd h hi,⟨?_,?_⟩⟩
  ·dsimp only;decide
  all_goals (intro e;dsimp only at e;exact absurd e (by decide))
theorem Ko {n:Int} (h0:0<=n) {j:bW} (h:j.W0 n) (hw:jF j.wanted j.bucket=true) (hb:0<=j.bucket /\ j.bucket < 8) {r0:Nat}:l7 n r0 (br (aV (eP 8 j.bucket)),{j with pc:=2}):=by
 refine⟨.inr (bD h0 (wu hb.1 hb.2)),⟨h.key,h.kd,h.child,?_,?_,fun _=>hw,?_,h.base,h.node,h.gk,h.count,?_,h.wk,?_⟩,fun h=>absurd h eX,⟨?_,?_⟩⟩
 ·dsimp only;decide
 all_goals (intro e;dsimp only at e;exact absurd e (by decide))
theorem ak1 {a:Ad×Int}:(gZ a).rk=0:=by
 unfold bm.rk gZ
 dsimp only
 rw [if_neg (by decide),if_neg (by decide)]
theorem ae1 {n:Int} (h0:0<=n) {j:bW} (h:j.WF n) {hd:Bool} {c:Cl} (ha:j.aw c) {x:cr} (hr:vg n hd c x):l7 n j.rk (bc j x):=by
 have hx:gD n x.w:=hr.w
 have nx:0<=x.w.af:=hx.1
 have w:=h.w0
 have hp:=h.pc
 have hq:=h
 obtain⟨pc,last,op,size,wanted,bucket,child,base,node,sentinel,walk,inner,answer,count⟩:=j
 dsimp only at hp
 rcases hp with rfl | rfl | rfl | rfl | rfl | rfl | rfl | rfl | rfl | rfl | rfl | rfl | rfl | rfl | rfl | rfl | rfl
 ·exact⟨.inl (h.last rfl),h,fun e=>absurd e (ju (h.last rfl) (by decide) (by decide)),⟨fun e=>absurd (show (-1:Int)=3 from e) (by decide),fun e=>absurd (show (-1:Int)=11 from e) (by decide)⟩⟩
 ·exact vr h0 (j:=⟨0,last,op,size,wanted,bucket,child,base,node,sentinel,walk,inner,answer,count⟩) w (c:=br (aV 16)) (bD h0 (fQ (by decide) (by decide))) eX (.inl rfl)
 ·have ht:=ZK h.key.1 (Rm x.w.bS)
  exact Ko h0 (j:=⟨1,last,op,tE x.w.bS,Int.tmod op.key (tE x.w.bS),Int.tmod op.key (tE x.w.bS),child,base,node,sentinel,walk,inner,answer,count⟩) ⟨w.key,w.kd,w.child,w.base,w.node,w.gk,w.count,w.wk⟩ (Zw ht.1 ht.2) ht
 ·have hw:=h.wb rfl
  show l7 n _ (cond (!(x.w.af==0)) (Ph ⟨2,last,op,size,wanted,bucket,child,x.w,node,sentinel,walk,inner,answer,count⟩) (if bucket=0 then Kl ⟨4,0⟩ ⟨2,last,op,size,wanted,bucket,child,base,node,sentinel,walk,inner,answer,count⟩ else(br (aV (eP 8 (qG bucket))),⟨2,last,op,size,wanted,qG bucket,child,base,node,sentinel,walk,inner,answer,count⟩)))
  refine gE (P:=l7 n _) (fun _=>CX h0 (j:=⟨2,last,op,size,wanted,bucket,child,x.w,node,sentinel,walk,inner,answer,count⟩) ⟨w.key,w.kd,w.child,hx,w.node,w.gk,w.count,w.wk⟩ hw) fun _=>?_
  split
  ·exact tP w _
  ·rename_i hb
   obtain⟨g1,g2⟩:=aeX hw hb
   exact Ko h0 (j:=⟨2,last,op,size,wanted,qG bucket,child,base,node,sentinel,walk,inner,answer,count⟩) ⟨w.key,w.kd,w.child,w.base,w.node,w.gk,w.count,w.wk⟩ g1 g2
 ·have hc:=h.wc ⟨by show (3:Int)<=3;decide,by show (3:Int)<=10;decide⟩
  show l7 n _ (cond (!x.ok) (Pf ⟨3,last,op,size,wanted,bucket,child,base,node,sentinel,walk,inner,answer,count⟩) (cO (ay x.w 0) (dX (dN child)),⟨4,last,op,size,wanted,bucket,child,base,x.w,sentinel,walk,inner,answer,count⟩))
  refine gE (P:=l7 n _) (fun _=>Kk h0 w) fun hb=>?_
  have oI:x.ok=true:=by cases e:x.ok with | true=>rfl | false=>rw [e] at hb;cases hb
  exact Km (j:=⟨3,last,op,size,wanted,bucket,child,base,x.w,sentinel,walk,inner,answer,count⟩) ⟨w.key,w.kd,w.child,w.base,hx,w.gk,w.count,w.wk⟩ hc (hr.al (ha.1 rfl) oI) (bq h0 (aL hx (by decide) (by decide)) (gT h0 _)) gQ (.inl rfl)
 ·have hc:=h.wc ⟨by show (3:Int)<=4;decide,by show (4:Int)<=10;decide⟩
  have hn:=h.nd ⟨by show (4:Int)<=4;decide,by show (4:Int)<=8;decide⟩
  exact CW h0 (j:=⟨4,last,op,size,wanted,bucket,child,base,node,sentinel,walk,inner,answer,count⟩) w hc hn (xw h0 (aL w.base (by decide) (by decide)) (dN child)) hx (by rw [ak1];exact adr _)
 ·have hc:=h.wc ⟨by show (3:Int)<=5;decide,by show (5:Int)<=10;decide⟩
  have hn:=h.nd ⟨by show (4:Int)<=5;decide,by show (5:Int)<=8;decide⟩
  cases walk with
  | none =>
    show l7 n _ (cO (ay node 2) (dv ao),⟨7,last,op,size,wanted,bucket,child,base,node,sentinel,none,inner,answer,count⟩)
    refine⟨.inr (bq h0 (aL w.node (by decide) (by decide)) (aR h0)),⟨w.key,w.kd,w.child,?_,?_,?_,fun _=>hc,w.base,w.node,w.gk,w.count,fun _=>hn,w.wk,?_⟩,fun h=>absurd h gQ,⟨?_,?_⟩⟩
    ·dsimp only;decide
    all_goals (intro e;dsimp only at e;exact absurd e (by decide))
  | some wk=>exact CW h0 (j:=⟨5,last,op,size,wanted,bucket,child,base,node,sentinel,some wk,inner,answer,count⟩) w hc hn (h.wk wk rfl) hx (abV _)
 ·have hc:=h.wc ⟨by show (3:Int)<=6;decide,by show (6:Int)<=10;decide⟩
  exact CY (j:=⟨6,last,op,size,wanted,bucket,child,base,node,sentinel,walk,inner,answer,count⟩) w hc (bD h0 (wu w.child.1 w.child.2)) eX (.inl rfl)
 ·have hc:=h.wc ⟨by show (3:Int)<=7;decide,by show (7:Int)<=10;decide⟩
  have hn:=h.nd ⟨by show (4:Int)<=7;decide,by show (7:Int)<=8;decide⟩
  refine Km (j:=⟨7,last,op,size,wanted,bucket,child,base,node,sentinel,walk,inner,answer,count⟩) w hc hn (c:=b5 (match walk with | none=>(gX,ao,ao) | some w=>(w.prev,w.cur,w.next)).1 (match walk with | none=>(gX,ao,ao) | some w=>(w.prev,w.cur,w.next)).2.1 (iC (match walk with | none=>(gX,ao,ao) | some w=>(w.prev,w.cur,w.next)).2.1 node)) ?_ gr (.inr (.inl rfl))
  cases walk with
  | none=>exact bK qS (aR h0) (eu w.node)
  | some wk=>exact bK (h.wk wk rfl).prev (h.wk wk rfl).cur (eu w.node)
 ·have hc:=h.wc ⟨by show (3:Int)<=8;decide,by show (8:Int)<=10;decide⟩
  have hn:=h.nd ⟨by show (4:Int)<=8;decide,by show (8:Int)<=8;decide⟩
  show l7 n _ (cond x.ok (br (aV (eP 8 child)),⟨9,last,op,size,wanted,bucket,child,base,node,node,walk,inner,answer,count⟩) (T5 ⟨8,last,op,size,wanted,bucket,child,base,node,sentinel,walk,inner,answer,count⟩ x (gZ (ay base 2,dN child))))
  refine gE (P:=l7 n _) (fun _=>?_) fun _=>?_
  ·exact CY (j:=⟨8,last,op,size,wanted,bucket,child,base,node,node,walk,inner,answer,count⟩) ⟨w.key,w.kd,w.child,w.base,w.node,w.node,w.count,w.wk⟩ hc (bD h0 (wu w.child.1 w.child.2)) eX (.inl rfl)
  ·exact CW h0 (j:=⟨8,last,op,size,wanted,bucket,child,base,node,sentinel,walk,inner,answer,count⟩) w hc hn (xw h0 (aL w.base (by decide) (by decide)) (dN child)) hx (by rw [ak1];exact adr _)
 ·have hc:=h.wc ⟨by show (3:Int)<=9;decide,by show (9:Int)<=10;decide⟩
  show l7 n _ (cond (x.w.af==0) (b5 (aV (eP 8 child)) x.w (iC x.w sentinel),⟨10,last,op,size,wanted,bucket,child,base,node,sentinel,walk,inner,answer,count⟩) (Ph ⟨9,last,op,size,wanted,child,child,sentinel,node,sentinel,walk,inner,answer,count⟩))
  refine gE (P:=l7 n _) (fun _=>?_) fun _=>CX h0 (j:=⟨9,last,op,size,wanted,child,child,sentinel,node,sentinel,walk,inner,answer,count⟩) ⟨w.key,w.kd,w.child,w.gk,w.node,w.gk,w.count,w.wk⟩ (Kg hc)
  exact CY (j:=⟨9,last,op,size,wanted,bucket,child,base,node,sentinel,walk,inner,answer,count⟩) w hc (bK (wu w.child.1 w.child.2) hx (eu w.gk)) gr (.inr rfl)
 ·have hc:=h.wc ⟨by show (3:Int)<=10;decide,by show (10:Int)<=10;decide⟩
  exact CX h0 (j:=⟨10,last,op,size,wanted,child,child,sentinel,node,sentinel,walk,inner,answer,count⟩) ⟨w.key,w.kd,w.child,w.gk,w.node,w.gk,w.count,w.wk⟩ (Kg hc)
 ·obtain⟨l,hl,hlw⟩:=h.ku rfl
  have hl:inner=some l:=hl
  subst hl
  have hn:=Oa h0 hlw (ha.2 rfl l rfl) hr
  exact Pg h0 (j:=⟨11,last,op,size,wanted,bucket,child,base,node,sentinel,walk,some (b6 l x).2,answer,count⟩) ⟨w.key,w.kd,w.child,w.base,w.node,w.gk,w.count,w.wk⟩ rfl rfl hn.wf hn.PI hn.aw hn.rk
 ·show l7 n _ (cond (op.aj==7) (b5 (aV 17) x.w (fx x.w (-1)),⟨13,last,op,size,wanted,bucket,child,base,node,sentinel,walk,inner,answer,x.w⟩) (b5 (aV 17) x.w (fx x.w 1),⟨13,last,op,size,wanted,bucket,child,base,node,sentinel,walk,inner,answer,x.w⟩))
  refine gE (P:=l7 n _) (fun _=>?_) fun _=>?_
  all_goals (exact vr h0 (j:=⟨12,last,op,size,wanted,bucket,child,base,node,sentinel,walk,inner,answer,x.w⟩) ⟨w.key,w.kd,w.child,w.base,w.node,w.gk,hx,w.wk⟩ (bK (fQ (by decide) (by decide)) hx (qZ h0)) gr (.inr (.inr (.inl rfl))))
 ·show l7 n _ (cond (!x.ok) (br (aV 17),⟨12,last,op,size,wanted,bucket,child,base,node,sentinel,walk,inner,answer,count⟩) (cond (lL (op.aj==7) (lL (size==8) (decide (count.bS < IntKind.wrap .i64 (2 * size))))) (Kl answer ⟨13,last,op,size,wanted,bucket,child,base,node,sentinel,walk,inner,answer,count⟩) (br (aV 16),⟨14,last,op,size,wanted,bucket,child,base,node,sentinel,walk,inner,answer,count⟩)))
  refine gE (P:=l7 n _) (fun _=>?_) fun _=>gE (P:=l7 n _) (fun _=>tP w _) fun _=>?_
  ·exact vr h0 (j:=⟨13,last,op,size,wanted,bucket,child,base,node,sentinel,walk,inner,answer,count⟩) w (bD h0 (fQ (by decide) (by decide))) eX (.inr (.inl rfl))
  ·exact vr h0 (j:=⟨13,last,op,size,wanted,bucket,child,base,node,sentinel,walk,inner,answer,count⟩) w (bD h0 (fQ (by decide) (by decide))) eX (.inr (.inr (.inr (.inl rfl))))
 ·show l7 n _ (cond (x.w.bS==size) (b5 (aV 16) x.w (fx x.w size),⟨15,last,op,size,wanted,bucket,child,base,node,sentinel,walk,inner,answer,count⟩) (Kl answer ⟨14,last,op,size,wanted,bucket,child,base,node,sentinel,walk,inner,answer,count⟩))
  refine gE (P:=l7 n _) (fun _=>?_) fun _=>tP w _
  exact vr h0 (j:=⟨14,last,op,size,wanted,bucket,child,base,node,sentinel,walk,inner,answer,count⟩) w (bK (fQ (by decide) (by decide)) hx (qZ h0)) gr (.inr (.inr (.inr (.inr rfl))))
 ·exact tP (j:=⟨15,last,op,size,wanted,bucket,child,base,node,sentinel,walk,inner,answer,count⟩) w _
end
end Go.Proofs.YtadmfaohjnjajaaGreatDoor

namespace Go.Sx
variable {AV:Type} {P:Program} {N:dV AV}
def FY:Option (aG AV)->Option (aG AV)
 | some (.cells l ty)=>some (.cells (B6 l) ty)
 | x=>x
def PV (s:St AV):St AV:={E:=s.E,H:=s.H.map FY}
def BU (L nt:Nat) (ks:List Nat) (pk:aG AV->Option AV) (r:Ex×St AV):T (Ex×St AV):=(eQ L nt ks pk r).bind fun r=>.aE (r.1,PV r.2)
theorem yP (H:Hp AV) (n:Nat):ae (H.map FY) n=FY (ae H n):=vP FY rfl H n
theorem R6 {l:List Cell} {c:Cell} (h:c∈B6 l):∃c'∈l,c'.name=c.name:=by
 rw [DP] at h
 obtain⟨c',h1,rfl⟩:=adK.1 h
 exact⟨c',h1,(Ai c').symm⟩
theorem DO {H:Hp AV} {n:Nat} {c:aG AV} (h:ae H n=some c):∃c',ae (H.map FY) n=some c':=by
 rw [yP,h]
 cases c with
 | cells l ty=>exact⟨_,rfl⟩
 | kD l es ty=>exact⟨_,rfl⟩
 | j8=>exact⟨_,rfl⟩
 | bI a=>exact⟨_,rfl⟩
theorem OQ {s:St AV} (h:bH N s):bH N (PV s):=by
 have dw:∀{c:Cell},ClC s.H c->ClC (s.H.map FY) c:=fun hc n hn=>by
  obtain⟨x,hx⟩:=hc n hn
  exact DO hx
 refine⟨fun k=>fh.mono (h.E k) fun n c hn=>DO hn,fun n x hx=>?_⟩
 have hx:ae (s.H.map FY) n=some x:=hx
 rw [yP] at hx
 cases hs:ae s.H n with
 | none=>rw [hs] at hx;cases hx
 | some d =>
   rw [hs] at hx
   have hd:=h.H n d hs
   cases d with
   | cells l ty =>
     cases hx
     intro c hc m hm
     obtain⟨c',h1,h2⟩:=R6 hc
     exact dw (hd c' h1) m (by rw [h2];exact hm)
   | kD l es ty=>cases hx;exact fun c hc=>dw (hd c hc)
   | j8=>cases hx;exact fun c hc=>dw (hd c hc)
   | bI a=>cases hx;exact fun c hc=>dw (hd c hc)
theorem N3 (π:Nat->Nat) (d:aG AV):∃c,FY (some d)=some c /\ ig N (d.cN π) (c.cN π):=by
 cases d with
 | cells l ty =>
   refine⟨_,rfl,fun ρ n w=>⟨fun h=>?_,fun k=>Iff.rfl⟩⟩
   have h:w.heap[ρ n]?=some (.cells (aA ρ (l.map (Cell.cN π))).toArray ty (0,0)):=h
   show w.heap[ρ n]?=some (.cells (aA ρ ((B6 l).map (Cell.cN π))).toArray ty (0,0))
   rw [uX] at h ⊢
   rw [uz];exact h
 | kD l es ty=>exact⟨_,rfl,ig.refl _⟩
 | j8=>exact⟨_,rfl,ig.refl _⟩
 | bI a=>exact⟨_,rfl,ig.refl _⟩
theorem YM {L nt:Nat} {ks:List Nat} {pk:aG AV->Option AV} (zH:∀d a,pk d=some a->∀π,ig N (d.cN π) (.bI a)) (hG:N.G<=L) {r r':Ex×St AV} (h:(BU L nt ks pk r).val=some r'):r'.1=r.1 /\ ∃π,vm N L nt r.2 r'.2 π:=by
 obtain⟨r1,h1,h2⟩:=T.bf h
 obtain⟨e1,π,hb⟩:=Ff zH hG h1
 cases h2
 refine⟨e1,π,hb.aly rfl (by simp [PV]) (fun n=>?_) (OQ hb.cl)⟩
 show _ \/ ∃d c,_ /\ ae (r1.2.H.map FY) n=some c /\ _
 rw [show ae (PV r1.2).H n=FY (ae r1.2.H n) from yP _ n]
 cases hd:ae r1.2.H n with
 | none=>exact .inl ⟨rfl,rfl⟩
 | some d =>
   obtain⟨c,g1,g2⟩:=N3 (N:=N) π d
   exact .inr ⟨d,c,rfl,by rw [yP,hd];exact g1,g2⟩
theorem rA (hT:fD P N) {cP:Callee AV} (cH:gF P N cP) {lp:Nat->Option (St AV->T (Ex×St AV))} {nt L:Nat} {c:Code} (qd:O7 P N nt c lp) {ks:List Nat} {pk:aG AV->Option AV} (zH:∀d a,pk d=some a->∀π,ig N (d.cN π) (.bI a)) (hG:N.G<=L) {s:St AV} {r:Ex×St AV}
 (h:((xc N cP lp nt c s).bind (BU L nt ks pk)).val=some r):∃s1,Rnd P N nt c s r.1 s1 /\ ∃π,vm N L nt s1 r.2 π:=by
 obtain⟨⟨e1,s1⟩,h1,h2⟩:=T.bf h
 obtain⟨h3,π,h4⟩:=YM zH hG h2
 simp only at h3 h4
 exact⟨s1,Vp hT cH qd (by rw [h3];exact h1),π,h4⟩
end Go.Sx

namespace Go.Proofs.YtadmfaohjnjajaaGreatDoor
open Go Go.Sx Go.Proofs
variable {σ:Sg} {lp:Lp}
@[reducible] def FX:wL az:=⟨iD,TX,fun _ _=>M8,fun _=>rfl⟩
structure AdF where
 Tv:au->Cl->Bool
 bg:au->Cl->au
 np:dr->cr->Cl×dr
 nc:cY->cr->Cl×cY
 nl:cM->cr->Cl×cM
 okv:bW->Bool
 nv:bW->cr->Cl×bW
 qI:cd->Bool
 ns:cd->cr->Cl×cd
def Bn (F:AdF):mK:=bA 55 (bP cJ bL (fZ Kb J2 gW (fun _ _=>none) (fun m _=>(iq m,m)))) (bA 56 (bP cJ bL (fZ Kb vRp gW (fun _ _=>none) (fun m _=>(m.bz,m))))
 (bA 54 (bP cJ bL (fZ aCl B0 gW (fun m c=>some (F.Tv m c)) (fun m c=>((),F.bg m c))))
 (bA 133 (bP cJ bL (fZ mW Cq GS (fun _ _=>none) F.np)) (bA 143 (bP cJ bL (fZ mW Cq GU (fun _ _=>none) F.nc))
 (bA 152 (bP cJ bL (oo mW Cq DL (fun _ _=>none) F.nl aW)) (bA 174 (bP cJ bL (fZ mW Cq NY (fun j _=>some (F.okv j)) F.nv)) (bA 193 (bP cJ bL (fZ mW Cq DK (fun j _=>some (F.qI j)) F.ns)) ca)))))))
def Ge:AdF:=⟨FW,aX,oe,mF,b6,R1,bc,K8,aM⟩
theorem Uo:dB Tryz.prog (NV σ) (Bn Ge):=aK vG (aK NO (aK Fa (aK aaA (aK acd (aK WG (aK ae2 (aK aft bn)))))))
def ksA:List Nat:=[0]
def LA:Code:=ia 0 (cA (eM Tryz.f29))
def hpV (v:az):Hp AV:=pG (gM bL [iD v]) 7 (fP AV.len qg (az.wr v))
def xP (v:az):St AV:={E:=only ksA [(0,.v (.c (.ptr 7 2)))] 52,H:=hpV v}
def fU:Cl:=⟨2,gX,ao,ao,0,0,⟨0,0⟩⟩
section
variable {β:Type} (I:Bool->β->β->β) (N:Bool->β->β) (L:Ex×az->β)
def fX (F:AdF) (v:az) (nx:Cl×dU):β :=
 I (nx.1.aj != 12) (N (F.Tv v.aQ nx.1) (L (.normal,{v with bh:=2,call:=nx.1,aQ:=F.bg v.aQ nx.1,cC:=some nx.2})))
   (N (F.Tv v.aQ fU) (L (.normal,{v with answer:=nx.1.p9,bh:=3,call:=fU,aQ:=F.bg v.aQ fU,cC:=some nx.2})))
def eT (v:az) (c:β):β :=
 I ((v.bh != 0)==true) (I (!iq v.aQ) (I (v.bh==1) (I (v.bh==1) c (L (.normal,{v with bh:=0}))) (I (v.bh==2) c (L (.normal,{v with bh:=0})))) (L (.exit 0,v))) (L (.exit 0,v))
end
def tF (r:Ex×az):T (Ex×St AV):=.aE (r.1,xP r.2)
theorem acE (σ:Sg) (F:AdF) (v:az) (j:dr):(xc (NV σ) (bs (lv (NV σ) (Bn F) 5)) (fun _=>none) 52 LA (xP {v with cC:=some (.dZ j)})).bind (BU 10 52 ksA eV) =
 eT tI tF {v with cC:=some (.dZ j)} (fX tI tN tF F {v with cC:=some (.dZ j)} ((F.np j v.aQ.bz).1,.dZ (F.np j v.aQ.bz).2)):=by kernel_rfl
theorem acG (σ:Sg) (F:AdF) (v:az) (j:cY):(xc (NV σ) (bs (lv (NV σ) (Bn F) 5)) (fun _=>none) 52 LA (xP {v with cC:=some (.dH j)})).bind (BU 10 52 ksA eV) =
 eT tI tF {v with cC:=some (.dH j)} (fX tI tN tF F {v with cC:=some (.dH j)} ((F.nc j v.aQ.bz).1,.dH (F.nc j v.aQ.bz).2)):=by kernel_rfl
theorem ah8 (σ:Sg) (F:AdF) (v:az) (j:cM):(xc (NV σ) (bs (lv (NV σ) (Bn F) 5)) (fun _=>none) 52 LA (xP {v with cC:=some (.lit j)})).bind (BU 10 52 ksA eV) =
 eT tI tF {v with cC:=some (.lit j)} (fX tI tN tF F {v with cC:=some (.lit j)} ((F.nl j v.aQ.bz).1,.lit (F.nl j v.aQ.bz).2)):=by kernel_rfl
theorem ah5 (σ:Sg) (F:AdF) (v:az) (j:bW):(xc (NV σ) (bs (lv (NV σ) (Bn F) 5)) (fun _=>none) 52 LA (xP {v with cC:=some (.ph j)})).bind (BU 10 52 ksA eV) =
 eT tI tF {v with cC:=some (.ph j)} (tN (F.okv j) (fX tI tN tF F {v with cC:=some (.ph j)} ((F.nv j v.aQ.bz).1,.ph (F.nv j v.aQ.bz).2))):=by kernel_rfl
theorem ah6 (σ:Sg) (F:AdF) (v:az) (j:cd):(xc (NV σ) (bs (lv (NV σ) (Bn F) 5)) (fun _=>none) 52 LA (xP {v with cC:=some (.oM j)})).bind (BU 10 52 ksA eV) =
 eT tI tF {v with cC:=some (.oM j)} (tN (F.qI j) (fX tI tN tF F {v with cC:=some (.oM j)} ((F.ns j v.aQ.bz).1,.oM (F.ns j v.aQ.bz).2))):=by kernel_rfl
def adA:T (Ex×St AV):=.fail "nilCheck"
theorem acF (σ:Sg) (F:AdF) (v:az):(xc (NV σ) (bs (lv (NV σ) (Bn F) 5)) (fun _=>none) 52 LA (xP {v with cC:=none})).bind (BU 9 52 ksA eV) =
 eT tI tF {v with cC:=none} adA:=by kernel_rfl
