import Derived.Test.YtcpdipfepeccgaaGreatDoorRu
import Derived.Test.YtcpdipfepeccgaaGreatDoorRd
set_option maxHeartbeats 4000000
set_option linter.unusedSimpArgs false
set_option linter.unusedVariables false
namespace Go.Proofs.YtcpdipfepeccgaaGreatDoor
open Go Go.Sx Go.Proofs
set_option maxRecDepth 100000
set_option maxHeartbeats 4000000
structure S3.Ok (n:Int) (s:S3):Prop where
 p0:AOk n s.p0
 c0:WOk n s.c0
 p1:AOk n s.p1
 c1:WOk n s.c1
 p2:AOk n s.p2
 c2:WOk n s.c2
theorem S3.put_ok {n:Int} {s:S3} (h:s.Ok n) {l:Int} {p:Ad} {c:W} (hp:AOk n p) (hc:WOk n c):(S3.put s l p c).Ok n:=by
 unfold S3.put
 split
 ·exact⟨hp,hc,h.p1,h.c1,h.p2,h.c2⟩
 ·split
  ·exact⟨h.p0,h.c0,hp,hc,h.p2,h.c2⟩
  ·exact⟨h.p0,h.c0,h.p1,h.c1,hp,hc⟩
structure ClimbM.WF (n:Int) (c:ClimbM):Prop where
 lv:c.level=0 \/ c.level=1 \/ c.level=2
 prev:AOk n c.prev
 cur:WOk n c.cur
 next:WOk n c.next
 spots:c.spots.Ok n
 found:WOk n c.found
 pc:c.pc=-1 \/ c.pc=0 \/ c.pc=2 \/ c.pc=3 \/ c.pc=4 \/ c.pc=5 \/ c.pc=6 \/ c.pc=7 \/ c.pc=8 \/ c.pc=9
 nz:(c.pc=3 \/ c.pc=4 \/ c.pc=5 \/ c.pc=6 \/ c.pc=7 \/ c.pc=8)->1<=c.cur.slot
def ClimbM.rk (c:ClimbM):Nat:=if c.pc=5 then 2 else if c.pc=2 \/ c.pc=6 \/ c.pc=7 then 1 else 0
structure ClimbOk (n:Int) (pc0:Int) (r0:Nat) (r:(Cl×Bool)×ClimbM):Prop where
 on:r.1.2=true->ClOk n r.1.1
 wf:r.2.WF n
 rk:r.1.2=true->imm r.1.1->r.2.rk < r0
 off:r.1.2=false->r.2.pc=-1
 st:pc0=0->r.1.2=true
theorem aok_down {n:Int} {a:Ad} (h:AOk n a) (hs:a.s≠0) {f:Int} (h0:0<=f) (h1:f < 10):AOk n {a with f:=f}:=by
 rcases h with⟨h,_⟩ | ⟨h2,h3,_⟩
 ·exact absurd h hs
 ·exact .inr ⟨h2,h3,h0,h1⟩
theorem climb_wf {n:Int} (h0:0<=n) {c:ClimbM} (h:c.WF n) {x:Rp1} (hx:WOk n x.w):ClimbOk n c.pc c.rk (climbNext c x):=by
 obtain⟨pc,last,prev,cur,bound,level,next,k,spots,found⟩:=c
 obtain⟨hlv,hpv,hc,hn,hsp,hfo,hp,hz⟩:=h
 dsimp only at hlv hpv hc hn hsp hfo hp hz
 have nx:0<=x.w.slot:=hx.1
 have nn:0<=next.slot:=hn.1
 rcases hlv with rfl | rfl | rfl<;>rcases hp with rfl | rfl | rfl | rfl | rfl | rfl | rfl | rfl | rfl | rfl
 all_goals unfold climbNext climbF
 all_goals dsimp only [id]
 all_goals simp only [if_true,show ¬(1:Int)=0 by decide,show ¬(2:Int)=0 by decide,if_false]
 all_goals (repeat' (refine P_cond (fun hb=>?_) (fun hb=>?_)<;>first | (exact absurd hb (by decide)) | skip))
 all_goals refine⟨?_,⟨?_,?_,?_,?_,?_,?_,?_,?_⟩,?_,?_,?_⟩
 all_goals dsimp only [ClimbM.rk]
 all_goals first
  | assumption
  | exact fun h=>absurd h (by decide)
  | decide
  | exact S3.put_ok hsp (by assumption) (by assumption)
  | exact fun _=>clok_protect h0 (by assumption) (by decide) (by decide)
  | exact fun _=>clok_protect h0 (aok_root (by decide) (by decide)) (by decide) (by decide)
  | exact fun _=>clok_protect h0 (aok_field (by assumption) (by decide) (by decide)) (by decide) (by decide)
  | exact fun _=>clok_load h0 (aok_field (by assumption) (by decide) (by decide))
  | exact fun _=>clok_load h0 (by assumption)
  | exact fun _=>clok_swap (by assumption) (by assumption) (wok_to (by assumption))
  | exact fun _=>clok_hold h0 (by unfold okPair0;decide)
  | exact aok_root (by decide) (by decide)
  | exact aok_field (by assumption) (by decide) (by decide)
  | exact aok_down hpv (neI (by assumption)) (by decide) (by decide)
  | exact wok_to hn
  | exact wok_ref (by assumption)
  | exact wok_ref (wok_to hn)
  | exact S3.put_ok hsp hpv (wok_to hn)
  | exact fun _=>hz (by decide)
  | exact fun _=>(by have:=neI (by assumption:(x.w.slot==0)=false);omega)
  | exact fun _=>(by have:=neI (by assumption:(next.slot==0)=false);omega)
  | exact fun _=>(by have:=neI (by assumption:((wTo cur next).slot==0)=false);show 1<=next.slot;exact(by have h:next.slot≠0:=this;omega))
  | exact fun _ h=>absurd h imm_load
  | exact fun _ h=>absurd h imm_swap
  | exact fun _ h=>absurd h imm_protect
  | exact fun _=>rfl
  | exact fun _ _=>(by simp)
theorem newClimb_wf {n:Int} (h0:0<=n) (b:Int):(newClimb b).WF n :=
 ⟨.inl rfl,aok_no,wok_nil h0,wok_nil h0,⟨aok_no,wok_nil h0,aok_no,wok_nil h0,aok_no,wok_nil h0⟩,wok_nil h0,.inr (.inl rfl),fun h=>absurd h (by show ¬((0:Int)=3 \/ (0:Int)=4 \/ (0:Int)=5 \/ (0:Int)=6 \/ (0:Int)=7 \/ (0:Int)=8);decide)⟩
theorem climbPlace_ok {n:Int} (h0:0<=n) {c:ClimbM} (h:c.WF n) (l:Int):AOk n (climbPlace c l).1 /\ WOk n (climbPlace c l).2:=by
 unfold climbPlace
 split
 ·exact⟨h.spots.p0,h.spots.c0⟩
 ·split
  ·exact⟨h.spots.p1,h.spots.c1⟩
  ·split
   ·exact⟨h.spots.p2,h.spots.c2⟩
   ·exact⟨aok_no,wok_nil h0⟩
def placeO (c:Option ClimbM) (l:Int):Ad×W:=match c with | none=>(noAd,wNil) | some c=>climbPlace c l
def crk:Option ClimbM->Nat
 | none=>0
 | some c=>c.rk
structure SteM.WF (n:Int) (j:SteM):Prop where
 kd:j.op.kind=6 \/ j.op.kind=7 \/ j.op.kind=8
 tall:j.op.kind=6->j.op.tall<=3
 pc:(j.op.kind=6 /\ (j.pc=-1 \/ j.pc=0 \/ j.pc=1 \/ j.pc=2 \/ j.pc=3 \/ j.pc=4 \/ j.pc=5 \/ j.pc=6 \/ j.pc=7 \/ j.pc=8 \/ j.pc=9 \/ j.pc=10 \/ j.pc=11 \/ j.pc=12)) \/ (j.op.kind=7 /\ (j.pc=-1 \/ j.pc=0 \/ j.pc=1 \/ j.pc=2 \/ j.pc=3 \/ j.pc=4 \/ j.pc=5 \/ j.pc=6)) \/ (j.op.kind=8 /\ (j.pc=-1 \/ j.pc=0 \/ j.pc=1 \/ j.pc=2)) \/ (j.pc=101 \/ j.pc=102 \/ j.pc=103 \/ j.pc=104)
 last:j.pc=-1->j.last.kind=12
 node:WOk n j.node
 nd:(j.op.kind=6 /\ 2<=j.pc) \/ (j.op.kind=7 /\ 2<=j.pc) \/ 101<=j.pc->1<=j.node.slot
 cl:∀c,j.climb=some c->c.WF n
 lv:(j.op.kind=6 /\ (j.pc=7 \/ j.pc=9 \/ j.pc=10 \/ j.pc=11 \/ j.pc=12)) \/ (j.op.kind=7 /\ (j.pc=3 \/ j.pc=4 \/ j.pc=5))->0<=j.level /\ j.level<=2
def SteM.aw (c:Cl) (j:SteM):Prop:=j.op.kind=6->j.pc=1->c.kind=8
def SteM.rk (j:SteM):Nat:=crk j.climb+if j.pc=103 then 1 else 0
def NSte (n:Int) (r0:Nat) (r:Cl×SteM):Prop:=NextOk n r.1 (r.2.WF n) (r.2.aw r.1) r0 r.2.rk
theorem wrap_lv {l:Int} (h0:0<=l+1) (h1:l<=2):wrap1 l=l+1:=wrapV (by omega)
theorem aok_lv {n:Int} {w:W} (h:WOk n w) {l:Int} (h0:0<=l) (h1:l<=2):AOk n (fieldA w (wrapA 2 l)):=by
 have e:wrapA 2 l=2+l:=wrapV (by omega)
 rw [e]
 exact aok_field h (by omega) (by omega)
end Go.Proofs.YtcpdipfepeccgaaGreatDoor

namespace Go.Proofs.YtcpdipfepeccgaaGreatDoor
open Go Go.Sx Go.Proofs
set_option maxRecDepth 100000
set_option maxHeartbeats 60000000
theorem crk_no {n:Int} {pc0:Int} {b:Int} {r:(Cl×Bool)×ClimbM} (h:ClimbOk n pc0 (newClimb b).rk r) (hb:r.1.2=true):¬imm r.1.1:=fun hi=>Nat.not_lt_zero _ (h.rk hb hi)
theorem crk_off {n:Int} {pc0:Int} {r0:Nat} {r:(Cl×Bool)×ClimbM} (h:ClimbOk n pc0 r0 r) (hb:r.1.2=false):r.2.rk=0:=by
 unfold ClimbM.rk
 rw [h.off hb];rfl
theorem cl_some {n:Int} {w:ClimbM} (h:w.WF n):∀w',some w=some w'->w'.WF n:=fun w' e=>by cases e;exact h
theorem cl_none {n:Int}:∀w',(none:Option ClimbM)=some w'->w'.WF n:=fun w' e=>by cases e
theorem nz_of {n:Int} {w:W} (h:WOk n w) (hb:(w.slot==0)=false):1<=w.slot:=by
 have:=neI hb;have:=h.1;omega
theorem dle {a b:Int} (h:decide (a>=b)=false):a < b:=by have:=of_decide_eq_false h;omega
theorem dlt {a b:Int} (h:decide (a < b)=true):a < b:=of_decide_eq_true h
theorem num3 {a:Int} (h:orB (decide (a < 1)) (decide (a > 3))=false):0<=IntKind.wrap .i64 (a - 1) /\ IntKind.wrap .i64 (a - 1)<=2:=by
 have h1:¬a < 1:=fun h1=>by rw [decide_eq_true h1] at h;cases h
 have h2:¬a > 3:=fun h2=>by rw [decide_eq_true h2,decide_eq_false h1] at h;cases h
 rw [wrapV (by omega)];omega
theorem okx {b:Bool} (h:(!b)=false):b=true:=by cases b<;>simp_all
theorem ste_wf {n:Int} (h0:0<=n) {j:SteM} (h:j.WF n) {hd:Bool} {c:Cl} (ha:j.aw c) {x:Rp1} (hr:RpFor n hd c x):NSte n j.rk (steNext j x):=by
 obtain⟨pc,last,⟨kd,ky,val,tall⟩,cl,node,lv,inc,v⟩:=j
 obtain⟨hk,htl,hp,hl,hn,hnd,hcl,hlv⟩:=h
 dsimp only [SteM.aw] at hk htl hp hl hn hnd hcl hlv ha
 have al:kd=6->pc=1->x.ok=true->1<=x.w.slot:=fun h6 h=>hr.al (ha h6 h)
 have hx:=hr.w
 clear hr ha
 have nx:0<=x.w.slot:=hx.1
 have hnk:=climb_wf h0 (newClimb_wf h0 ky) hx
 have hnk1:=climb_wf h0 (newClimb_wf h0 (wrap1 ky)) hx
 rcases hp with⟨rfl,hp⟩ | ⟨rfl,hp⟩ | ⟨rfl,hp⟩ | hp<;>rcases cl with _ | w
 all_goals first
  | (have hww:=hcl _ rfl;have hwk:=climb_wf h0 hww hx;have hpl:=climbPlace_ok h0 hww)
  | skip
 all_goals unfold steNext steF
 all_goals dsimp only [id]
 all_goals try simp only [show ¬((7:Int)=6) by decide,show ¬((8:Int)=6) by decide,show ¬((8:Int)=7) by decide,if_false,if_true]
 all_goals have hpl1:=fun(hb:ClimbM.WF n (climbNext (newClimb ky) x).2)=>climbPlace_ok h0 hb
 all_goals generalize climbNext (newClimb ky) x=r1 at hnk hpl1 ⊢
 all_goals have hpl2:=fun(hb:ClimbM.WF n (climbNext (newClimb (wrap1 ky)) x).2)=>climbPlace_ok h0 hb
 all_goals generalize climbNext (newClimb (wrap1 ky)) x=r2 at hnk1 hpl2 ⊢
 all_goals obtain⟨⟨c1,b1⟩,w1⟩:=r1
 all_goals obtain⟨⟨c2,b2⟩,w2⟩:=r2
 all_goals first
  | (have hpl3:=fun(hb:ClimbM.WF n (climbNext w x).2)=>climbPlace_ok h0 hb
     generalize climbNext w x=r3 at hwk hpl3 ⊢
     obtain⟨⟨c3,b3⟩,w3⟩:=r3)
  | skip
 all_goals ((repeat' (rcases (hp:_ \/ _) with hp | hp))<;>subst hp)
 all_goals dsimp only
 all_goals (repeat' (refine P_cond (fun hb=>?_) (fun hb=>?_)<;>first | (exact absurd hb (by decide)) | (exact absurd (of_decide_eq_true hb) (by decide)) | (exact absurd (of_decide_eq_false hb) (by decide)) | skip))
 all_goals first
  | (have hlv0:=hlv (by decide);have e1:wrap1 lv=lv+1:=wrap_lv (by omega) (by omega);have e2:IntKind.wrap .i64 (lv - 1)=lv - 1:=wrapV (by omega);try rw [e1];try rw [e2] at *)
  | skip
 all_goals have e0:wrap1 (-1)=0:=rfl
 all_goals try rw [e0]
 all_goals refine⟨?_,⟨?_,?_,?_,?_,?_,?_,?_,?_⟩,?_,?_⟩
 all_goals dsimp only [SteM.rk,SteM.aw]
 all_goals first
  | exact .inl rfl
  | exact .inl (hl rfl)
  | exact .inr (clok_alloc h0)
  | exact .inr (hwk.on (by assumption))
  | exact cl_some hwk.wf
  | exact .inr (clok_load h0 (aok_field hwk.wf.found (by decide) (by decide)))
  | exact hwk.wf.found
  | exact fun _=>nz_of hwk.wf.found (by assumption)
  | exact .inr (hnk.on (by assumption))
  | exact cl_some hnk.wf
  | exact .inr (clok_load h0 (aok_field hnk.wf.found (by decide) (by decide)))
  | exact hnk.wf.found
  | exact fun _=>nz_of hnk.wf.found (by assumption)
  | exact .inr (hnk1.on (by assumption))
  | exact cl_some hnk1.wf
  | exact .inr (clok_load h0 (aok_field hnk1.wf.found (by decide) (by decide)))
  | exact hnk1.wf.found
  | exact fun _=>nz_of hnk1.wf.found (by assumption)
  | exact .inr (clok_store h0 (aok_lv hn (by omega) (by omega)) (wok_ref (hpl3 hwk.wf _).2))
  | exact .inr (clok_swap (hpl3 hwk.wf _).1 (hpl3 hwk.wf _).2 (wok_to hn))
  | exact .inr (clok_store h0 (aok_lv hn (by omega) (by omega)) (wok_ref (hpl1 hnk.wf _).2))
  | exact .inr (clok_swap (hpl1 hnk.wf _).1 (hpl1 hnk.wf _).2 (wok_to hn))
  | exact .inr (clok_store h0 (aok_lv hn (by omega) (by omega)) (wok_ref (hpl2 hnk1.wf _).2))
  | exact .inr (clok_swap (hpl2 hnk1.wf _).1 (hpl2 hnk1.wf _).2 (wok_to hn))
  | exact .inr (clok_drop h0 hn (hnd (by decide)))
  | exact .inr (clok_retire h0 hn (hnd (by decide)))
  | exact .inr (clok_retire h0 hn (hnd (.inr (.inr (by decide)))))
  | exact .inr (clok_load h0 (aok_field hn (by decide) (by decide)))
  | exact .inr (clok_store h0 (aok_field (by assumption) (by decide) (by decide)) (wok_num h0 _))
  | exact .inr (clok_swap (aok_field hn (by decide) (by decide)) hx (wok_count h0))
  | exact .inr (clok_load h0 (aok_lv hn (by omega) (by omega)))
  | exact .inr (clok_swap (aok_lv hn (by omega) (by omega)) hx (wok_marked hx))
  | exact .inr (clok_load h0 (aok_lv hn (by have:=htl rfl;have:=dle (by assumption);omega) (by have:=htl rfl;have:=dle (by assumption);omega)))
  | exact .inr (clok_store h0 (aok_lv hn (by have:=htl rfl;have:=dlt (by assumption);omega) (by have:=htl rfl;have:=dlt (by assumption);omega)) (wok_ref (wok_nil h0)))
  | exact .inr (clok_swap aok_no (wok_nil h0) (wok_to hn))
  | exact .inr (clok_swap (aok_lv hn (by omega) (by omega)) hx (wok_to (wok_nil h0)))
  | exact .inr (clok_swap (hpl _).1 (hpl _).2 (wok_to hn))
  | exact .inr (clok_swap (aok_lv hn (by omega) (by omega)) hx (wok_to (hpl _).2))
  | exact .inr (clok_store h0 (aok_lv hn (by have:=htl rfl;have:=dlt (by assumption);omega) (by have:=htl rfl;have:=dlt (by assumption);omega)) (wok_ref (hpl _).2))
  | exact .inr (clok_store h0 (aok_lv hn (by have:=htl rfl;have:=dlt (by assumption);omega) (by have:=htl rfl;have:=dlt (by assumption);omega)) (wok_ref (hpl3 hwk.wf _).2))
  | exact .inr (clok_store h0 (aok_lv hn (by have:=htl rfl;have:=dlt (by assumption);omega) (by have:=htl rfl;have:=dlt (by assumption);omega)) (wok_ref (hpl1 hnk.wf _).2))
  | exact .inr (clok_store h0 (aok_lv hn (by have:=htl rfl;have:=dlt (by assumption);omega) (by have:=htl rfl;have:=dlt (by assumption);omega)) (wok_ref (hpl2 hnk1.wf _).2))
  | assumption
  | exact htl
  | exact .inr (.inr (.inr (by decide)))
  | exact fun h=>h.elim (fun h=>absurd h.2 (by decide)) (fun h=>absurd h.2 (by decide))
  | exact fun _=>htl rfl
  | exact wok_nil h0
  | decide
  | exact fun h=>absurd h (by decide)
  | exact fun _=>rfl
  | exact fun _ _=>rfl
  | exact fun h _=>absurd h (by decide)
  | exact fun _ h=>absurd h (by decide)
  | exact fun _=>hnd (by decide)
  | exact fun _=>hnd (.inr (.inr (by decide)))
  | exact fun _=>al rfl rfl (okx (by assumption))
  | exact fun _=>⟨by omega,by omega⟩
  | exact fun _=>hlv (by decide)
  | exact fun _=>num3 (by assumption)
  | exact fun _=>(by have:=neI (by assumption:(lv==0)=false);omega)
  | exact fun _=>(by have:=of_decide_eq_true (by assumption:decide (lv > 0)=true);omega)
  | exact .inr (clok_load h0 (aok_lv hn (by have:=neI (by assumption:(lv==0)=false);omega) (by omega)))
  | exact .inr (clok_load h0 (aok_lv hn (by have:=of_decide_eq_true (by assumption:decide (lv > 0)=true);omega) (by omega)))
  | exact fun _=>(by have:=htl rfl;have:=dle (by assumption);omega)
  | exact fun _=>(by have:=htl rfl;have:=dlt (by assumption);omega)
  | exact hk.elim (fun h=>.inl ⟨h,.inl rfl⟩) fun h=>.inr (h.elim (fun h=>.inl ⟨h,.inl rfl⟩) fun h=>.inr (.inl ⟨h,.inl rfl⟩))
  | exact cl_some hww
  | exact cl_none
  | exact fun h=>absurd h imm_load
  | exact fun h=>absurd h imm_store
  | exact fun h=>absurd h imm_swap
  | exact fun h=>absurd h imm_alloc
  | exact fun h=>absurd h imm_drop
  | exact fun h=>absurd h imm_done
  | exact fun h=>absurd h imm_protect
  | exact fun h=>absurd h (imm_of (hl rfl) (by decide) (by decide))
  | exact fun h=>absurd h (crk_no hnk (by assumption))
  | exact fun h=>absurd h (crk_no hnk1 (by assumption))
  | exact fun h=>(by have hq:=hwk.rk (by assumption) h;simp [crk];exact hq)
  | exact fun h=>(by have hq:=crk_off hwk (by assumption);simp [crk];exact(by have hq:w3.rk=0:=hq;omega))
  | exact absurd (hnk.st rfl) (by have hq:b1=false:=(by assumption);show ¬b1=true;rw [hq];decide)
  | exact absurd (hnk1.st rfl) (by have hq:b2=false:=(by assumption);show ¬b2=true;rw [hq];decide)
  | exact fun _=>(by simp [crk])
end Go.Proofs.YtcpdipfepeccgaaGreatDoor

namespace Go.Proofs.YtcpdipfepeccgaaGreatDoor
open Go Go.Sx Go.Proofs
set_option maxRecDepth 100000
set_option maxHeartbeats 4000000
structure VauM.WF (n:Int) (j:VauM):Prop where
 key:0<=j.op.key /\ j.op.key < 256
 kd:j.op.kind=6 \/ j.op.kind=7 \/ j.op.kind=8
 child:0<=j.child /\ j.child < 8
 pc:j.pc=-1 \/ j.pc=0 \/ j.pc=1 \/ j.pc=2 \/ j.pc=3 \/ j.pc=4 \/ j.pc=5 \/ j.pc=6 \/ j.pc=7 \/ j.pc=8 \/ j.pc=9 \/ j.pc=10 \/ j.pc=11 \/ j.pc=12 \/ j.pc=13 \/ j.pc=14 \/ j.pc=15
 last:j.pc=-1->j.last.kind=12
 wb:j.pc=2->okWB j.wanted j.bucket=true
 wc:3<=j.pc /\ j.pc<=10->okWC j.wanted j.child=true
 base:WOk n j.base
 node:WOk n j.node
 sent:WOk n j.sentinel
 count:WOk n j.count
 nd:4<=j.pc /\ j.pc<=8->1<=j.node.slot
 wk:∀w,j.walk=some w->w.WF n
 inn:j.pc=11->∃l,j.inner=some l /\ l.WF n
def VauM.aw (c:Cl) (j:VauM):Prop:=(j.pc=3->c.kind=8) /\ (j.pc=11->∀l,j.inner=some l->l.aw c)
def lrk:Option LitM->Nat
 | none=>0
 | some l=>l.rk
def VauM.rk (j:VauM):Nat:=if j.pc=11 then lrk j.inner else wrk j.walk
def NVau (n:Int) (r0:Nat) (r:Cl×VauM):Prop:=NextOk n r.1 (r.2.WF n) (r.2.aw r.1) r0 r.2.rk
def clFin (a:An):Cl:=⟨12,noAd,wNil,wNil,0,0,a⟩
noncomputable def vDone (a:An) (j:VauM):Cl×VauM:=(clFin a,{j with pc:=-1,last:=clFin a})
noncomputable def vFin (c:Cl) (j:VauM):Cl×VauM:=cond (c.kind != 12) (c,j) (cond (orB (c.ans.code != 1) (j.op.kind==8)) (vDone c.ans {j with answer:=c.ans}) (clLoad (rootA 17),{j with answer:=c.ans,pc:=12}))
noncomputable def vPerf (j:VauM):Cl×VauM:=vFin (litNext (newLit (fieldA j.base 2,ordN j.op.key,j.op)) ⟨wNil,false⟩).1 {j with inner:=some (litNext (newLit (fieldA j.base 2,ordN j.op.key,j.op)) ⟨wNil,false⟩).2,pc:=11}
noncomputable def vDesc (j:VauM):Cl×VauM:=if j.bucket=j.wanted then vPerf j else(clAlloc,{j with child:=childN 4 j.wanted j.bucket,pc:=3})
noncomputable def vWalkK (j:VauM) (w:WalkM):Cl×VauM:=cond w.found (clDrop j.node,{j with walk:=some w,sentinel:=wRef w.cur,pc:=6}) (clStore (fieldA j.node 2) (wRef w.cur),{j with walk:=some w,pc:=7})
noncomputable def vWalk (j:VauM) (x:Rp1) (w:WalkM):Cl×VauM:=cond (walkNext w x).1.2 ((walkNext w x).1.1,{j with walk:=some (walkNext w x).2,pc:=5}) (vWalkK j (walkNext w x).2)
structure VauM.W0 (n:Int) (j:VauM):Prop where
 key:0<=j.op.key /\ j.op.key < 256
 kd:j.op.kind=6 \/ j.op.kind=7 \/ j.op.kind=8
 child:0<=j.child /\ j.child < 8
 base:WOk n j.base
 node:WOk n j.node
 sent:WOk n j.sentinel
 count:WOk n j.count
 wk:∀w,j.walk=some w->w.WF n
theorem VauM.WF.w0 {n:Int} {j:VauM} (h:j.WF n):j.W0 n:=⟨h.key,h.kd,h.child,h.base,h.node,h.sent,h.count,h.wk⟩
theorem pcI {p q:Int} (h:p=q) {P:Prop} {lo hi:Int} (hne:¬(lo<=q /\ q<=hi)):lo<=p /\ p<=hi->P:=fun e=>absurd (h▸e) hne
theorem vDone_wf {n:Int} {j:VauM} (h:j.W0 n) {r0:Nat} (a:An):NVau n r0 (vDone a j):=by
 refine⟨.inl rfl,⟨h.key,h.kd,h.child,.inl rfl,fun _=>rfl,fun e=>absurd e (by show ¬((-1:Int)=2);decide),fun e=>absurd (show (3:Int)<=-1 from e.1) (by decide),h.base,h.node,h.sent,h.count,fun e=>absurd (show (4:Int)<=-1 from e.1) (by decide),h.wk,fun e=>absurd e (by show ¬((-1:Int)=11);decide)⟩,fun h=>absurd h (imm_of (k:=12) rfl (by decide) (by decide)),⟨fun e=>absurd e (by show ¬((-1:Int)=3);decide),fun e=>absurd e (by show ¬((-1:Int)=11);decide)⟩⟩
theorem vAsk_wf {n:Int} (h0:0<=n) {j:VauM} (h:j.W0 n) {r0:Nat} {c:Cl} (hc:ClOk n c) (hi:¬imm c) {p:Int} (hp:p=1 \/ p=12 \/ p=13 \/ p=14 \/ p=15):NVau n r0 (c,{j with pc:=p}):=by
 rcases hp with rfl | rfl | rfl | rfl | rfl <;>
 ·refine⟨.inr hc,⟨h.key,h.kd,h.child,?_,?_,?_,?_,h.base,h.node,h.sent,h.count,?_,h.wk,?_⟩,fun h=>absurd h hi,⟨?_,?_⟩⟩
  ·dsimp only;decide
  all_goals (intro e;dsimp only at e;exact absurd e (by decide))
theorem vFin_wf {n:Int} (h0:0<=n) {j:VauM} (h:j.W0 n) (hpc:j.pc=11) {l:LitM} (hl:j.inner=some l) (hw:l.WF n) {r0:Nat} {c:Cl} (hc:Res n c) (ha:l.aw c) (hr:imm c->l.rk < r0):NVau n r0 (vFin c j):=by
 unfold vFin
 refine P_cond (P:=NVau n r0) (fun hb=>?_) fun hb=>P_cond (P:=NVau n r0) (fun _=>vDone_wf (j:={j with answer:=c.ans}) ⟨h.key,h.kd,h.child,h.base,h.node,h.sent,h.count,h.wk⟩ _) fun _=>vAsk_wf h0 (j:={j with answer:=c.ans}) ⟨h.key,h.kd,h.child,h.base,h.node,h.sent,h.count,h.wk⟩ (clok_load h0 (aok_root (by decide) (by decide))) imm_load (.inr (.inl rfl))
 have hk:c.kind≠12:=by simpa using hb
 have hc:ClOk n c:=hc.elim (fun e=>absurd e hk) id
 refine⟨.inr hc,⟨h.key,h.kd,h.child,by rw [hpc];decide,fun e=>absurd (hpc.symm.trans e) (by decide),fun e=>absurd (hpc.symm.trans e) (by decide),pcI hpc (by decide),h.base,h.node,h.sent,h.count,pcI hpc (by decide),h.wk,fun _=>⟨l,hl,hw⟩⟩,fun hi=>?_,⟨fun e=>absurd (hpc.symm.trans e) (by decide),fun _ l' e=>by rw [hl] at e;cases e;exact ha⟩⟩
 show VauM.rk j < r0
 unfold VauM.rk
 rw [if_pos hpc,hl]
 exact hr hi
theorem newLit_wf {n:Int} (h0:0<=n) {a:Ad} (ha:AOk n a) {k:Int} {o:O} (ho:o.kind=6 \/ o.kind=7 \/ o.kind=8):(newLit (a,k,o)).WF n:=by
 refine⟨ho,ha,?_,fun e=>?_,wok_nil h0,fun _ e=>?_,fun w e=>(by cases e),fun _ e=>?_⟩
 ·rcases ho with h | h | h
  ·exact .inl ⟨h,.inr (.inl rfl)⟩
  ·exact .inr (.inl ⟨h,.inr (.inl rfl)⟩)
  ·exact .inr (.inr ⟨h,.inr (.inl rfl)⟩)
 ·exact absurd (show (0:Int)=-1 from e) (by decide)
 ·exact absurd (show (0:Int)=2 \/ (0:Int)=3 \/ (0:Int)=4 \/ (0:Int)=5 \/ (0:Int)=6 \/ (0:Int)=7 from e) (by decide)
 ·exact absurd (show (0:Int)=2 \/ (0:Int)=3 \/ (0:Int)=4 from e) (by decide)
theorem newLit_aw {c:Cl} {x:Ad×Int×O}:(newLit x).aw c:=fun _ e=>absurd (show (0:Int)=1 from e) (by decide)
theorem newLit_rk {x:Ad×Int×O}:(newLit x).rk=0:=by
 unfold LitM.rk newLit wrk
 dsimp only
 rw [if_neg (fun e=>absurd e.2 (by decide))]
theorem rp0 {n:Int} (h0:0<=n) {hd:Bool}:RpFor n hd clNone ⟨wNil,false⟩:=⟨wok_nil h0,fun e=>absurd (show (0:Int)=8 from e) (by decide),fun _ e=>absurd (show (0:Int)=6 from e) (by decide)⟩
theorem vPerf_wf {n:Int} (h0:0<=n) {j:VauM} (h:j.W0 n) {r0:Nat}:NVau n r0 (vPerf j):=by
 have hl:=lit_wf h0 (newLit_wf h0 (a:=fieldA j.base 2) (aok_field h.base (by decide) (by decide)) (k:=ordN j.op.key) h.kd) (hd:=false) (c:=clNone) newLit_aw (rp0 h0)
 unfold vPerf
 generalize litNext (newLit (fieldA j.base 2,ordN j.op.key,j.op)) ⟨wNil,false⟩=r at hl ⊢
 refine vFin_wf h0 (j:={j with inner:=some r.2,pc:=11}) ⟨h.key,h.kd,h.child,h.base,h.node,h.sent,h.count,h.wk⟩ rfl rfl hl.wf hl.res hl.aw fun hi=>?_
 have:=hl.rk hi
 rw [newLit_rk] at this
 exact absurd this (Nat.not_lt_zero _)
theorem z8 {P:Int->Int->Prop} (h:∀i j:Fin 8,P (i.val:Nat) (j.val:Nat)) {w b:Int} (hr:0<=w /\ w < 8 /\ 0<=b /\ b < 8):P w b:=by
 have:=h ⟨w.toNat,by omega⟩ ⟨b.toNat,by omega⟩
 rwa [show ((w.toNat:Nat):Int)=w by omega,show ((b.toNat:Nat):Int)=b by omega] at this
theorem child_of {w b:Int} (h:okWB w b=true) (hne:¬b=w):okWC w (childN 4 w b)=true /\ 0<=childN 4 w b /\ childN 4 w b < 8 :=
 z8 (P:=fun w b=>okWB w b=true->¬b=w->okWC w (childN 4 w b)=true /\ 0<=childN 4 w b /\ childN 4 w b < 8) (by decide) (wb_range h) h hne
theorem wb_of_wc {w c:Int} (h:okWC w c=true):okWB w c=true:=z8 (P:=fun w c=>okWC w c=true->okWB w c=true) (by decide) (wc_range h) h
theorem wb_par {w b:Int} (h:okWB w b=true) (hb:¬b=0):okWB w (parN b)=true /\ 0<=parN b /\ parN b < 8 :=
 z8 (P:=fun w b=>okWB w b=true->¬b=0->okWB w (parN b)=true /\ 0<=parN b /\ parN b < 8) (by decide) (wb_range h) h hb
theorem vDesc_wf {n:Int} (h0:0<=n) {j:VauM} (h:j.W0 n) (hw:okWB j.wanted j.bucket=true) {r0:Nat}:NVau n r0 (vDesc j):=by
 unfold vDesc
 split
 ·exact vPerf_wf h0 h
 ·rename_i hne
  obtain⟨h1,h2⟩:=child_of hw hne
  refine⟨.inr (clok_alloc h0),⟨h.key,h.kd,h2,?_,?_,?_,fun _=>h1,h.base,h.node,h.sent,h.count,?_,h.wk,?_⟩,fun h=>absurd h imm_alloc,⟨fun _=>rfl,?_⟩⟩
  ·dsimp only;decide
  all_goals (intro e;dsimp only at e;exact absurd e (by decide))
theorem vWalkK_wf {n:Int} (h0:0<=n) {j:VauM} (h:j.W0 n) (hc:okWC j.wanted j.child=true) (hn:1<=j.node.slot) {w:WalkM} (hw:w.WF n) {r0:Nat}:NVau n r0 (vWalkK j w):=by
 unfold vWalkK
 refine P_cond (P:=NVau n r0) (fun hb=>?_) fun hb=>?_
 ·refine⟨.inr (clok_drop h0 h.node hn),⟨h.key,h.kd,h.child,?_,?_,?_,fun _=>hc,h.base,h.node,wok_ref hw.cur,h.count,fun _=>hn,wk_some hw,?_⟩,fun h=>absurd h imm_drop,⟨?_,?_⟩⟩
  ·dsimp only;decide
  all_goals (intro e;dsimp only at e;exact absurd e (by decide))
 ·refine⟨.inr (clok_store h0 (aok_field h.node (by decide) (by decide)) (wok_ref hw.cur)),⟨h.key,h.kd,h.child,?_,?_,?_,fun _=>hc,h.base,h.node,h.sent,h.count,fun _=>hn,wk_some hw,?_⟩,fun h=>absurd h imm_store,⟨?_,?_⟩⟩
  ·dsimp only;decide
  all_goals (intro e;dsimp only at e;exact absurd e (by decide))
theorem vWalk_wf {n:Int} (h0:0<=n) {j:VauM} (h:j.W0 n) (hc:okWC j.wanted j.child=true) (hn:1<=j.node.slot) {w:WalkM} (hw:w.WF n) {x:Rp1} (hx:WOk n x.w) {r0:Nat} (hr:w.rk<=r0):NVau n r0 (vWalk j x w):=by
 have hk:=walk_wf h0 hw hx
 unfold vWalk
 generalize walkNext w x=r at hk ⊢
 obtain⟨⟨c,b⟩,w'⟩:=r
 cases b with
 | false=>exact vWalkK_wf h0 h hc hn hk.wf
 | true =>
   refine⟨.inr (hk.on rfl),⟨h.key,h.kd,h.child,?_,?_,?_,fun _=>hc,h.base,h.node,h.sent,h.count,fun _=>hn,wk_some hk.wf,?_⟩,fun hi=>?_,⟨?_,?_⟩⟩
   ·dsimp only [cond];decide
   ·intro e;dsimp only [cond] at e;exact absurd e (by decide)
   ·intro e;dsimp only [cond] at e;exact absurd e (by decide)
   ·intro e;dsimp only [cond] at e;exact absurd e (by decide)
   ·exact Nat.lt_of_lt_of_le (hk.rk rfl hi) hr
   all_goals (intro e;dsimp only [cond] at e;exact absurd e (by decide))
theorem aok_rootB {n:Int} {b:Int} (h0:0<=b) (h1:b < 8):AOk n (rootA (wrapA 8 b)):=by
 rw [show wrapA 8 b=8+b from wrapV (by omega)]
 exact aok_root (by omega) (by omega)
theorem szN_cases (k:Int):szN k=1 \/ szN k=2 \/ szN k=4 \/ szN k=8:=by
 unfold szN
 split
 ·rename_i h;have h:=eq_of_beq h;subst h;exact .inr (.inl rfl)
 ·split
  ·rename_i h;have h:=eq_of_beq h;subst h;exact .inr (.inr (.inl rfl))
  ·split
   ·rename_i h;have h:=eq_of_beq h;subst h;exact .inr (.inr (.inr rfl))
   ·exact .inl rfl
theorem tmod_lt {k s:Int} (h0:0<=k) (hs:s=1 \/ s=2 \/ s=4 \/ s=8):0<=Int.tmod k s /\ Int.tmod k s < 8:=by
 have hp:0 < s:=by omega
 rw [Int.tmod_eq_emod_of_nonneg h0]
 have:=Int.emod_nonneg k (show s≠0 by omega)
 have:=Int.emod_lt_of_pos k hp
 omega
theorem wb_self {b:Int} (h0:0<=b) (h1:b < 8):okWB b b=true:=by
 rcases (by omega:b=0 \/ b=1 \/ b=2 \/ b=3 \/ b=4 \/ b=5 \/ b=6 \/ b=7) with rfl | rfl | rfl | rfl | rfl | rfl | rfl | rfl<;>decide
theorem vAskC_wf {n:Int} {j:VauM} (h:j.W0 n) (hc:okWC j.wanted j.child=true) (hn:1<=j.node.slot) {r0:Nat} {c:Cl} (hcl:ClOk n c) (hi:¬imm c) {p:Int} (hp:p=4 \/ p=8 \/ p=9 \/ p=10):NVau n r0 (c,{j with pc:=p}):=by
 rcases hp with rfl | rfl | rfl | rfl <;>
 ·refine⟨.inr hcl,⟨h.key,h.kd,h.child,?_,?_,?_,fun _=>hc,h.base,h.node,h.sent,h.count,fun _=>hn,h.wk,?_⟩,fun h=>absurd h hi,⟨?_,?_⟩⟩
  ·dsimp only;decide
  all_goals (intro e;dsimp only at e;exact absurd e (by decide))
theorem vAskD_wf {n:Int} {j:VauM} (h:j.W0 n) (hc:okWC j.wanted j.child=true) {r0:Nat} {c:Cl} (hcl:ClOk n c) (hi:¬imm c) {p:Int} (hp:p=9 \/ p=10):NVau n r0 (c,{j with pc:=p}):=by
 rcases hp with rfl | rfl <;>
 ·refine⟨.inr hcl,⟨h.key,h.kd,h.child,?_,?_,?_,fun _=>hc,h.base,h.node,h.sent,h.count,?_,h.wk,?_⟩,fun h=>absurd h hi,⟨?_,?_⟩⟩
  ·dsimp only;decide
  all_goals (intro e;dsimp only at e;exact absurd e (by decide))
theorem vAskB_wf {n:Int} (h0:0<=n) {j:VauM} (h:j.W0 n) (hw:okWB j.wanted j.bucket=true) (hb:0<=j.bucket /\ j.bucket < 8) {r0:Nat}:NVau n r0 (clLoad (rootA (wrapA 8 j.bucket)),{j with pc:=2}):=by
 refine⟨.inr (clok_load h0 (aok_rootB hb.1 hb.2)),⟨h.key,h.kd,h.child,?_,?_,fun _=>hw,?_,h.base,h.node,h.sent,h.count,?_,h.wk,?_⟩,fun h=>absurd h imm_load,⟨?_,?_⟩⟩
 ·dsimp only;decide
 all_goals (intro e;dsimp only at e;exact absurd e (by decide))
theorem nrk0 {a:Ad×Int}:(newWalk a).rk=0:=by
 unfold WalkM.rk newWalk
 dsimp only
 rw [if_neg (by decide),if_neg (by decide)]
theorem vau_wf {n:Int} (h0:0<=n) {j:VauM} (h:j.WF n) {hd:Bool} {c:Cl} (ha:j.aw c) {x:Rp1} (hr:RpFor n hd c x):NVau n j.rk (vauNext j x):=by
 have hx:WOk n x.w:=hr.w
 have nx:0<=x.w.slot:=hx.1
 have w:=h.w0
 have hp:=h.pc
 have hq:=h
 obtain⟨pc,last,op,size,wanted,bucket,child,base,node,sentinel,walk,inner,answer,count⟩:=j
 dsimp only at hp
 rcases hp with rfl | rfl | rfl | rfl | rfl | rfl | rfl | rfl | rfl | rfl | rfl | rfl | rfl | rfl | rfl | rfl | rfl
 ·exact⟨.inl (h.last rfl),h,fun e=>absurd e (imm_of (h.last rfl) (by decide) (by decide)),⟨fun e=>absurd (show (-1:Int)=3 from e) (by decide),fun e=>absurd (show (-1:Int)=11 from e) (by decide)⟩⟩
 ·exact vAsk_wf h0 (j:=⟨0,last,op,size,wanted,bucket,child,base,node,sentinel,walk,inner,answer,count⟩) w (c:=clLoad (rootA 16)) (clok_load h0 (aok_root (by decide) (by decide))) imm_load (.inl rfl)
 ·have ht:=tmod_lt h.key.1 (szN_cases x.w.num)
  exact vAskB_wf h0 (j:=⟨1,last,op,szN x.w.num,Int.tmod op.key (szN x.w.num),Int.tmod op.key (szN x.w.num),child,base,node,sentinel,walk,inner,answer,count⟩) ⟨w.key,w.kd,w.child,w.base,w.node,w.sent,w.count,w.wk⟩ (wb_self ht.1 ht.2) ht
 ·have hw:=h.wb rfl
  show NVau n _ (cond (!(x.w.slot==0)) (vDesc ⟨2,last,op,size,wanted,bucket,child,x.w,node,sentinel,walk,inner,answer,count⟩) (if bucket=0 then vDone ⟨4,0⟩ ⟨2,last,op,size,wanted,bucket,child,base,node,sentinel,walk,inner,answer,count⟩ else(clLoad (rootA (wrapA 8 (parN bucket))),⟨2,last,op,size,wanted,parN bucket,child,base,node,sentinel,walk,inner,answer,count⟩)))
  refine P_cond (P:=NVau n _) (fun _=>vDesc_wf h0 (j:=⟨2,last,op,size,wanted,bucket,child,x.w,node,sentinel,walk,inner,answer,count⟩) ⟨w.key,w.kd,w.child,hx,w.node,w.sent,w.count,w.wk⟩ hw) fun _=>?_
  split
  ·exact vDone_wf w _
  ·rename_i hb
   obtain⟨g1,g2⟩:=wb_par hw hb
   exact vAskB_wf h0 (j:=⟨2,last,op,size,wanted,parN bucket,child,base,node,sentinel,walk,inner,answer,count⟩) ⟨w.key,w.kd,w.child,w.base,w.node,w.sent,w.count,w.wk⟩ g1 g2
 ·have hc:=h.wc ⟨by show (3:Int)<=3;decide,by show (3:Int)<=10;decide⟩
  show NVau n _ (cond (!x.ok) (vPerf ⟨3,last,op,size,wanted,bucket,child,base,node,sentinel,walk,inner,answer,count⟩) (clStore (fieldA x.w 0) (wNum (bordN child)),⟨4,last,op,size,wanted,bucket,child,base,x.w,sentinel,walk,inner,answer,count⟩))
  refine P_cond (P:=NVau n _) (fun _=>vPerf_wf h0 w) fun hb=>?_
  have hok:x.ok=true:=by cases e:x.ok with | true=>rfl | false=>rw [e] at hb;cases hb
  exact vAskC_wf (j:=⟨3,last,op,size,wanted,bucket,child,base,x.w,sentinel,walk,inner,answer,count⟩) ⟨w.key,w.kd,w.child,w.base,hx,w.sent,w.count,w.wk⟩ hc (hr.al (ha.1 rfl) hok) (clok_store h0 (aok_field hx (by decide) (by decide)) (wok_num h0 _)) imm_store (.inl rfl)
 ·have hc:=h.wc ⟨by show (3:Int)<=4;decide,by show (4:Int)<=10;decide⟩
  have hn:=h.nd ⟨by show (4:Int)<=4;decide,by show (4:Int)<=8;decide⟩
  exact vWalk_wf h0 (j:=⟨4,last,op,size,wanted,bucket,child,base,node,sentinel,walk,inner,answer,count⟩) w hc hn (newWalk_wf h0 (aok_field w.base (by decide) (by decide)) (bordN child)) hx (by rw [nrk0];exact Nat.zero_le _)
 ·have hc:=h.wc ⟨by show (3:Int)<=5;decide,by show (5:Int)<=10;decide⟩
  have hn:=h.nd ⟨by show (4:Int)<=5;decide,by show (5:Int)<=8;decide⟩
  cases walk with
  | none =>
    show NVau n _ (clStore (fieldA node 2) (wRef wNil),⟨7,last,op,size,wanted,bucket,child,base,node,sentinel,none,inner,answer,count⟩)
    refine⟨.inr (clok_store h0 (aok_field w.node (by decide) (by decide)) (wok_nil h0)),⟨w.key,w.kd,w.child,?_,?_,?_,fun _=>hc,w.base,w.node,w.sent,w.count,fun _=>hn,w.wk,?_⟩,fun h=>absurd h imm_store,⟨?_,?_⟩⟩
    ·dsimp only;decide
    all_goals (intro e;dsimp only at e;exact absurd e (by decide))
  | some wk=>exact vWalk_wf h0 (j:=⟨5,last,op,size,wanted,bucket,child,base,node,sentinel,some wk,inner,answer,count⟩) w hc hn (h.wk wk rfl) hx (Nat.le_refl _)
 ·have hc:=h.wc ⟨by show (3:Int)<=6;decide,by show (6:Int)<=10;decide⟩
  exact vAskD_wf (j:=⟨6,last,op,size,wanted,bucket,child,base,node,sentinel,walk,inner,answer,count⟩) w hc (clok_load h0 (aok_rootB w.child.1 w.child.2)) imm_load (.inl rfl)
 ·have hc:=h.wc ⟨by show (3:Int)<=7;decide,by show (7:Int)<=10;decide⟩
  have hn:=h.nd ⟨by show (4:Int)<=7;decide,by show (7:Int)<=8;decide⟩
  refine vAskC_wf (j:=⟨7,last,op,size,wanted,bucket,child,base,node,sentinel,walk,inner,answer,count⟩) w hc hn (c:=clSwap (match walk with | none=>(noAd,wNil,wNil) | some w=>(w.prev,w.cur,w.next)).1 (match walk with | none=>(noAd,wNil,wNil) | some w=>(w.prev,w.cur,w.next)).2.1 (wTo (match walk with | none=>(noAd,wNil,wNil) | some w=>(w.prev,w.cur,w.next)).2.1 node)) ?_ imm_swap (.inr (.inl rfl))
  cases walk with
  | none=>exact clok_swap aok_no (wok_nil h0) (wok_to w.node)
  | some wk=>exact clok_swap (h.wk wk rfl).prev (h.wk wk rfl).cur (wok_to w.node)
 ·have hc:=h.wc ⟨by show (3:Int)<=8;decide,by show (8:Int)<=10;decide⟩
  have hn:=h.nd ⟨by show (4:Int)<=8;decide,by show (8:Int)<=8;decide⟩
  show NVau n _ (cond x.ok (clLoad (rootA (wrapA 8 child)),⟨9,last,op,size,wanted,bucket,child,base,node,node,walk,inner,answer,count⟩) (vWalk ⟨8,last,op,size,wanted,bucket,child,base,node,sentinel,walk,inner,answer,count⟩ x (newWalk (fieldA base 2,bordN child))))
  refine P_cond (P:=NVau n _) (fun _=>?_) fun _=>?_
  ·exact vAskD_wf (j:=⟨8,last,op,size,wanted,bucket,child,base,node,node,walk,inner,answer,count⟩) ⟨w.key,w.kd,w.child,w.base,w.node,w.node,w.count,w.wk⟩ hc (clok_load h0 (aok_rootB w.child.1 w.child.2)) imm_load (.inl rfl)
  ·exact vWalk_wf h0 (j:=⟨8,last,op,size,wanted,bucket,child,base,node,sentinel,walk,inner,answer,count⟩) w hc hn (newWalk_wf h0 (aok_field w.base (by decide) (by decide)) (bordN child)) hx (by rw [nrk0];exact Nat.zero_le _)
 ·have hc:=h.wc ⟨by show (3:Int)<=9;decide,by show (9:Int)<=10;decide⟩
  show NVau n _ (cond (x.w.slot==0) (clSwap (rootA (wrapA 8 child)) x.w (wTo x.w sentinel),⟨10,last,op,size,wanted,bucket,child,base,node,sentinel,walk,inner,answer,count⟩) (vDesc ⟨9,last,op,size,wanted,child,child,sentinel,node,sentinel,walk,inner,answer,count⟩))
  refine P_cond (P:=NVau n _) (fun _=>?_) fun _=>vDesc_wf h0 (j:=⟨9,last,op,size,wanted,child,child,sentinel,node,sentinel,walk,inner,answer,count⟩) ⟨w.key,w.kd,w.child,w.sent,w.node,w.sent,w.count,w.wk⟩ (wb_of_wc hc)
  exact vAskD_wf (j:=⟨9,last,op,size,wanted,bucket,child,base,node,sentinel,walk,inner,answer,count⟩) w hc (clok_swap (aok_rootB w.child.1 w.child.2) hx (wok_to w.sent)) imm_swap (.inr rfl)
 ·have hc:=h.wc ⟨by show (3:Int)<=10;decide,by show (10:Int)<=10;decide⟩
  exact vDesc_wf h0 (j:=⟨10,last,op,size,wanted,child,child,sentinel,node,sentinel,walk,inner,answer,count⟩) ⟨w.key,w.kd,w.child,w.sent,w.node,w.sent,w.count,w.wk⟩ (wb_of_wc hc)
 ·obtain⟨l,hl,hlw⟩:=h.inn rfl
  have hl:inner=some l:=hl
  subst hl
  have hn:=lit_wf h0 hlw (ha.2 rfl l rfl) hr
  exact vFin_wf h0 (j:=⟨11,last,op,size,wanted,bucket,child,base,node,sentinel,walk,some (litNext l x).2,answer,count⟩) ⟨w.key,w.kd,w.child,w.base,w.node,w.sent,w.count,w.wk⟩ rfl rfl hn.wf hn.res hn.aw hn.rk
 ·show NVau n _ (cond (op.kind==7) (clSwap (rootA 17) x.w (wCount x.w (-1)),⟨13,last,op,size,wanted,bucket,child,base,node,sentinel,walk,inner,answer,x.w⟩) (clSwap (rootA 17) x.w (wCount x.w 1),⟨13,last,op,size,wanted,bucket,child,base,node,sentinel,walk,inner,answer,x.w⟩))
  refine P_cond (P:=NVau n _) (fun _=>?_) fun _=>?_
  all_goals (exact vAsk_wf h0 (j:=⟨12,last,op,size,wanted,bucket,child,base,node,sentinel,walk,inner,answer,x.w⟩) ⟨w.key,w.kd,w.child,w.base,w.node,w.sent,hx,w.wk⟩ (clok_swap (aok_root (by decide) (by decide)) hx (wok_count h0)) imm_swap (.inr (.inr (.inl rfl))))
 ·show NVau n _ (cond (!x.ok) (clLoad (rootA 17),⟨12,last,op,size,wanted,bucket,child,base,node,sentinel,walk,inner,answer,count⟩) (cond (orB (op.kind==7) (orB (size==8) (decide (count.num < IntKind.wrap .i64 (2 * size))))) (vDone answer ⟨13,last,op,size,wanted,bucket,child,base,node,sentinel,walk,inner,answer,count⟩) (clLoad (rootA 16),⟨14,last,op,size,wanted,bucket,child,base,node,sentinel,walk,inner,answer,count⟩)))
  refine P_cond (P:=NVau n _) (fun _=>?_) fun _=>P_cond (P:=NVau n _) (fun _=>vDone_wf w _) fun _=>?_
  ·exact vAsk_wf h0 (j:=⟨13,last,op,size,wanted,bucket,child,base,node,sentinel,walk,inner,answer,count⟩) w (clok_load h0 (aok_root (by decide) (by decide))) imm_load (.inr (.inl rfl))
  ·exact vAsk_wf h0 (j:=⟨13,last,op,size,wanted,bucket,child,base,node,sentinel,walk,inner,answer,count⟩) w (clok_load h0 (aok_root (by decide) (by decide))) imm_load (.inr (.inr (.inr (.inl rfl))))
 ·show NVau n _ (cond (x.w.num==size) (clSwap (rootA 16) x.w (wCount x.w size),⟨15,last,op,size,wanted,bucket,child,base,node,sentinel,walk,inner,answer,count⟩) (vDone answer ⟨14,last,op,size,wanted,bucket,child,base,node,sentinel,walk,inner,answer,count⟩))
  refine P_cond (P:=NVau n _) (fun _=>?_) fun _=>vDone_wf w _
  exact vAsk_wf h0 (j:=⟨14,last,op,size,wanted,bucket,child,base,node,sentinel,walk,inner,answer,count⟩) w (clok_swap (aok_root (by decide) (by decide)) hx (wok_count h0)) imm_swap (.inr (.inr (.inr (.inr rfl))))
 ·exact vDone_wf (j:=⟨15,last,op,size,wanted,bucket,child,base,node,sentinel,walk,inner,answer,count⟩) w _
end Go.Proofs.YtcpdipfepeccgaaGreatDoor

namespace Go.Proofs.YtcpdipfepeccgaaGreatDoor
open Go Go.Sx Go.Proofs
set_option maxRecDepth 100000
set_option maxHeartbeats 4000000
def JobM.WF (n:Int) (hd:Bool):JobM->Prop
 | .pile j=>j.WF n /\ hd=false
 | .cort j=>j.WF n /\ hd=true
 | .lit j=>j.WF n /\ hd=false
 | .vau j=>j.WF n /\ hd=false
 | .ste j=>j.WF n /\ hd=false
def JobM.aw (c:Cl):JobM->Prop
 | .pile j=>True
 | .cort j=>j.aw c
 | .lit j=>j.aw c
 | .vau j=>j.aw c
 | .ste j=>j.aw c
def JobM.rk:JobM->Nat
 | .pile j=>j.rk
 | .cort j=>j.rk
 | .lit j=>j.rk
 | .vau j=>j.rk
 | .ste j=>j.rk
theorem wrk_le (w:Option WalkM):wrk w<=2:=by
 cases w with
 | none=>exact Nat.zero_le _
 | some w=>show WalkM.rk w<=2;unfold WalkM.rk;repeat' split
           all_goals decide
theorem lrk_le (l:LitM):l.rk<=3:=by
 have:=wrk_le l.walk
 unfold LitM.rk
 split<;>omega
theorem JobM.rk_le (j:JobM):j.rk<=3:=by
 cases j with
 | pile j=>show PileM.rk j<=3;unfold PileM.rk;split<;>decide
 | cort j=>show CortM.rk j<=3;unfold CortM.rk;split<;>decide
 | lit j=>exact lrk_le j
 | vau j =>
   show VauM.rk j<=3
   unfold VauM.rk
   split
   ·cases j.inner with
    | none=>exact Nat.zero_le _
    | some l=>exact lrk_le l
   ·have:=wrk_le j.walk;omega
 | ste j =>
   show SteM.rk j<=3
   unfold SteM.rk
   have:crk j.climb<=2:=by
    cases j.climb with
    | none=>exact Nat.zero_le _
    | some c=>show ClimbM.rk c<=2;unfold ClimbM.rk;repeat' split
              all_goals decide
   split<;>omega
theorem JobM.ok_of {n:Int} {hd:Bool} {j:JobM} (h:j.WF n hd):j.ok=true:=by
 cases j with
 | vau j =>
   obtain⟨h,_⟩:=h
   show okVa j=true
   have a:∀{x y:Bool},x=true->y=true->andB x y=true:=fun {x y} h1 h2=>by rw [h1,h2];rfl
   have o1:∀{x y:Bool},x=true->orB x y=true:=fun {x y} h1=>by rw [h1];rfl
   have o2:∀{x y:Bool},y=true->orB x y=true:=fun {x y} h1=>by rw [h1];cases x<;>rfl
   refine a (decide_eq_true h.key) (a (decide_eq_true h.kd) (a (decide_eq_true h.child) ?_))
   have hw:=h.wb
   have hc:=h.wc
   have hp:=h.pc
   generalize j.pc=pc at hw hc hp
   rcases hp with rfl | rfl | rfl | rfl | rfl | rfl | rfl | rfl | rfl | rfl | rfl | rfl | rfl | rfl | rfl | rfl | rfl
   all_goals first
    | exact o1 (by decide)
    | exact o2 (o1 (a (by decide) (hw rfl)))
    | exact o2 (o2 (a (by decide) (hc (by decide))))
 | ste j =>
   obtain⟨h,_⟩:=h
   show okSte j=true
   unfold okSte
   split
   ·exact decide_eq_true h.kd
   ·rename_i c hc
    have hl:=(h.cl c hc).lv
    rw [show okClimb c=true from decide_eq_true (by omega)]
    exact decide_eq_true h.kd
 | _=>rfl
structure JNext (n:Int) (hd:Bool) (r0:Nat) (r:Cl×JobM):Prop where
 res:r.1.kind=12 \/ ClB n hd r.1
 nk:r.1.kind≠12->ClOk n r.1
 wf:r.2.WF n hd
 rk:imm r.1->r.2.rk < r0
 aw:r.2.aw r.1
theorem jnext_wf {n:Int} (h0:0<=n) {hd:Bool} {j:JobM} (h:j.WF n hd) {c:Cl} (ha:j.aw c) {x:Rp1} (hr:RpFor n hd c x):JNext n hd j.rk (j.next x):=by
 have cb:∀{c:Cl},hd=false->Res n c->(c.kind=12 \/ ClB n hd c):=fun {c} e h=>h.elim .inl fun h=>.inr (.inl ⟨h,fun e2=>by rw [e] at e2;cases e2⟩)
 have nk:∀{c:Cl},Res n c->c.kind≠12->ClOk n c:=fun {c} h e=>h.elim (fun h=>absurd h e) id
 cases j with
 | pile j=>have hn:=pile_wf h0 h.1 hr.w;exact⟨cb h.2 hn.res,nk hn.res,⟨hn.wf,h.2⟩,hn.rk,trivial⟩
 | cort j =>
   obtain⟨h,rfl⟩:=h
   have hn:=cort_wf h0 h ha hr
   exact⟨hn.res.elim .inl fun h=>.inr (.inl ⟨h,fun _=>hn.aw.2⟩),nk hn.res,⟨hn.wf,rfl⟩,hn.rk,hn.aw.1⟩
 | lit j=>have hn:=lit_wf h0 h.1 ha hr;exact⟨cb h.2 hn.res,nk hn.res,⟨hn.wf,h.2⟩,hn.rk,hn.aw⟩
 | vau j=>have hn:=vau_wf h0 h.1 ha hr;exact⟨cb h.2 hn.res,nk hn.res,⟨hn.wf,h.2⟩,hn.rk,hn.aw⟩
 | ste j=>have hn:=ste_wf h0 h.1 ha hr;exact⟨cb h.2 hn.res,nk hn.res,⟨hn.wf,h.2⟩,hn.rk,hn.aw⟩
structure VerM.WF (n:Int) (K:Nat) (v:VerM):Prop where
 kj:okKj v
 dg:0<=v.doing /\ v.doing<=4
 rite:v.rite.WF n (v.sort==2) K
 call:v.rite.step≠0->v.rite.call=v.call
 idle:v.doing=0->v.rite.step=0
 job:(v.doing=1 \/ v.doing=2)->∃j,v.job=some j /\ j.WF n (v.sort==2) /\ j.aw v.call /\ (v.rite.step=0->RpFor n (v.sort==2) v.call v.rite.reply)
def VerM.rest (v:VerM):Prop:=v.doing=0 \/ v.rite.step≠0
def needA (v:VerM):Nat:=if v.doing=0 \/ v.rite.step≠0 then 1 else if v.doing=1 \/ v.doing=2 then(match v.job with | some j=>j.rk+4 | none=>0) else 2
theorem needA_rest {v:VerM} (h:v.doing=0 \/ v.rite.step≠0):needA v=1:=if_pos h
theorem kj_of {v w:VerM} (h:okKj v) (hs:w.sort=v.sort) (hk:kindJ w=kindJ v):okKj w:=by
 obtain⟨a,b,c⟩:=h
 exact⟨by rw [hs];exact a,by rw [hs];exact b,by rw [hk,hs];exact c⟩
theorem begin_busy {n:Int} {m:RiteM} {c:Cl} (h:ClOk n c) (hi:¬imm c):(beginM m c).step≠0:=by
 unfold imm at hi
 have hk:c.kind=3 \/ c.kind=4 \/ c.kind=5 \/ c.kind=6 \/ c.kind=8 \/ c.kind=9:=by
  rcases h.2.2 with⟨h,_⟩ | ⟨h,_⟩ | ⟨h,_⟩ | h | ⟨h,_⟩<;>omega
 unfold beginM rOpenA
 rw [if_neg (by omega),if_neg (by omega)]
 unfold rOpen
 rw [if_neg (by omega),if_neg (by omega)]
 by_cases k3:c.kind=3
 ·rw [if_pos k3];show (1:Int)≠0;decide
 rw [if_neg k3]
 by_cases k4:c.kind=4
 ·rw [if_pos k4];show (1:Int)≠0;decide
 rw [if_neg k4]
 by_cases k5:c.kind=5
 ·rw [if_pos k5];show (1:Int)≠0;decide
 rw [if_neg k5]
 by_cases k6:c.kind=6
 ·rw [if_pos k6];show (5:Int)≠0;decide
 rw [if_neg k6,if_neg (by omega)]
 by_cases k8:c.kind=8
 ·rw [if_pos k8]
  split
  ·show (8:Int)≠0;decide
  ·show (1:Int)≠0;decide
 rw [if_neg k8,if_pos (by omega)]
 show (2:Int)≠0;decide
theorem round_wf {n:Int} (h0:0<=n) {K:Nat} (hK:K<=100000) {v:VerM} (h:v.WF n K):(v.rest /\ (stepAd v).val=some (.exit 0,v)) \/ (¬v.rest /\ ∃v',(stepAd v).val=some (.normal,v') /\ v'.WF n (K+1) /\ v'.sort=v.sort /\ needA v' < needA v):=by
 by_cases hr:v.rest
 ·refine .inl ⟨hr,?_⟩
  unfold stepAd adRound
  rcases hr with h1 | h1
  ·rw [show ((v.doing != 0)==true)=false by rw [h1];rfl];rfl
  ·cases (v.doing != 0)==true with
   | false=>rfl
   | true =>
     have hb:busyM v.rite=true:=by unfold busyM;simpa using h1
     rw [hb];rfl
 ·have hr2:¬(v.doing=0 \/ v.rite.step≠0):=hr
  have hd:v.doing≠0:=fun e=>hr (.inl e)
  have hs:v.rite.step=0:=by
   by_cases e:v.rite.step=0
   ·exact e
   ·exact absurd (.inr e) hr
  have e1:((v.doing != 0)==true)=true:=by simpa using hd
  have e2:busyM v.rite=false:=by unfold busyM;rw [hs];rfl
  refine .inr ⟨hr,?_⟩
  by_cases hj:v.doing=1 \/ v.doing=2
  ·obtain⟨j,ej,hjw,haw,hrp⟩:=h.job hj
   have hn:=jnext_wf h0 hjw haw (hrp hs)
   have hk:=h.rite
   have need0:needA v=j.rk+4:=by unfold needA;rw [if_neg hr2,if_pos hj,ej]
   have eround:(stepAd v).val=(adCall tI tN tLf adF v (j.next v.rite.reply)).val:=by
    unfold stepAd adRound
    rw [e1,e2,ej]
    rcases hj with hj | hj
    ·rw [hj];exact nv (JobM.ok_of hjw)
    ·rw [hj];exact nv (JobM.ok_of hjw)
   have hkn:∀(d:Int) (c:Cl) (r:RiteM) (a:An),okKj {v with doing:=d,call:=c,rite:=r,job:=some (j.next v.rite.reply).2,answer:=a}:=fun d c r a=>by
    refine kj_of h.kj rfl ?_
    show kindJ {v with doing:=d,call:=c,rite:=r,job:=some (j.next v.rite.reply).2,answer:=a}=kindJ v
    have:kindJ v=kindJ {v with job:=some j}:=by rw [<- ej]
    rw [this,<- next_kind j v.rite.reply v]
    rfl
   generalize j.next v.rite.reply=nx at hn eround hkn
   cases hk12:nx.1.kind != 12 with
   | true =>
     have hne:nx.1.kind≠12:=by simpa using hk12
     have hcb:ClB n (v.sort==2) nx.1:=hn.res.elim (fun e=>absurd e hne) id
     obtain⟨ob,rr⟩:=begin_wf h0 hk hs hcb hK
     have ev:(adCall tI tN tLf adF v nx).val=some (.normal,{v with doing:=2,call:=nx.1,rite:=beginM v.rite nx.1,job:=some nx.2}):=by
      unfold adCall
      rw [hk12]
      exact nv ob
     refine⟨_,eround.trans ev,⟨hkn 2 nx.1 _ v.answer,⟨by show (0:Int)<=2;decide,by show (2:Int)<=4;decide⟩,rr.wf,rr.on,fun e=>absurd (show (2:Int)=0 from e) (by decide),fun _=>⟨nx.2,rfl,hn.wf,hn.aw,rr.off⟩⟩,rfl,?_⟩
     rw [need0]
     by_cases hb:(beginM v.rite nx.1).step=0
     ·have him:imm nx.1:=by
       by_cases hi:imm nx.1
       ·exact hi
       ·exact absurd hb (begin_busy (hn.nk hne) hi)
      have:=hn.rk him
      unfold needA
      rw [if_neg (fun e=>e.elim (fun e=>absurd (show (2:Int)=0 from e) (by decide)) fun e=>e hb),if_pos (.inr rfl)]
      show nx.2.rk+4 < j.rk+4
      omega
     ·rw [needA_rest (.inr hb)];omega
   | false =>
     obtain⟨ob,rr⟩:=begin_wf (c:=clLeave) h0 hk hs (.inr (.inr (.inl rfl))) hK
     have ev:(adCall tI tN tLf adF v nx).val=some (.normal,{v with answer:=nx.1.ans,doing:=3,call:=clLeave,rite:=beginM v.rite clLeave,job:=some nx.2}):=by
      unfold adCall
      rw [hk12]
      exact nv ob
     refine⟨_,eround.trans ev,⟨hkn 3 clLeave _ nx.1.ans,⟨by show (0:Int)<=3;decide,by show (3:Int)<=4;decide⟩,rr.wf,rr.on,fun e=>absurd (show (3:Int)=0 from e) (by decide),fun e=>absurd (show (3:Int)=1 \/ (3:Int)=2 from e) (by decide)⟩,rfl,?_⟩
     rw [need0]
     unfold needA
     split
     ·omega
     ·rw [if_neg (show ¬((3:Int)=1 \/ (3:Int)=2) by decide)];omega
  ·have ev:(stepAd v).val=some (.normal,{v with doing:=0}):=by
    unfold stepAd adRound
    rw [e1,e2,show (v.doing==1)=false by simpa using fun e=>hj (.inl e),show (v.doing==2)=false by simpa using fun e=>hj (.inr e)]
    rfl
   refine⟨_,ev,⟨kj_of h.kj rfl rfl,⟨by show (0:Int)<=0;decide,by show (0:Int)<=4;decide⟩,⟨B.mono h.rite.b (by omega),h.rite.call,h.rite.acc,h.rite.st⟩,h.call,fun _=>hs,fun e=>absurd (show (0:Int)=1 \/ (0:Int)=2 from e) (by decide)⟩,rfl,?_⟩
   rw [needA_rest (.inl rfl)]
   unfold needA
   rw [if_neg hr2,if_neg hj];omega
theorem advance_wf {n:Int} (h0:0<=n):∀(k:Nat) {K:Nat} {v:VerM},K+k<=100000->v.WF n K->needA v<=k->∃v',iter stepAd k v=some (.exit 0,v') /\ v'.WF n (K+k) /\ v'.rest /\ v'.sort=v.sort
 | 0,K,v,hK,h,hn=>by
   exfalso
   have:needA v=0:=by omega
   unfold needA at this
   split at this
   ·cases this
   ·split at this
    ·rename_i hj
     obtain⟨j,ej,_⟩:=h.job hj
     rw [ej] at this
     have this:j.rk+4=0:=this
     omega
    ·cases this
 | k+1,K,v,hK,h,hn=>by
   rcases round_wf h0 (by omega) h with⟨hr,e⟩ | ⟨_,v',e,hw,hso,hlt⟩
   ·refine⟨v,by rw [iter,e],⟨h.kj,h.dg,⟨B.mono h.rite.b (by omega),h.rite.call,h.rite.acc,h.rite.st⟩,h.call,h.idle,h.job⟩,hr,rfl⟩
   ·obtain⟨v2,e2,w2,r2,s2⟩:=advance_wf h0 k (by omega) hw (by omega)
    exact⟨v2,by rw [iter,e];exact e2,by rw [show K+(k+1)=K+1+k by omega];exact w2,r2,s2.trans hso⟩
theorem needA_le {v:VerM}:needA v<=fuelA:=by
 unfold needA fuelA
 split
 ·decide
 ·split
  ·split
   ·rename_i j _
    have:=JobM.rk_le j;omega
   ·decide
  ·decide
theorem adv_wf {n:Int} (h0:0<=n) {K:Nat} {v:VerM} (hK:K+16<=100000) (h:v.WF n K):okAd v=true /\ (advM v).WF n (K+16) /\ (advM v).rest /\ (advM v).sort=v.sort:=by
 obtain⟨v',e,w,r,so⟩:=advance_wf h0 fuelA (by show K+16<=_;exact hK) h needA_le
 have e2:advI v=some (.exit 0,v'):=e
 have e3:advM v=v':=by unfold advM;rw [e2]
 refine⟨by unfold okAd;rw [e2];rfl,?_⟩
 rw [e3];exact⟨w,r,so⟩
theorem next_ok {n:Int} {K:Nat} {v:VerM} (h:v.WF n K) (hr:v.rest) (hb:v.doing≠0):v.rite.step≠0 /\ (nextM v.rite).1=v.rite.acc /\ AcOk n (v.sort==2) v.rite.acc:=by
 have hs:v.rite.step≠0:=hr.elim (fun e=>absurd e hb) id
 refine⟨hs,?_,h.rite.acc hs⟩
 unfold nextM busyM
 rw [show (v.rite.step==0)=false by simpa using hs]
 rfl
theorem stpV1_wf {n:Nat} {K:Nat} {v:VerM} {p:PlotM} (hK:K<=100000) (h:v.WF n K) (hr:v.rest) (hb:v.doing≠0) (hp:p.WF n) (hd:Hd (v.sort==2) p) :
 okTk v.rite=true /\ (stpV1 v p).WF n (K+1) /\ p.valid (nextM v.rite).1 /\ (p.access (nextM v.rite).1).2.WF n /\ Hd (v.sort==2) (p.access (nextM v.rite).1).2:=by
 obtain⟨hs,ea,ha⟩:=next_ok h hr hb
 have hv:=ha.valid hp
 have hx:=access_wf hp hd hv ha.w ha.h
 rw [ea]
 obtain⟨ot,rr⟩:=took_wf (by omega) h.rite hs ⟨hx.w,hx.al,hx.ld⟩ hK
 refine⟨ot,?_,hv,hx.wf,hx.h0⟩
 unfold stpV1
 rw [ea]
 rw [h.call hs] at rr
 refine⟨kj_of h.kj rfl rfl,h.dg,rr.wf,rr.on,fun e=>absurd e hb,fun hj=>?_⟩
 obtain⟨j,ej,hjw,haw,_⟩:=h.job hj
 exact⟨j,ej,hjw,haw,rr.off⟩
theorem stp_wf {n:Nat} {K:Nat} {v:VerM} {p:PlotM} (hK:K+17<=100000) (h:v.WF n K) (hr:v.rest) (hb:v.doing≠0) (hp:p.WF n) (hd:Hd (v.sort==2) p) :
 okStp v p /\ p.valid (nextM v.rite).1 /\ (stepM v p).2.1.WF n (K+17) /\ (stepM v p).2.1.rest /\ (stepM v p).2.1.sort=v.sort /\ (stepM v p).2.2.WF n /\ Hd (v.sort==2) (stepM v p).2.2:=by
 obtain⟨h1,h2,h3,h4,h5⟩:=stpV1_wf (by omega) h hr hb hp hd
 obtain⟨a1,a2,a3,a4⟩:=adv_wf (by omega) (K:=K+1) (by omega) h2
 have e:(stepM v p).2=(advM (stpV1 v p),(p.access (nextM v.rite).1).2):=by
  unfold stepM stpReal stpFin
  have c:∀{b:Bool} {x y:Strd×VerM×PlotM} {q:VerM×PlotM},x.2=q->y.2=q->(cond b x y).2=q:=fun {b x y q} h1 h2=>by cases b<;>assumption
  repeat' first | exact rfl | apply c
 rw [e]
 exact⟨⟨h1,a1⟩,h3,a2,a3,a4,h4,h5⟩
end Go.Proofs.YtcpdipfepeccgaaGreatDoor
