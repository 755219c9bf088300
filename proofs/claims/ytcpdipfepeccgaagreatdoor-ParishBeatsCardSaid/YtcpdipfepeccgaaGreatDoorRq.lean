import Derived.Test.YtcpdipfepeccgaaGreatDoorSc
set_option linter.unusedVariables false
set_option linter.unusedSimpArgs false
set_option maxHeartbeats 4000000
namespace Go.Proofs.YtcpdipfepeccgaaGreatDoor
open Go Go.Sx Go.Proofs
set_option maxRecDepth 100000
set_option maxHeartbeats 4000000
theorem jI {n:Int}:AOk n fc:=.inl ⟨rfl,rfl,by decide,by decide⟩
theorem vM {n:Int} {pc0:Int} {a:Ad×Int} {r:(Cl×Bool)×WalkM} (h:WalkOk n pc0 (eY a).rk r) (hb:r.1.2=true):¬imm r.1.1:=fun hi=>Nat.not_lt_zero _ (h.rk hb hi)
theorem ic {n:Int} {w:WalkM} (h:w.WF n) (hb:(!w.found)=false):1<=w.cur.slot:=(h.fd (by cases hf:w.found with | true=>rfl | false=>rw [hf] at hb;cases hb)).2
theorem B8 {n:Int} (h0:0<=n) {j:LitM} (h:j.WF n) {hd:Bool} {c:Cl} (ha:j.aw c) {x:Rp1} (hr:RpFor n hd c x):UE n j.rk (dC j x):=by
 obtain⟨pc,last,start,key,⟨kd,ky,val,tall⟩,wk,node,v⟩:=j
 obtain⟨_,hs,hp,hl,hn,hnd,hw,hcz⟩:=h
 dsimp only [LitM.aw] at hs hp hl hn hnd hw hcz ha
 have hx:WOk n x.w:=hr.w
 have nx:0<=x.w.slot:=hx.1
 have hnk:=xz h0 (nL h0 hs key) hx
 have al:kd=6->pc=1->x.ok=true->1<=x.w.slot:=fun h6 h=>hr.al (ha h6 h)
 unfold dC Ac
 dsimp only [id]
 cases wk with
 | none =>
   dsimp only
   generalize bz (eY (start,key)) x=r1 at hnk ⊢
   obtain⟨⟨c1,b1⟩,w1⟩:=r1
   rcases hp with⟨rfl,hp⟩ | ⟨rfl,hp⟩ | ⟨rfl,hp⟩
   ·rcases hp with rfl | rfl | rfl | rfl | rfl | rfl | rfl | rfl | rfl
    all_goals dsimp only
    all_goals (repeat' (refine cJ (fun hb=>?_) (fun hb=>?_)<;>first | (exact absurd hb (by decide)) | skip))
    all_goals refine⟨?_,⟨?_,?_,?_,?_,?_,?_,?_,?_⟩,?_,?_⟩
    all_goals dsimp only [LitM.rk,LitM.aw]
    all_goals first
     | exact .inl rfl
     | exact .inl (hl rfl)
     | exact .inr (da h0)
     | exact .inr (hnk.on (by assumption))
     | exact eQ hnk.wf
     | exact .inr (aE h0 (ai hnk.wf.cur (by decide) (by decide)))
     | exact .inr (az h0 (ai hn (by decide) (by decide)) (aV hnk.wf.cur))
     | exact fun _ _=>⟨_,rfl,ic hnk.wf (by assumption)⟩
     | exact .inr (az h0 (ai (by assumption) (by decide) (by decide)) (dj h0 _))
     | exact .inr (az h0 (ai (by assumption) (by decide) (by decide)) (aV (ao h0)))
     | exact .inr (fx h0 hn (hnd rfl (by decide)))
     | exact .inr (aK jI (ao h0) (bI hn))
     | exact .inr (aE h0 (ai (ao h0) (by decide) (by decide)))
     | exact .inr (aK (ai (ao h0) (by decide) (by decide)) (ao h0) (eZ (ao h0)))
     | exact(hcz rfl (by decide)).elim fun w0 h=>by cases h.1
     | assumption
     | exact .inl rfl
     | exact .inr (.inl rfl)
     | exact .inr (.inr rfl)
     | decide
     | exact fun h=>absurd h (by decide)
     | exact fun _=>rfl
     | exact fun _ _=>rfl
     | exact fun h _=>absurd h (by decide)
     | exact fun _ h=>absurd h (by decide)
     | exact fun _ _=>hnd rfl (by decide)
     | exact fun _ _=>al rfl rfl (by have hq:=‹(!x.ok)=false›;revert hq;cases x.ok<;>decide)
     | exact fun _ _=>hcz rfl (by decide)
     | exact l9
     | exact fun h=>absurd h bT
     | exact fun h=>absurd h cR
     | exact fun h=>absurd h cE
     | exact fun h=>absurd h dM
     | exact fun h=>absurd h eN
     | exact fun h=>absurd h fM
     | exact fun h=>absurd h (dP (hl rfl) (by decide) (by decide))
     | exact fun h=>absurd h (vM hnk (by assumption))
     | exact fun _=>(by simp)
     | skip
   ·rcases hp with rfl | rfl | rfl | rfl | rfl | rfl | rfl | rfl
    all_goals dsimp only
    all_goals (repeat' (refine cJ (fun hb=>?_) (fun hb=>?_)<;>first | (exact absurd hb (by decide)) | skip))
    all_goals refine⟨?_,⟨?_,?_,?_,?_,?_,?_,?_,?_⟩,?_,?_⟩
    all_goals dsimp only [LitM.rk,LitM.aw]
    all_goals first
     | exact .inl rfl
     | exact .inl (hl rfl)
     | exact .inr (da h0)
     | exact .inr (hnk.on (by assumption))
     | exact eQ hnk.wf
     | exact .inr (aE h0 (ai hnk.wf.cur (by decide) (by decide)))
     | exact .inr (az h0 (ai hn (by decide) (by decide)) (aV hnk.wf.cur))
     | exact fun _ _=>⟨_,rfl,ic hnk.wf (by assumption)⟩
     | exact .inr (az h0 (ai (by assumption) (by decide) (by decide)) (dj h0 _))
     | exact .inr (az h0 (ai (by assumption) (by decide) (by decide)) (aV (ao h0)))
     | exact .inr (fx h0 hn (hnd rfl (by decide)))
     | exact .inr (aK jI (ao h0) (bI hn))
     | exact .inr (aE h0 (ai (ao h0) (by decide) (by decide)))
     | exact .inr (aK (ai (ao h0) (by decide) (by decide)) (ao h0) (eZ (ao h0)))
     | exact(hcz rfl (by decide)).elim fun w0 h=>by cases h.1
     | assumption
     | exact .inl rfl
     | exact .inr (.inl rfl)
     | exact .inr (.inr rfl)
     | decide
     | exact fun h=>absurd h (by decide)
     | exact fun _=>rfl
     | exact fun _ _=>rfl
     | exact fun h _=>absurd h (by decide)
     | exact fun _ h=>absurd h (by decide)
     | exact fun _ _=>hnd rfl (by decide)
     | exact fun _ _=>al rfl rfl (by have hq:=‹(!x.ok)=false›;revert hq;cases x.ok<;>decide)
     | exact fun _ _=>hcz rfl (by decide)
     | exact l9
     | exact fun h=>absurd h bT
     | exact fun h=>absurd h cR
     | exact fun h=>absurd h cE
     | exact fun h=>absurd h dM
     | exact fun h=>absurd h eN
     | exact fun h=>absurd h fM
     | exact fun h=>absurd h (dP (hl rfl) (by decide) (by decide))
     | exact fun h=>absurd h (vM hnk (by assumption))
     | exact fun _=>(by simp)
     | skip
   ·rcases hp with rfl | rfl | rfl | rfl
    all_goals dsimp only
    all_goals (repeat' (refine cJ (fun hb=>?_) (fun hb=>?_)<;>first | (exact absurd hb (by decide)) | skip))
    all_goals refine⟨?_,⟨?_,?_,?_,?_,?_,?_,?_,?_⟩,?_,?_⟩
    all_goals dsimp only [LitM.rk,LitM.aw]
    all_goals first
     | exact .inl rfl
     | exact .inl (hl rfl)
     | exact .inr (da h0)
     | exact .inr (hnk.on (by assumption))
     | exact eQ hnk.wf
     | exact .inr (aE h0 (ai hnk.wf.cur (by decide) (by decide)))
     | exact .inr (az h0 (ai hn (by decide) (by decide)) (aV hnk.wf.cur))
     | exact fun _ _=>⟨_,rfl,ic hnk.wf (by assumption)⟩
     | exact .inr (az h0 (ai (by assumption) (by decide) (by decide)) (dj h0 _))
     | exact .inr (az h0 (ai (by assumption) (by decide) (by decide)) (aV (ao h0)))
     | exact .inr (fx h0 hn (hnd rfl (by decide)))
     | exact .inr (aK jI (ao h0) (bI hn))
     | exact .inr (aE h0 (ai (ao h0) (by decide) (by decide)))
     | exact .inr (aK (ai (ao h0) (by decide) (by decide)) (ao h0) (eZ (ao h0)))
     | exact(hcz rfl (by decide)).elim fun w0 h=>by cases h.1
     | assumption
     | exact .inl rfl
     | exact .inr (.inl rfl)
     | exact .inr (.inr rfl)
     | decide
     | exact fun h=>absurd h (by decide)
     | exact fun _=>rfl
     | exact fun _ _=>rfl
     | exact fun h _=>absurd h (by decide)
     | exact fun _ h=>absurd h (by decide)
     | exact fun _ _=>hnd rfl (by decide)
     | exact fun _ _=>al rfl rfl (by have hq:=‹(!x.ok)=false›;revert hq;cases x.ok<;>decide)
     | exact fun _ _=>hcz rfl (by decide)
     | exact l9
     | exact fun h=>absurd h bT
     | exact fun h=>absurd h cR
     | exact fun h=>absurd h cE
     | exact fun h=>absurd h dM
     | exact fun h=>absurd h eN
     | exact fun h=>absurd h fM
     | exact fun h=>absurd h (dP (hl rfl) (by decide) (by decide))
     | exact fun h=>absurd h (vM hnk (by assumption))
     | exact fun _=>(by simp)
     | skip
 | some w =>
   have hww:=hw w rfl
   have hwk:=xz h0 hww hx
   dsimp only
   generalize bz w x=r2 at hwk ⊢
   obtain⟨⟨c2,b2⟩,w2⟩:=r2
   generalize bz (eY (start,key)) x=r1 at hnk ⊢
   obtain⟨⟨c1,b1⟩,w1⟩:=r1
   rcases hp with⟨rfl,hp⟩ | ⟨rfl,hp⟩ | ⟨rfl,hp⟩
   ·rcases hp with rfl | rfl | rfl | rfl | rfl | rfl | rfl | rfl | rfl
    all_goals dsimp only
    all_goals (repeat' (refine cJ (fun hb=>?_) (fun hb=>?_)<;>first | (exact absurd hb (by decide)) | skip))
    all_goals refine⟨?_,⟨?_,?_,?_,?_,?_,?_,?_,?_⟩,?_,?_⟩
    all_goals dsimp only [LitM.rk,LitM.aw]
    all_goals first
     | exact .inl rfl
     | exact .inl (hl rfl)
     | exact .inr (da h0)
     | exact .inr (hwk.on (by assumption))
     | exact eQ hwk.wf
     | exact .inr (aE h0 (ai hwk.wf.cur (by decide) (by decide)))
     | exact .inr (az h0 (ai hn (by decide) (by decide)) (aV hwk.wf.cur))
     | exact fun _ _=>⟨_,rfl,ic hwk.wf (by assumption)⟩
     | exact .inr (hnk.on (by assumption))
     | exact eQ hnk.wf
     | exact .inr (aE h0 (ai hnk.wf.cur (by decide) (by decide)))
     | exact .inr (az h0 (ai hn (by decide) (by decide)) (aV hnk.wf.cur))
     | exact fun _ _=>⟨_,rfl,ic hnk.wf (by assumption)⟩
     | exact .inr (az h0 (ai (by assumption) (by decide) (by decide)) (dj h0 _))
     | exact .inr (az h0 (ai (by assumption) (by decide) (by decide)) (aV (ao h0)))
     | exact .inr (fx h0 hn (hnd rfl (by decide)))
     | exact .inr (aK hww.prev hww.cur (bI hn))
     | exact .inr (aK hww.prev hww.cur (bI hww.next))
     | exact .inr (aK (ai hww.cur (by decide) (by decide)) hww.next (eZ hww.next))
     | exact .inr (dx h0 hww.cur ((hcz rfl (by decide)).elim fun w0 h=>by cases h.1;exact h.2))
     | exact .inr (aE h0 (ai hww.cur (by decide) (by decide)))
     | assumption
     | exact .inl rfl
     | exact .inr (.inl rfl)
     | exact .inr (.inr rfl)
     | decide
     | exact fun h=>absurd h (by decide)
     | exact fun _=>rfl
     | exact fun _ _=>rfl
     | exact fun h _=>absurd h (by decide)
     | exact fun _ h=>absurd h (by decide)
     | exact fun _ _=>hnd rfl (by decide)
     | exact fun _ _=>al rfl rfl (by have hq:=‹(!x.ok)=false›;revert hq;cases x.ok<;>decide)
     | exact fun _ _=>hcz rfl (by decide)
     | exact l9
     | exact fun h=>absurd h bT
     | exact fun h=>absurd h cR
     | exact fun h=>absurd h cE
     | exact fun h=>absurd h dM
     | exact fun h=>absurd h eN
     | exact fun h=>absurd h fM
     | exact fun h=>absurd h (dP (hl rfl) (by decide) (by decide))
     | exact fun h=>absurd h (vM hnk (by assumption))
     | exact fun h=>(by have hq:=hwk.rk (by assumption) h;simp [wrk];exact hq)
     | exact fun _=>(by simp)
     | skip
   ·rcases hp with rfl | rfl | rfl | rfl | rfl | rfl | rfl | rfl
    all_goals dsimp only
    all_goals (repeat' (refine cJ (fun hb=>?_) (fun hb=>?_)<;>first | (exact absurd hb (by decide)) | skip))
    all_goals refine⟨?_,⟨?_,?_,?_,?_,?_,?_,?_,?_⟩,?_,?_⟩
    all_goals dsimp only [LitM.rk,LitM.aw]
    all_goals first
     | exact .inl rfl
     | exact .inl (hl rfl)
     | exact .inr (da h0)
     | exact .inr (hwk.on (by assumption))
     | exact eQ hwk.wf
     | exact .inr (aE h0 (ai hwk.wf.cur (by decide) (by decide)))
     | exact .inr (az h0 (ai hn (by decide) (by decide)) (aV hwk.wf.cur))
     | exact fun _ _=>⟨_,rfl,ic hwk.wf (by assumption)⟩
     | exact .inr (hnk.on (by assumption))
     | exact eQ hnk.wf
     | exact .inr (aE h0 (ai hnk.wf.cur (by decide) (by decide)))
     | exact .inr (az h0 (ai hn (by decide) (by decide)) (aV hnk.wf.cur))
     | exact fun _ _=>⟨_,rfl,ic hnk.wf (by assumption)⟩
     | exact .inr (az h0 (ai (by assumption) (by decide) (by decide)) (dj h0 _))
     | exact .inr (az h0 (ai (by assumption) (by decide) (by decide)) (aV (ao h0)))
     | exact .inr (fx h0 hn (hnd rfl (by decide)))
     | exact .inr (aK hww.prev hww.cur (bI hn))
     | exact .inr (aK hww.prev hww.cur (bI hww.next))
     | exact .inr (aK (ai hww.cur (by decide) (by decide)) hww.next (eZ hww.next))
     | exact .inr (dx h0 hww.cur ((hcz rfl (by decide)).elim fun w0 h=>by cases h.1;exact h.2))
     | exact .inr (aE h0 (ai hww.cur (by decide) (by decide)))
     | assumption
     | exact .inl rfl
     | exact .inr (.inl rfl)
     | exact .inr (.inr rfl)
     | decide
     | exact fun h=>absurd h (by decide)
     | exact fun _=>rfl
     | exact fun _ _=>rfl
     | exact fun h _=>absurd h (by decide)
     | exact fun _ h=>absurd h (by decide)
     | exact fun _ _=>hnd rfl (by decide)
     | exact fun _ _=>al rfl rfl (by have hq:=‹(!x.ok)=false›;revert hq;cases x.ok<;>decide)
     | exact fun _ _=>hcz rfl (by decide)
     | exact l9
     | exact fun h=>absurd h bT
     | exact fun h=>absurd h cR
     | exact fun h=>absurd h cE
     | exact fun h=>absurd h dM
     | exact fun h=>absurd h eN
     | exact fun h=>absurd h fM
     | exact fun h=>absurd h (dP (hl rfl) (by decide) (by decide))
     | exact fun h=>absurd h (vM hnk (by assumption))
     | exact fun h=>(by have hq:=hwk.rk (by assumption) h;simp [wrk];exact hq)
     | exact fun _=>(by simp)
     | skip
   ·rcases hp with rfl | rfl | rfl | rfl
    all_goals dsimp only
    all_goals (repeat' (refine cJ (fun hb=>?_) (fun hb=>?_)<;>first | (exact absurd hb (by decide)) | skip))
    all_goals refine⟨?_,⟨?_,?_,?_,?_,?_,?_,?_,?_⟩,?_,?_⟩
    all_goals dsimp only [LitM.rk,LitM.aw]
    all_goals first
     | exact .inl rfl
     | exact .inl (hl rfl)
     | exact .inr (da h0)
     | exact .inr (hwk.on (by assumption))
     | exact eQ hwk.wf
     | exact .inr (aE h0 (ai hwk.wf.cur (by decide) (by decide)))
     | exact .inr (az h0 (ai hn (by decide) (by decide)) (aV hwk.wf.cur))
     | exact fun _ _=>⟨_,rfl,ic hwk.wf (by assumption)⟩
     | exact .inr (hnk.on (by assumption))
     | exact eQ hnk.wf
     | exact .inr (aE h0 (ai hnk.wf.cur (by decide) (by decide)))
     | exact .inr (az h0 (ai hn (by decide) (by decide)) (aV hnk.wf.cur))
     | exact fun _ _=>⟨_,rfl,ic hnk.wf (by assumption)⟩
     | exact .inr (az h0 (ai (by assumption) (by decide) (by decide)) (dj h0 _))
     | exact .inr (az h0 (ai (by assumption) (by decide) (by decide)) (aV (ao h0)))
     | exact .inr (fx h0 hn (hnd rfl (by decide)))
     | exact .inr (aK hww.prev hww.cur (bI hn))
     | exact .inr (aK hww.prev hww.cur (bI hww.next))
     | exact .inr (aK (ai hww.cur (by decide) (by decide)) hww.next (eZ hww.next))
     | exact .inr (dx h0 hww.cur ((hcz rfl (by decide)).elim fun w0 h=>by cases h.1;exact h.2))
     | exact .inr (aE h0 (ai hww.cur (by decide) (by decide)))
     | assumption
     | exact .inl rfl
     | exact .inr (.inl rfl)
     | exact .inr (.inr rfl)
     | decide
     | exact fun h=>absurd h (by decide)
     | exact fun _=>rfl
     | exact fun _ _=>rfl
     | exact fun h _=>absurd h (by decide)
     | exact fun _ h=>absurd h (by decide)
     | exact fun _ _=>hnd rfl (by decide)
     | exact fun _ _=>al rfl rfl (by have hq:=‹(!x.ok)=false›;revert hq;cases x.ok<;>decide)
     | exact fun _ _=>hcz rfl (by decide)
     | exact l9
     | exact fun h=>absurd h bT
     | exact fun h=>absurd h cR
     | exact fun h=>absurd h cE
     | exact fun h=>absurd h dM
     | exact fun h=>absurd h eN
     | exact fun h=>absurd h fM
     | exact fun h=>absurd h (dP (hl rfl) (by decide) (by decide))
     | exact fun h=>absurd h (vM hnk (by assumption))
     | exact fun h=>(by have hq:=hwk.rk (by assumption) h;simp [wrk];exact hq)
     | exact fun _=>(by simp)
     | skip
end Go.Proofs.YtcpdipfepeccgaaGreatDoor

namespace Go.Proofs.YtcpdipfepeccgaaGreatDoor
open Go Go.Sx Go.Proofs
set_option maxRecDepth 100000
set_option maxHeartbeats 4000000
structure S3.Ok (n:Int) (s:S3):Prop where
 p0:AOk n s.p0
 c0:WOk n s.c0
 p1:AOk n s.p1
 c1:WOk n s.c1
 p2:AOk n s.p2
 c2:WOk n s.c2
theorem S3.put_ok {n:Int} {s:S3} (h:s.Ok n) {l:Int} {p:Ad} {c:W} (hp:AOk n p) (hc:WOk n c):(S3.put s l p c).Ok n:=by
 unfold S3.put
 split
 ·exact⟨hp,hc,h.p1,h.c1,h.p2,h.c2⟩
 ·split
  ·exact⟨h.p0,h.c0,hp,hc,h.p2,h.c2⟩
  ·exact⟨h.p0,h.c0,h.p1,h.c1,hp,hc⟩
structure ClimbM.WF (n:Int) (c:ClimbM):Prop where
 lv:c.level=0 \/ c.level=1 \/ c.level=2
 prev:AOk n c.prev
 cur:WOk n c.cur
 next:WOk n c.next
 spots:c.spots.Ok n
 found:WOk n c.found
 pc:c.pc=-1 \/ c.pc=0 \/ c.pc=2 \/ c.pc=3 \/ c.pc=4 \/ c.pc=5 \/ c.pc=6 \/ c.pc=7 \/ c.pc=8 \/ c.pc=9
 nz:(c.pc=3 \/ c.pc=4 \/ c.pc=5 \/ c.pc=6 \/ c.pc=7 \/ c.pc=8)->1<=c.cur.slot
def ClimbM.rk (c:ClimbM):Nat:=if c.pc=5 then 2 else if c.pc=2 \/ c.pc=6 \/ c.pc=7 then 1 else 0
structure ClimbOk (n:Int) (pc0:Int) (r0:Nat) (r:(Cl×Bool)×ClimbM):Prop where
 on:r.1.2=true->kR n r.1.1
 wf:r.2.WF n
 rk:r.1.2=true->imm r.1.1->r.2.rk < r0
 off:r.1.2=false->r.2.pc=-1
 st:pc0=0->r.1.2=true
theorem JT {n:Int} {a:Ad} (h:AOk n a) (hs:a.s≠0) {f:Int} (h0:0<=f) (h1:f < 10):AOk n {a with f:=f}:=by
 rcases h with⟨h,_⟩ | ⟨h2,h3,_⟩
 ·exact absurd h hs
 ·exact .inr ⟨h2,h3,h0,h1⟩
theorem uG {n:Int} (h0:0<=n) {c:ClimbM} (h:c.WF n) {x:Rp1} (hx:WOk n x.w):ClimbOk n c.pc c.rk (bF c x):=by
 obtain⟨pc,last,prev,cur,bound,level,next,k,spots,found⟩:=c
 obtain⟨hlv,hpv,hc,hn,hsp,hfo,hp,hz⟩:=h
 dsimp only at hlv hpv hc hn hsp hfo hp hz
 have nx:0<=x.w.slot:=hx.1
 have nn:0<=next.slot:=hn.1
 rcases hlv with rfl | rfl | rfl<;>rcases hp with rfl | rfl | rfl | rfl | rfl | rfl | rfl | rfl | rfl | rfl
 all_goals unfold bF iZ
 all_goals dsimp only [id]
 all_goals simp only [if_true,show ¬(1:Int)=0 by decide,show ¬(2:Int)=0 by decide,if_false]
 all_goals (repeat' (refine cJ (fun hb=>?_) (fun hb=>?_)<;>first | (exact absurd hb (by decide)) | skip))
 all_goals refine⟨?_,⟨?_,?_,?_,?_,?_,?_,?_,?_⟩,?_,?_,?_⟩
 all_goals dsimp only [ClimbM.rk]
 all_goals first
  | assumption
  | exact fun h=>absurd h (by decide)
  | decide
  | exact S3.put_ok hsp (by assumption) (by assumption)
  | exact fun _=>cv h0 (by assumption) (by decide) (by decide)
  | exact fun _=>cv h0 (cq (by decide) (by decide)) (by decide) (by decide)
  | exact fun _=>cv h0 (ai (by assumption) (by decide) (by decide)) (by decide) (by decide)
  | exact fun _=>aE h0 (ai (by assumption) (by decide) (by decide))
  | exact fun _=>aE h0 (by assumption)
  | exact fun _=>aK (by assumption) (by assumption) (bI (by assumption))
  | exact fun _=>xm h0 (by unfold rR;decide)
  | exact cq (by decide) (by decide)
  | exact ai (by assumption) (by decide) (by decide)
  | exact JT hpv (neI (by assumption)) (by decide) (by decide)
  | exact bI hn
  | exact aV (by assumption)
  | exact aV (bI hn)
  | exact S3.put_ok hsp hpv (bI hn)
  | exact fun _=>hz (by decide)
  | exact fun _=>(by have:=neI (by assumption:(x.w.slot==0)=false);omega)
  | exact fun _=>(by have:=neI (by assumption:(next.slot==0)=false);omega)
  | exact fun _=>(by have:=neI (by assumption:((wTo cur next).slot==0)=false);show 1<=next.slot;exact(by have h:next.slot≠0:=this;omega))
  | exact fun _ h=>absurd h bT
  | exact fun _ h=>absurd h cE
  | exact fun _ h=>absurd h gO
  | exact fun _=>rfl
  | exact fun _ _=>(by simp)
theorem q8 {n:Int} (h0:0<=n) (b:Int):(eK b).WF n :=
 ⟨.inl rfl,jI,ao h0,ao h0,⟨jI,ao h0,jI,ao h0,jI,ao h0⟩,ao h0,.inr (.inl rfl),fun h=>absurd h (by show ¬((0:Int)=3 \/ (0:Int)=4 \/ (0:Int)=5 \/ (0:Int)=6 \/ (0:Int)=7 \/ (0:Int)=8);decide)⟩
theorem gy {n:Int} (h0:0<=n) {c:ClimbM} (h:c.WF n) (l:Int):AOk n (eu c l).1 /\ WOk n (eu c l).2:=by
 unfold eu
 split
 ·exact⟨h.spots.p0,h.spots.c0⟩
 ·split
  ·exact⟨h.spots.p1,h.spots.c1⟩
  ·split
   ·exact⟨h.spots.p2,h.spots.c2⟩
   ·exact⟨jI,ao h0⟩
def T7 (c:Option ClimbM) (l:Int):Ad×W:=match c with | none=>(fc,aq) | some c=>eu c l
def crk:Option ClimbM->Nat
 | none=>0
 | some c=>c.rk
structure SteM.WF (n:Int) (j:SteM):Prop where
 kd:j.op.kind=6 \/ j.op.kind=7 \/ j.op.kind=8
 tall:j.op.kind=6->j.op.tall<=3
 pc:(j.op.kind=6 /\ (j.pc=-1 \/ j.pc=0 \/ j.pc=1 \/ j.pc=2 \/ j.pc=3 \/ j.pc=4 \/ j.pc=5 \/ j.pc=6 \/ j.pc=7 \/ j.pc=8 \/ j.pc=9 \/ j.pc=10 \/ j.pc=11 \/ j.pc=12)) \/ (j.op.kind=7 /\ (j.pc=-1 \/ j.pc=0 \/ j.pc=1 \/ j.pc=2 \/ j.pc=3 \/ j.pc=4 \/ j.pc=5 \/ j.pc=6)) \/ (j.op.kind=8 /\ (j.pc=-1 \/ j.pc=0 \/ j.pc=1 \/ j.pc=2)) \/ (j.pc=101 \/ j.pc=102 \/ j.pc=103 \/ j.pc=104)
 last:j.pc=-1->j.last.kind=12
 node:WOk n j.node
 nd:(j.op.kind=6 /\ 2<=j.pc) \/ (j.op.kind=7 /\ 2<=j.pc) \/ 101<=j.pc->1<=j.node.slot
 cl:∀c,j.climb=some c->c.WF n
 lv:(j.op.kind=6 /\ (j.pc=7 \/ j.pc=9 \/ j.pc=10 \/ j.pc=11 \/ j.pc=12)) \/ (j.op.kind=7 /\ (j.pc=3 \/ j.pc=4 \/ j.pc=5))->0<=j.level /\ j.level<=2
def SteM.aw (c:Cl) (j:SteM):Prop:=j.op.kind=6->j.pc=1->c.kind=8
def SteM.rk (j:SteM):Nat:=crk j.climb+if j.pc=103 then 1 else 0
def UD (n:Int) (r0:Nat) (r:Cl×SteM):Prop:=NextOk n r.1 (r.2.WF n) (r.2.aw r.1) r0 r.2.rk
theorem J9 {l:Int} (h0:0<=l+1) (h1:l<=2):bp l=l+1:=mV (by omega)
theorem fg {n:Int} {w:W} (h:WOk n w) {l:Int} (h0:0<=l) (h1:l<=2):AOk n (aY w (fA 2 l)):=by
 have e:fA 2 l=2+l:=mV (by omega)
 rw [e]
 exact ai h (by omega) (by omega)
end Go.Proofs.YtcpdipfepeccgaaGreatDoor

namespace Go.Proofs.YtcpdipfepeccgaaGreatDoor
open Go Go.Sx Go.Proofs
set_option maxRecDepth 100000
set_option maxHeartbeats 60000000
theorem Js {n:Int} {pc0:Int} {b:Int} {r:(Cl×Bool)×ClimbM} (h:ClimbOk n pc0 (eK b).rk r) (hb:r.1.2=true):¬imm r.1.1:=fun hi=>Nat.not_lt_zero _ (h.rk hb hi)
theorem Me {n:Int} {pc0:Int} {r0:Nat} {r:(Cl×Bool)×ClimbM} (h:ClimbOk n pc0 r0 r) (hb:r.1.2=false):r.2.rk=0:=by
 unfold ClimbM.rk
 rw [h.off hb];rfl
theorem rZ {n:Int} {w:ClimbM} (h:w.WF n):∀w',some w=some w'->w'.WF n:=fun w' e=>by cases e;exact h
theorem Mo {n:Int}:∀w',(none:Option ClimbM)=some w'->w'.WF n:=fun w' e=>by cases e
theorem Ia {n:Int} {w:W} (h:WOk n w) (hb:(w.slot==0)=false):1<=w.slot:=by
 have:=neI hb;have:=h.1;omega
theorem dle {a b:Int} (h:decide (a>=b)=false):a < b:=by have:=of_decide_eq_false h;omega
theorem dlt {a b:Int} (h:decide (a < b)=true):a < b:=of_decide_eq_true h
theorem Uc {a:Int} (h:orB (decide (a < 1)) (decide (a > 3))=false):0<=IntKind.wrap .i64 (a - 1) /\ IntKind.wrap .i64 (a - 1)<=2:=by
 have h1:¬a < 1:=fun h1=>by rw [decide_eq_true h1] at h;cases h
 have h2:¬a > 3:=fun h2=>by rw [decide_eq_true h2,decide_eq_false h1] at h;cases h
 rw [mV (by omega)];omega
theorem okx {b:Bool} (h:(!b)=false):b=true:=by cases b<;>simp_all
theorem OB {n:Int} (h0:0<=n) {j:SteM} (h:j.WF n) {hd:Bool} {c:Cl} (ha:j.aw c) {x:Rp1} (hr:RpFor n hd c x):UD n j.rk (eU j x):=by
 obtain⟨pc,last,⟨kd,ky,val,tall⟩,cl,node,lv,inc,v⟩:=j
 obtain⟨hk,htl,hp,hl,hn,hnd,hcl,hlv⟩:=h
 dsimp only [SteM.aw] at hk htl hp hl hn hnd hcl hlv ha
 have al:kd=6->pc=1->x.ok=true->1<=x.w.slot:=fun h6 h=>hr.al (ha h6 h)
 have hx:=hr.w
 clear hr ha
 have nx:0<=x.w.slot:=hx.1
 have hnk:=uG h0 (q8 h0 ky) hx
 have hnk1:=uG h0 (q8 h0 (bp ky)) hx
 rcases hp with⟨rfl,hp⟩ | ⟨rfl,hp⟩ | ⟨rfl,hp⟩ | hp<;>rcases cl with _ | w
 all_goals first
  | (have hww:=hcl _ rfl;have hwk:=uG h0 hww hx;have hpl:=gy h0 hww)
  | skip
 all_goals unfold eU jP
 all_goals dsimp only [id]
 all_goals try simp only [show ¬((7:Int)=6) by decide,show ¬((8:Int)=6) by decide,show ¬((8:Int)=7) by decide,if_false,if_true]
 all_goals have hpl1:=fun(hb:ClimbM.WF n (bF (eK ky) x).2)=>gy h0 hb
 all_goals generalize bF (eK ky) x=r1 at hnk hpl1 ⊢
 all_goals have hpl2:=fun(hb:ClimbM.WF n (bF (eK (bp ky)) x).2)=>gy h0 hb
 all_goals generalize bF (eK (bp ky)) x=r2 at hnk1 hpl2 ⊢
 all_goals obtain⟨⟨c1,b1⟩,w1⟩:=r1
 all_goals obtain⟨⟨c2,b2⟩,w2⟩:=r2
 all_goals first
  | (have hpl3:=fun(hb:ClimbM.WF n (bF w x).2)=>gy h0 hb
     generalize bF w x=r3 at hwk hpl3 ⊢
     obtain⟨⟨c3,b3⟩,w3⟩:=r3)
  | skip
 all_goals ((repeat' (rcases (hp:_ \/ _) with hp | hp))<;>subst hp)
 all_goals dsimp only
 all_goals (repeat' (refine cJ (fun hb=>?_) (fun hb=>?_)<;>first | (exact absurd hb (by decide)) | (exact absurd (of_decide_eq_true hb) (by decide)) | (exact absurd (of_decide_eq_false hb) (by decide)) | skip))
 all_goals first
  | (have hlv0:=hlv (by decide);have e1:bp lv=lv+1:=J9 (by omega) (by omega);have e2:IntKind.wrap .i64 (lv - 1)=lv - 1:=mV (by omega);try rw [e1];try rw [e2] at *)
  | skip
 all_goals have e0:bp (-1)=0:=rfl
 all_goals try rw [e0]
 all_goals refine⟨?_,⟨?_,?_,?_,?_,?_,?_,?_,?_⟩,?_,?_⟩
 all_goals dsimp only [SteM.rk,SteM.aw]
 all_goals first
  | exact .inl rfl
  | exact .inl (hl rfl)
  | exact .inr (da h0)
  | exact .inr (hwk.on (by assumption))
  | exact rZ hwk.wf
  | exact .inr (aE h0 (ai hwk.wf.found (by decide) (by decide)))
  | exact hwk.wf.found
  | exact fun _=>Ia hwk.wf.found (by assumption)
  | exact .inr (hnk.on (by assumption))
  | exact rZ hnk.wf
  | exact .inr (aE h0 (ai hnk.wf.found (by decide) (by decide)))
  | exact hnk.wf.found
  | exact fun _=>Ia hnk.wf.found (by assumption)
  | exact .inr (hnk1.on (by assumption))
  | exact rZ hnk1.wf
  | exact .inr (aE h0 (ai hnk1.wf.found (by decide) (by decide)))
  | exact hnk1.wf.found
  | exact fun _=>Ia hnk1.wf.found (by assumption)
  | exact .inr (az h0 (fg hn (by omega) (by omega)) (aV (hpl3 hwk.wf _).2))
  | exact .inr (aK (hpl3 hwk.wf _).1 (hpl3 hwk.wf _).2 (bI hn))
  | exact .inr (az h0 (fg hn (by omega) (by omega)) (aV (hpl1 hnk.wf _).2))
  | exact .inr (aK (hpl1 hnk.wf _).1 (hpl1 hnk.wf _).2 (bI hn))
  | exact .inr (az h0 (fg hn (by omega) (by omega)) (aV (hpl2 hnk1.wf _).2))
  | exact .inr (aK (hpl2 hnk1.wf _).1 (hpl2 hnk1.wf _).2 (bI hn))
  | exact .inr (fx h0 hn (hnd (by decide)))
  | exact .inr (dx h0 hn (hnd (by decide)))
  | exact .inr (dx h0 hn (hnd (.inr (.inr (by decide)))))
  | exact .inr (aE h0 (ai hn (by decide) (by decide)))
  | exact .inr (az h0 (ai (by assumption) (by decide) (by decide)) (dj h0 _))
  | exact .inr (aK (ai hn (by decide) (by decide)) hx (jK h0))
  | exact .inr (aE h0 (fg hn (by omega) (by omega)))
  | exact .inr (aK (fg hn (by omega) (by omega)) hx (eZ hx))
  | exact .inr (aE h0 (fg hn (by have:=htl rfl;have:=dle (by assumption);omega) (by have:=htl rfl;have:=dle (by assumption);omega)))
  | exact .inr (az h0 (fg hn (by have:=htl rfl;have:=dlt (by assumption);omega) (by have:=htl rfl;have:=dlt (by assumption);omega)) (aV (ao h0)))
  | exact .inr (aK jI (ao h0) (bI hn))
  | exact .inr (aK (fg hn (by omega) (by omega)) hx (bI (ao h0)))
  | exact .inr (aK (hpl _).1 (hpl _).2 (bI hn))
  | exact .inr (aK (fg hn (by omega) (by omega)) hx (bI (hpl _).2))
  | exact .inr (az h0 (fg hn (by have:=htl rfl;have:=dlt (by assumption);omega) (by have:=htl rfl;have:=dlt (by assumption);omega)) (aV (hpl _).2))
  | exact .inr (az h0 (fg hn (by have:=htl rfl;have:=dlt (by assumption);omega) (by have:=htl rfl;have:=dlt (by assumption);omega)) (aV (hpl3 hwk.wf _).2))
  | exact .inr (az h0 (fg hn (by have:=htl rfl;have:=dlt (by assumption);omega) (by have:=htl rfl;have:=dlt (by assumption);omega)) (aV (hpl1 hnk.wf _).2))
  | exact .inr (az h0 (fg hn (by have:=htl rfl;have:=dlt (by assumption);omega) (by have:=htl rfl;have:=dlt (by assumption);omega)) (aV (hpl2 hnk1.wf _).2))
  | assumption
  | exact htl
  | exact .inr (.inr (.inr (by decide)))
  | exact fun h=>h.elim (fun h=>absurd h.2 (by decide)) (fun h=>absurd h.2 (by decide))
  | exact fun _=>htl rfl
  | exact ao h0
  | decide
  | exact fun h=>absurd h (by decide)
  | exact fun _=>rfl
  | exact fun _ _=>rfl
  | exact fun h _=>absurd h (by decide)
  | exact fun _ h=>absurd h (by decide)
  | exact fun _=>hnd (by decide)
  | exact fun _=>hnd (.inr (.inr (by decide)))
  | exact fun _=>al rfl rfl (okx (by assumption))
  | exact fun _=>⟨by omega,by omega⟩
  | exact fun _=>hlv (by decide)
  | exact fun _=>Uc (by assumption)
  | exact fun _=>(by have:=neI (by assumption:(lv==0)=false);omega)
  | exact fun _=>(by have:=of_decide_eq_true (by assumption:decide (lv > 0)=true);omega)
  | exact .inr (aE h0 (fg hn (by have:=neI (by assumption:(lv==0)=false);omega) (by omega)))
  | exact .inr (aE h0 (fg hn (by have:=of_decide_eq_true (by assumption:decide (lv > 0)=true);omega) (by omega)))
  | exact fun _=>(by have:=htl rfl;have:=dle (by assumption);omega)
  | exact fun _=>(by have:=htl rfl;have:=dlt (by assumption);omega)
  | exact hk.elim (fun h=>.inl ⟨h,.inl rfl⟩) fun h=>.inr (h.elim (fun h=>.inl ⟨h,.inl rfl⟩) fun h=>.inr (.inl ⟨h,.inl rfl⟩))
  | exact rZ hww
  | exact Mo
  | exact fun h=>absurd h bT
  | exact fun h=>absurd h cR
  | exact fun h=>absurd h cE
  | exact fun h=>absurd h dM
  | exact fun h=>absurd h eN
  | exact fun h=>absurd h fM
  | exact fun h=>absurd h gO
  | exact fun h=>absurd h (dP (hl rfl) (by decide) (by decide))
  | exact fun h=>absurd h (Js hnk (by assumption))
  | exact fun h=>absurd h (Js hnk1 (by assumption))
  | exact fun h=>(by have hq:=hwk.rk (by assumption) h;simp [crk];exact hq)
  | exact fun h=>(by have hq:=Me hwk (by assumption);simp [crk];exact(by have hq:w3.rk=0:=hq;omega))
  | exact absurd (hnk.st rfl) (by have hq:b1=false:=(by assumption);show ¬b1=true;rw [hq];decide)
  | exact absurd (hnk1.st rfl) (by have hq:b2=false:=(by assumption);show ¬b2=true;rw [hq];decide)
  | exact fun _=>(by simp [crk])
end Go.Proofs.YtcpdipfepeccgaaGreatDoor

namespace Go.Proofs.YtcpdipfepeccgaaGreatDoor
open Go Go.Sx Go.Proofs
set_option maxRecDepth 100000
set_option maxHeartbeats 4000000
structure VauM.WF (n:Int) (j:VauM):Prop where
 key:0<=j.op.key /\ j.op.key < 256
 kd:j.op.kind=6 \/ j.op.kind=7 \/ j.op.kind=8
 child:0<=j.child /\ j.child < 8
 pc:j.pc=-1 \/ j.pc=0 \/ j.pc=1 \/ j.pc=2 \/ j.pc=3 \/ j.pc=4 \/ j.pc=5 \/ j.pc=6 \/ j.pc=7 \/ j.pc=8 \/ j.pc=9 \/ j.pc=10 \/ j.pc=11 \/ j.pc=12 \/ j.pc=13 \/ j.pc=14 \/ j.pc=15
 last:j.pc=-1->j.last.kind=12
 wb:j.pc=2->lG j.wanted j.bucket=true
 wc:3<=j.pc /\ j.pc<=10->mP j.wanted j.child=true
 base:WOk n j.base
 node:WOk n j.node
 sent:WOk n j.sentinel
 count:WOk n j.count
 nd:4<=j.pc /\ j.pc<=8->1<=j.node.slot
 wk:∀w,j.walk=some w->w.WF n
 inn:j.pc=11->∃l,j.inner=some l /\ l.WF n
def VauM.aw (c:Cl) (j:VauM):Prop:=(j.pc=3->c.kind=8) /\ (j.pc=11->∀l,j.inner=some l->l.aw c)
def lrk:Option LitM->Nat
 | none=>0
 | some l=>l.rk
def VauM.rk (j:VauM):Nat:=if j.pc=11 then lrk j.inner else wrk j.walk
def fz (n:Int) (r0:Nat) (r:Cl×VauM):Prop:=NextOk n r.1 (r.2.WF n) (r.2.aw r.1) r0 r.2.rk
def N3 (a:An):Cl:=⟨12,fc,aq,aq,0,0,a⟩
noncomputable def yV (a:An) (j:VauM):Cl×VauM:=(N3 a,{j with pc:=-1,last:=N3 a})
noncomputable def Oh (c:Cl) (j:VauM):Cl×VauM:=cond (c.kind != 12) (c,j) (cond (orB (c.ans.code != 1) (j.op.kind==8)) (yV c.ans {j with answer:=c.ans}) (aZ (bH 17),{j with answer:=c.ans,pc:=12}))
noncomputable def CP (j:VauM):Cl×VauM:=Oh (dC (gW (aY j.base 2,oY j.op.key,j.op)) ⟨aq,false⟩).1 {j with inner:=some (dC (gW (aY j.base 2,oY j.op.key,j.op)) ⟨aq,false⟩).2,pc:=11}
noncomputable def CR (j:VauM):Cl×VauM:=if j.bucket=j.wanted then CP j else(jy,{j with child:=kN 4 j.wanted j.bucket,pc:=3})
noncomputable def Be (j:VauM) (w:WalkM):Cl×VauM:=cond w.found (qH j.node,{j with walk:=some w,sentinel:=ko w.cur,pc:=6}) (cY (aY j.node 2) (ko w.cur),{j with walk:=some w,pc:=7})
noncomputable def F0 (j:VauM) (x:Rp1) (w:WalkM):Cl×VauM:=cond (bz w x).1.2 ((bz w x).1.1,{j with walk:=some (bz w x).2,pc:=5}) (Be j (bz w x).2)
structure VauM.W0 (n:Int) (j:VauM):Prop where
 key:0<=j.op.key /\ j.op.key < 256
 kd:j.op.kind=6 \/ j.op.kind=7 \/ j.op.kind=8
 child:0<=j.child /\ j.child < 8
 base:WOk n j.base
 node:WOk n j.node
 sent:WOk n j.sentinel
 count:WOk n j.count
 wk:∀w,j.walk=some w->w.WF n
theorem VauM.WF.w0 {n:Int} {j:VauM} (h:j.WF n):j.W0 n:=⟨h.key,h.kd,h.child,h.base,h.node,h.sent,h.count,h.wk⟩
theorem pcI {p q:Int} (h:p=q) {P:Prop} {lo hi:Int} (hne:¬(lo<=q /\ q<=hi)):lo<=p /\ p<=hi->P:=fun e=>absurd (h▸e) hne
theorem kY {n:Int} {j:VauM} (h:j.W0 n) {r0:Nat} (a:An):fz n r0 (yV a j):=by
 refine⟨.inl rfl,⟨h.key,h.kd,h.child,.inl rfl,fun _=>rfl,fun e=>absurd e (by show ¬((-1:Int)=2);decide),fun e=>absurd (show (3:Int)<=-1 from e.1) (by decide),h.base,h.node,h.sent,h.count,fun e=>absurd (show (4:Int)<=-1 from e.1) (by decide),h.wk,fun e=>absurd e (by show ¬((-1:Int)=11);decide)⟩,fun h=>absurd h (dP (k:=12) rfl (by decide) (by decide)),⟨fun e=>absurd e (by show ¬((-1:Int)=3);decide),fun e=>absurd e (by show ¬((-1:Int)=11);decide)⟩⟩
theorem ma {n:Int} (h0:0<=n) {j:VauM} (h:j.W0 n) {r0:Nat} {c:Cl} (hc:kR n c) (hi:¬imm c) {p:Int} (hp:p=1 \/ p=12 \/ p=13 \/ p=14 \/ p=15):fz n r0 (c,{j with pc:=p}):=by
 rcases hp with rfl | rfl | rfl | rfl | rfl <;>
 ·refine⟨.inr hc,⟨h.key,h.kd,h.child,?_,?_,?_,?_,h.base,h.node,h.sent,h.count,?_,h.wk,?_⟩,fun h=>absurd h hi,⟨?_,?_⟩⟩
  ·dsimp only;decide
  all_goals (intro e;dsimp only at e;exact absurd e (by decide))
theorem CQ {n:Int} (h0:0<=n) {j:VauM} (h:j.W0 n) (hpc:j.pc=11) {l:LitM} (hl:j.inner=some l) (hw:l.WF n) {r0:Nat} {c:Cl} (hc:Res n c) (ha:l.aw c) (hr:imm c->l.rk < r0):fz n r0 (Oh c j):=by
 unfold Oh
 refine cJ (P:=fz n r0) (fun hb=>?_) fun hb=>cJ (P:=fz n r0) (fun _=>kY (j:={j with answer:=c.ans}) ⟨h.key,h.kd,h.child,h.base,h.node,h.sent,h.count,h.wk⟩ _) fun _=>ma h0 (j:={j with answer:=c.ans}) ⟨h.key,h.kd,h.child,h.base,h.node,h.sent,h.count,h.wk⟩ (aE h0 (cq (by decide) (by decide))) bT (.inr (.inl rfl))
 have hk:c.kind≠12:=by simpa using hb
 have hc:kR n c:=hc.elim (fun e=>absurd e hk) id
 refine⟨.inr hc,⟨h.key,h.kd,h.child,by rw [hpc];decide,fun e=>absurd (hpc.symm.trans e) (by decide),fun e=>absurd (hpc.symm.trans e) (by decide),pcI hpc (by decide),h.base,h.node,h.sent,h.count,pcI hpc (by decide),h.wk,fun _=>⟨l,hl,hw⟩⟩,fun hi=>?_,⟨fun e=>absurd (hpc.symm.trans e) (by decide),fun _ l' e=>by rw [hl] at e;cases e;exact ha⟩⟩
 show VauM.rk j < r0
 unfold VauM.rk
 rw [if_pos hpc,hl]
 exact hr hi
theorem wy {n:Int} (h0:0<=n) {a:Ad} (ha:AOk n a) {k:Int} {o:O} (ho:o.kind=6 \/ o.kind=7 \/ o.kind=8):(gW (a,k,o)).WF n:=by
 refine⟨ho,ha,?_,fun e=>?_,ao h0,fun _ e=>?_,fun w e=>(by cases e),fun _ e=>?_⟩
 ·rcases ho with h | h | h
  ·exact .inl ⟨h,.inr (.inl rfl)⟩
  ·exact .inr (.inl ⟨h,.inr (.inl rfl)⟩)
  ·exact .inr (.inr ⟨h,.inr (.inl rfl)⟩)
 ·exact absurd (show (0:Int)=-1 from e) (by decide)
 ·exact absurd (show (0:Int)=2 \/ (0:Int)=3 \/ (0:Int)=4 \/ (0:Int)=5 \/ (0:Int)=6 \/ (0:Int)=7 from e) (by decide)
 ·exact absurd (show (0:Int)=2 \/ (0:Int)=3 \/ (0:Int)=4 from e) (by decide)
theorem wz {c:Cl} {x:Ad×Int×O}:(gW x).aw c:=fun _ e=>absurd (show (0:Int)=1 from e) (by decide)
theorem EX {x:Ad×Int×O}:(gW x).rk=0:=by
 unfold LitM.rk gW wrk
 dsimp only
 rw [if_neg (fun e=>absurd e.2 (by decide))]
theorem rp0 {n:Int} (h0:0<=n) {hd:Bool}:RpFor n hd bu ⟨aq,false⟩:=⟨ao h0,fun e=>absurd (show (0:Int)=8 from e) (by decide),fun _ e=>absurd (show (0:Int)=6 from e) (by decide)⟩
theorem yU {n:Int} (h0:0<=n) {j:VauM} (h:j.W0 n) {r0:Nat}:fz n r0 (CP j):=by
 have hl:=B8 h0 (wy h0 (a:=aY j.base 2) (ai h.base (by decide) (by decide)) (k:=oY j.op.key) h.kd) (hd:=false) (c:=bu) wz (rp0 h0)
 unfold CP
 generalize dC (gW (aY j.base 2,oY j.op.key,j.op)) ⟨aq,false⟩=r at hl ⊢
 refine CQ h0 (j:={j with inner:=some r.2,pc:=11}) ⟨h.key,h.kd,h.child,h.base,h.node,h.sent,h.count,h.wk⟩ rfl rfl hl.wf hl.res hl.aw fun hi=>?_
 have:=hl.rk hi
 rw [EX] at this
 exact absurd this (Nat.not_lt_zero _)
theorem z8 {P:Int->Int->Prop} (h:∀i j:Fin 8,P (i.val:Nat) (j.val:Nat)) {w b:Int} (hr:0<=w /\ w < 8 /\ 0<=b /\ b < 8):P w b:=by
 have:=h ⟨w.toNat,by omega⟩ ⟨b.toNat,by omega⟩
 rwa [show ((w.toNat:Nat):Int)=w by omega,show ((b.toNat:Nat):Int)=b by omega] at this
theorem JA {w b:Int} (h:lG w b=true) (hne:¬b=w):mP w (kN 4 w b)=true /\ 0<=kN 4 w b /\ kN 4 w b < 8 :=
 z8 (P:=fun w b=>lG w b=true->¬b=w->mP w (kN 4 w b)=true /\ 0<=kN 4 w b /\ kN 4 w b < 8) (by decide) (yO h) h hne
theorem yP {w c:Int} (h:mP w c=true):lG w c=true:=z8 (P:=fun w c=>mP w c=true->lG w c=true) (by decide) (FQ h) h
theorem Oa {w b:Int} (h:lG w b=true) (hb:¬b=0):lG w (nJ b)=true /\ 0<=nJ b /\ nJ b < 8 :=
 z8 (P:=fun w b=>lG w b=true->¬b=0->lG w (nJ b)=true /\ 0<=nJ b /\ nJ b < 8) (by decide) (yO h) h hb
theorem sj {n:Int} (h0:0<=n) {j:VauM} (h:j.W0 n) (hw:lG j.wanted j.bucket=true) {r0:Nat}:fz n r0 (CR j):=by
 unfold CR
 split
 ·exact yU h0 h
 ·rename_i hne
  obtain⟨h1,h2⟩:=JA hw hne
  refine⟨.inr (da h0),⟨h.key,h.kd,h2,?_,?_,?_,fun _=>h1,h.base,h.node,h.sent,h.count,?_,h.wk,?_⟩,fun h=>absurd h dM,⟨fun _=>rfl,?_⟩⟩
  ·dsimp only;decide
  all_goals (intro e;dsimp only at e;exact absurd e (by decide))
theorem D2 {n:Int} (h0:0<=n) {j:VauM} (h:j.W0 n) (hc:mP j.wanted j.child=true) (hn:1<=j.node.slot) {w:WalkM} (hw:w.WF n) {r0:Nat}:fz n r0 (Be j w):=by
 unfold Be
 refine cJ (P:=fz n r0) (fun hb=>?_) fun hb=>?_
 ·refine⟨.inr (fx h0 h.node hn),⟨h.key,h.kd,h.child,?_,?_,?_,fun _=>hc,h.base,h.node,aV hw.cur,h.count,fun _=>hn,eQ hw,?_⟩,fun h=>absurd h eN,⟨?_,?_⟩⟩
  ·dsimp only;decide
  all_goals (intro e;dsimp only at e;exact absurd e (by decide))
 ·refine⟨.inr (az h0 (ai h.node (by decide) (by decide)) (aV hw.cur)),⟨h.key,h.kd,h.child,?_,?_,?_,fun _=>hc,h.base,h.node,h.sent,h.count,fun _=>hn,eQ hw,?_⟩,fun h=>absurd h cR,⟨?_,?_⟩⟩
  ·dsimp only;decide
  all_goals (intro e;dsimp only at e;exact absurd e (by decide))
theorem se {n:Int} (h0:0<=n) {j:VauM} (h:j.W0 n) (hc:mP j.wanted j.child=true) (hn:1<=j.node.slot) {w:WalkM} (hw:w.WF n) {x:Rp1} (hx:WOk n x.w) {r0:Nat} (hr:w.rk<=r0):fz n r0 (F0 j x w):=by
 have hk:=xz h0 hw hx
 unfold F0
 generalize bz w x=r at hk ⊢
 obtain⟨⟨c,b⟩,w'⟩:=r
 cases b with
 | false=>exact D2 h0 h hc hn hk.wf
 | true =>
   refine⟨.inr (hk.on rfl),⟨h.key,h.kd,h.child,?_,?_,?_,fun _=>hc,h.base,h.node,h.sent,h.count,fun _=>hn,eQ hk.wf,?_⟩,fun hi=>?_,⟨?_,?_⟩⟩
   ·dsimp only [cond];decide
   ·intro e;dsimp only [cond] at e;exact absurd e (by decide)
   ·intro e;dsimp only [cond] at e;exact absurd e (by decide)
   ·intro e;dsimp only [cond] at e;exact absurd e (by decide)
   ·exact Nat.lt_of_lt_of_le (hk.rk rfl hi) hr
   all_goals (intro e;dsimp only [cond] at e;exact absurd e (by decide))
theorem mM {n:Int} {b:Int} (h0:0<=b) (h1:b < 8):AOk n (bH (fA 8 b)):=by
 rw [show fA 8 b=8+b from mV (by omega)]
 exact cq (by omega) (by omega)
theorem Ea (k:Int):szN k=1 \/ szN k=2 \/ szN k=4 \/ szN k=8:=by
 unfold szN
 split
 ·rename_i h;have h:=eq_of_beq h;subst h;exact .inr (.inl rfl)
 ·split
  ·rename_i h;have h:=eq_of_beq h;subst h;exact .inr (.inr (.inl rfl))
  ·split
   ·rename_i h;have h:=eq_of_beq h;subst h;exact .inr (.inr (.inr rfl))
   ·exact .inl rfl
theorem Kt {k s:Int} (h0:0<=k) (hs:s=1 \/ s=2 \/ s=4 \/ s=8):0<=Int.tmod k s /\ Int.tmod k s < 8:=by
 have hp:0 < s:=by omega
 rw [Int.tmod_eq_emod_of_nonneg h0]
 have:=Int.emod_nonneg k (show s≠0 by omega)
 have:=Int.emod_lt_of_pos k hp
 omega
theorem Kf {b:Int} (h0:0<=b) (h1:b < 8):lG b b=true:=by
 rcases (by omega:b=0 \/ b=1 \/ b=2 \/ b=3 \/ b=4 \/ b=5 \/ b=6 \/ b=7) with rfl | rfl | rfl | rfl | rfl | rfl | rfl | rfl<;>decide
theorem yW {n:Int} {j:VauM} (h:j.W0 n) (hc:mP j.wanted j.child=true) (hn:1<=j.node.slot) {r0:Nat} {c:Cl} (hcl:kR n c) (hi:¬imm c) {p:Int} (hp:p=4 \/ p=8 \/ p=9 \/ p=10):fz n r0 (c,{j with pc:=p}):=by
 rcases hp with rfl | rfl | rfl | rfl <;>
 ·refine⟨.inr hcl,⟨h.key,h.kd,h.child,?_,?_,?_,fun _=>hc,h.base,h.node,h.sent,h.count,fun _=>hn,h.wk,?_⟩,fun h=>absurd h hi,⟨?_,?_⟩⟩
  ·dsimp only;decide
  all_goals (intro e;dsimp only at e;exact absurd e (by decide))
theorem sm {n:Int} {j:VauM} (h:j.W0 n) (hc:mP j.wanted j.child=true) {r0:Nat} {c:Cl} (hcl:kR n c) (hi:¬imm c) {p:Int} (hp:p=9 \/ p=10):fz n r0 (c,{j with pc:=p}):=by
 rcases hp with rfl | rfl <;>
 ·refine⟨.inr hcl,⟨h.key,h.kd,h.child,?_,?_,?_,fun _=>hc,h.base,h.node,h.sent,h.count,?_,h.wk,?_⟩,fun h=>absurd h hi,⟨?_,?_⟩⟩
  ·dsimp only;decide
  all_goals (intro e;dsimp only at e;exact absurd e (by decide))
theorem yX {n:Int} (h0:0<=n) {j:VauM} (h:j.W0 n) (hw:lG j.wanted j.bucket=true) (hb:0<=j.bucket /\ j.bucket < 8) {r0:Nat}:fz n r0 (aZ (bH (fA 8 j.bucket)),{j with pc:=2}):=by
 refine⟨.inr (aE h0 (mM hb.1 hb.2)),⟨h.key,h.kd,h.child,?_,?_,fun _=>hw,?_,h.base,h.node,h.sent,h.count,?_,h.wk,?_⟩,fun h=>absurd h bT,⟨?_,?_⟩⟩
 ·dsimp only;decide
 all_goals (intro e;dsimp only at e;exact absurd e (by decide))
theorem Sa {a:Ad×Int}:(eY a).rk=0:=by
 unfold WalkM.rk eY
 dsimp only
 rw [if_neg (by decide),if_neg (by decide)]
theorem Od {n:Int} (h0:0<=n) {j:VauM} (h:j.WF n) {hd:Bool} {c:Cl} (ha:j.aw c) {x:Rp1} (hr:RpFor n hd c x):fz n j.rk (kr j x):=by
 have hx:WOk n x.w:=hr.w
 have nx:0<=x.w.slot:=hx.1
 have w:=h.w0
 have hp:=h.pc
 have hq:=h
 obtain⟨pc,last,op,size,wanted,bucket,child,base,node,sentinel,walk,inner,answer,count⟩:=j
 dsimp only at hp
 rcases hp with rfl | rfl | rfl | rfl | rfl | rfl | rfl | rfl | rfl | rfl | rfl | rfl | rfl | rfl | rfl | rfl | rfl
 ·exact⟨.inl (h.last rfl),h,fun e=>absurd e (dP (h.last rfl) (by decide) (by decide)),⟨fun e=>absurd (show (-1:Int)=3 from e) (by decide),fun e=>absurd (show (-1:Int)=11 from e) (by decide)⟩⟩
 ·exact ma h0 (j:=⟨0,last,op,size,wanted,bucket,child,base,node,sentinel,walk,inner,answer,count⟩) w (c:=aZ (bH 16)) (aE h0 (cq (by decide) (by decide))) bT (.inl rfl)
 ·have ht:=Kt h.key.1 (Ea x.w.num)
  exact yX h0 (j:=⟨1,last,op,szN x.w.num,Int.tmod op.key (szN x.w.num),Int.tmod op.key (szN x.w.num),child,base,node,sentinel,walk,inner,answer,count⟩) ⟨w.key,w.kd,w.child,w.base,w.node,w.sent,w.count,w.wk⟩ (Kf ht.1 ht.2) ht
 ·have hw:=h.wb rfl
  show fz n _ (cond (!(x.w.slot==0)) (CR ⟨2,last,op,size,wanted,bucket,child,x.w,node,sentinel,walk,inner,answer,count⟩) (if bucket=0 then yV ⟨4,0⟩ ⟨2,last,op,size,wanted,bucket,child,base,node,sentinel,walk,inner,answer,count⟩ else(aZ (bH (fA 8 (nJ bucket))),⟨2,last,op,size,wanted,nJ bucket,child,base,node,sentinel,walk,inner,answer,count⟩)))
  refine cJ (P:=fz n _) (fun _=>sj h0 (j:=⟨2,last,op,size,wanted,bucket,child,x.w,node,sentinel,walk,inner,answer,count⟩) ⟨w.key,w.kd,w.child,hx,w.node,w.sent,w.count,w.wk⟩ hw) fun _=>?_
  split
  ·exact kY w _
  ·rename_i hb
   obtain⟨g1,g2⟩:=Oa hw hb
   exact yX h0 (j:=⟨2,last,op,size,wanted,nJ bucket,child,base,node,sentinel,walk,inner,answer,count⟩) ⟨w.key,w.kd,w.child,w.base,w.node,w.sent,w.count,w.wk⟩ g1 g2
 ·have hc:=h.wc ⟨by show (3:Int)<=3;decide,by show (3:Int)<=10;decide⟩
  show fz n _ (cond (!x.ok) (CP ⟨3,last,op,size,wanted,bucket,child,base,node,sentinel,walk,inner,answer,count⟩) (cY (aY x.w 0) (g9 (pG child)),⟨4,last,op,size,wanted,bucket,child,base,x.w,sentinel,walk,inner,answer,count⟩))
  refine cJ (P:=fz n _) (fun _=>yU h0 w) fun hb=>?_
  have hok:x.ok=true:=by cases e:x.ok with | true=>rfl | false=>rw [e] at hb;cases hb
  exact yW (j:=⟨3,last,op,size,wanted,bucket,child,base,x.w,sentinel,walk,inner,answer,count⟩) ⟨w.key,w.kd,w.child,w.base,hx,w.sent,w.count,w.wk⟩ hc (hr.al (ha.1 rfl) hok) (az h0 (ai hx (by decide) (by decide)) (dj h0 _)) cR (.inl rfl)
 ·have hc:=h.wc ⟨by show (3:Int)<=4;decide,by show (4:Int)<=10;decide⟩
  have hn:=h.nd ⟨by show (4:Int)<=4;decide,by show (4:Int)<=8;decide⟩
  exact se h0 (j:=⟨4,last,op,size,wanted,bucket,child,base,node,sentinel,walk,inner,answer,count⟩) w hc hn (nL h0 (ai w.base (by decide) (by decide)) (pG child)) hx (by rw [Sa];exact Nat.zero_le _)
 ·have hc:=h.wc ⟨by show (3:Int)<=5;decide,by show (5:Int)<=10;decide⟩
  have hn:=h.nd ⟨by show (4:Int)<=5;decide,by show (5:Int)<=8;decide⟩
  cases walk with
  | none =>
    show fz n _ (cY (aY node 2) (ko aq),⟨7,last,op,size,wanted,bucket,child,base,node,sentinel,none,inner,answer,count⟩)
    refine⟨.inr (az h0 (ai w.node (by decide) (by decide)) (ao h0)),⟨w.key,w.kd,w.child,?_,?_,?_,fun _=>hc,w.base,w.node,w.sent,w.count,fun _=>hn,w.wk,?_⟩,fun h=>absurd h cR,⟨?_,?_⟩⟩
    ·dsimp only;decide
    all_goals (intro e;dsimp only at e;exact absurd e (by decide))
  | some wk=>exact se h0 (j:=⟨5,last,op,size,wanted,bucket,child,base,node,sentinel,some wk,inner,answer,count⟩) w hc hn (h.wk wk rfl) hx (Nat.le_refl _)
 ·have hc:=h.wc ⟨by show (3:Int)<=6;decide,by show (6:Int)<=10;decide⟩
  exact sm (j:=⟨6,last,op,size,wanted,bucket,child,base,node,sentinel,walk,inner,answer,count⟩) w hc (aE h0 (mM w.child.1 w.child.2)) bT (.inl rfl)
 ·have hc:=h.wc ⟨by show (3:Int)<=7;decide,by show (7:Int)<=10;decide⟩
  have hn:=h.nd ⟨by show (4:Int)<=7;decide,by show (7:Int)<=8;decide⟩
  refine yW (j:=⟨7,last,op,size,wanted,bucket,child,base,node,sentinel,walk,inner,answer,count⟩) w hc hn (c:=bG (match walk with | none=>(fc,aq,aq) | some w=>(w.prev,w.cur,w.next)).1 (match walk with | none=>(fc,aq,aq) | some w=>(w.prev,w.cur,w.next)).2.1 (wTo (match walk with | none=>(fc,aq,aq) | some w=>(w.prev,w.cur,w.next)).2.1 node)) ?_ cE (.inr (.inl rfl))
  cases walk with
  | none=>exact aK jI (ao h0) (bI w.node)
  | some wk=>exact aK (h.wk wk rfl).prev (h.wk wk rfl).cur (bI w.node)
 ·have hc:=h.wc ⟨by show (3:Int)<=8;decide,by show (8:Int)<=10;decide⟩
  have hn:=h.nd ⟨by show (4:Int)<=8;decide,by show (8:Int)<=8;decide⟩
  show fz n _ (cond x.ok (aZ (bH (fA 8 child)),⟨9,last,op,size,wanted,bucket,child,base,node,node,walk,inner,answer,count⟩) (F0 ⟨8,last,op,size,wanted,bucket,child,base,node,sentinel,walk,inner,answer,count⟩ x (eY (aY base 2,pG child))))
  refine cJ (P:=fz n _) (fun _=>?_) fun _=>?_
  ·exact sm (j:=⟨8,last,op,size,wanted,bucket,child,base,node,node,walk,inner,answer,count⟩) ⟨w.key,w.kd,w.child,w.base,w.node,w.node,w.count,w.wk⟩ hc (aE h0 (mM w.child.1 w.child.2)) bT (.inl rfl)
  ·exact se h0 (j:=⟨8,last,op,size,wanted,bucket,child,base,node,sentinel,walk,inner,answer,count⟩) w hc hn (nL h0 (ai w.base (by decide) (by decide)) (pG child)) hx (by rw [Sa];exact Nat.zero_le _)
 ·have hc:=h.wc ⟨by show (3:Int)<=9;decide,by show (9:Int)<=10;decide⟩
  show fz n _ (cond (x.w.slot==0) (bG (bH (fA 8 child)) x.w (wTo x.w sentinel),⟨10,last,op,size,wanted,bucket,child,base,node,sentinel,walk,inner,answer,count⟩) (CR ⟨9,last,op,size,wanted,child,child,sentinel,node,sentinel,walk,inner,answer,count⟩))
  refine cJ (P:=fz n _) (fun _=>?_) fun _=>sj h0 (j:=⟨9,last,op,size,wanted,child,child,sentinel,node,sentinel,walk,inner,answer,count⟩) ⟨w.key,w.kd,w.child,w.sent,w.node,w.sent,w.count,w.wk⟩ (yP hc)
  exact sm (j:=⟨9,last,op,size,wanted,bucket,child,base,node,sentinel,walk,inner,answer,count⟩) w hc (aK (mM w.child.1 w.child.2) hx (bI w.sent)) cE (.inr rfl)
 ·have hc:=h.wc ⟨by show (3:Int)<=10;decide,by show (10:Int)<=10;decide⟩
  exact sj h0 (j:=⟨10,last,op,size,wanted,child,child,sentinel,node,sentinel,walk,inner,answer,count⟩) ⟨w.key,w.kd,w.child,w.sent,w.node,w.sent,w.count,w.wk⟩ (yP hc)
 ·obtain⟨l,hl,hlw⟩:=h.inn rfl
  have hl:inner=some l:=hl
  subst hl
  have hn:=B8 h0 hlw (ha.2 rfl l rfl) hr
  exact CQ h0 (j:=⟨11,last,op,size,wanted,bucket,child,base,node,sentinel,walk,some (dC l x).2,answer,count⟩) ⟨w.key,w.kd,w.child,w.base,w.node,w.sent,w.count,w.wk⟩ rfl rfl hn.wf hn.res hn.aw hn.rk
 ·show fz n _ (cond (op.kind==7) (bG (bH 17) x.w (gQ x.w (-1)),⟨13,last,op,size,wanted,bucket,child,base,node,sentinel,walk,inner,answer,x.w⟩) (bG (bH 17) x.w (gQ x.w 1),⟨13,last,op,size,wanted,bucket,child,base,node,sentinel,walk,inner,answer,x.w⟩))
  refine cJ (P:=fz n _) (fun _=>?_) fun _=>?_
  all_goals (exact ma h0 (j:=⟨12,last,op,size,wanted,bucket,child,base,node,sentinel,walk,inner,answer,x.w⟩) ⟨w.key,w.kd,w.child,w.base,w.node,w.sent,hx,w.wk⟩ (aK (cq (by decide) (by decide)) hx (jK h0)) cE (.inr (.inr (.inl rfl))))
 ·show fz n _ (cond (!x.ok) (aZ (bH 17),⟨12,last,op,size,wanted,bucket,child,base,node,sentinel,walk,inner,answer,count⟩) (cond (orB (op.kind==7) (orB (size==8) (decide (count.num < IntKind.wrap .i64 (2 * size))))) (yV answer ⟨13,last,op,size,wanted,bucket,child,base,node,sentinel,walk,inner,answer,count⟩) (aZ (bH 16),⟨14,last,op,size,wanted,bucket,child,base,node,sentinel,walk,inner,answer,count⟩)))
  refine cJ (P:=fz n _) (fun _=>?_) fun _=>cJ (P:=fz n _) (fun _=>kY w _) fun _=>?_
  ·exact ma h0 (j:=⟨13,last,op,size,wanted,bucket,child,base,node,sentinel,walk,inner,answer,count⟩) w (aE h0 (cq (by decide) (by decide))) bT (.inr (.inl rfl))
  ·exact ma h0 (j:=⟨13,last,op,size,wanted,bucket,child,base,node,sentinel,walk,inner,answer,count⟩) w (aE h0 (cq (by decide) (by decide))) bT (.inr (.inr (.inr (.inl rfl))))
 ·show fz n _ (cond (x.w.num==size) (bG (bH 16) x.w (gQ x.w size),⟨15,last,op,size,wanted,bucket,child,base,node,sentinel,walk,inner,answer,count⟩) (yV answer ⟨14,last,op,size,wanted,bucket,child,base,node,sentinel,walk,inner,answer,count⟩))
  refine cJ (P:=fz n _) (fun _=>?_) fun _=>kY w _
  exact ma h0 (j:=⟨14,last,op,size,wanted,bucket,child,base,node,sentinel,walk,inner,answer,count⟩) w (aK (cq (by decide) (by decide)) hx (jK h0)) cE (.inr (.inr (.inr (.inr rfl))))
 ·exact kY (j:=⟨15,last,op,size,wanted,bucket,child,base,node,sentinel,walk,inner,answer,count⟩) w _
end Go.Proofs.YtcpdipfepeccgaaGreatDoor
