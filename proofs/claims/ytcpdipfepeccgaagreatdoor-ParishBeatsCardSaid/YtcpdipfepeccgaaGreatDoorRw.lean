import Derived.Test.YtcpdipfepeccgaaGreatDoorRn
import Derived.Test.YtcpdipfepeccgaaGreatDoorRq
import Derived.Test.YtcpdipfepeccgaaGreatDoorRd
import Derived.Test.YtcpdipfepeccgaaGreatDoorSc
set_option linter.unusedVariables false
set_option linter.unusedSimpArgs false
set_option maxHeartbeats 4000000
namespace Go.Proofs.YtcpdipfepeccgaaGreatDoor
open Go Go.Sx Go.Proofs
set_option maxRecDepth 100000
set_option maxHeartbeats 4000000
def JobM.WF (n:Int) (hd:Bool):JobM->Prop
 | .pile j=>j.WF n /\ hd=false
 | .cort j=>j.WF n /\ hd=true
 | .lit j=>j.WF n /\ hd=false
 | .vau j=>j.WF n /\ hd=false
 | .ste j=>j.WF n /\ hd=false
def JobM.aw (c:Cl):JobM->Prop
 | .pile j=>True
 | .cort j=>j.aw c
 | .lit j=>j.aw c
 | .vau j=>j.aw c
 | .ste j=>j.aw c
def JobM.rk:JobM->Nat
 | .pile j=>j.rk
 | .cort j=>j.rk
 | .lit j=>j.rk
 | .vau j=>j.rk
 | .ste j=>j.rk
theorem FL (w:Option WalkM):wrk w<=2:=by
 cases w with
 | none=>exact Nat.zero_le _
 | some w=>show WalkM.rk w<=2;unfold WalkM.rk;repeat' split
           all_goals decide
theorem Iu (l:LitM):l.rk<=3:=by
 have:=FL l.walk
 unfold LitM.rk
 split<;>omega
theorem JobM.rk_le (j:JobM):j.rk<=3:=by
 cases j with
 | pile j=>show PileM.rk j<=3;unfold PileM.rk;split<;>decide
 | cort j=>show CortM.rk j<=3;unfold CortM.rk;split<;>decide
 | lit j=>exact Iu j
 | vau j =>
   show VauM.rk j<=3
   unfold VauM.rk
   split
   ·cases j.inner with
    | none=>exact Nat.zero_le _
    | some l=>exact Iu l
   ·have:=FL j.walk;omega
 | ste j =>
   show SteM.rk j<=3
   unfold SteM.rk
   have:crk j.climb<=2:=by
    cases j.climb with
    | none=>exact Nat.zero_le _
    | some c=>show ClimbM.rk c<=2;unfold ClimbM.rk;repeat' split
              all_goals decide
   split<;>omega
theorem JobM.ok_of {n:Int} {hd:Bool} {j:JobM} (h:j.WF n hd):j.ok=true:=by
 cases j with
 | vau j =>
   obtain⟨h,_⟩:=h
   show EP j=true
   have a:∀{x y:Bool},x=true->y=true->de x y=true:=fun {x y} h1 h2=>by rw [h1,h2];rfl
   have o1:∀{x y:Bool},x=true->orB x y=true:=fun {x y} h1=>by rw [h1];rfl
   have o2:∀{x y:Bool},y=true->orB x y=true:=fun {x y} h1=>by rw [h1];cases x<;>rfl
   refine a (decide_eq_true h.key) (a (decide_eq_true h.kd) (a (decide_eq_true h.child) ?_))
   have hw:=h.wb
   have hc:=h.wc
   have hp:=h.pc
   generalize j.pc=pc at hw hc hp
   rcases hp with rfl | rfl | rfl | rfl | rfl | rfl | rfl | rfl | rfl | rfl | rfl | rfl | rfl | rfl | rfl | rfl | rfl
   all_goals first
    | exact o1 (by decide)
    | exact o2 (o1 (a (by decide) (hw rfl)))
    | exact o2 (o2 (a (by decide) (hc (by decide))))
 | ste j =>
   obtain⟨h,_⟩:=h
   show zD j=true
   unfold zD
   split
   ·exact decide_eq_true h.kd
   ·rename_i c hc
    have hl:=(h.cl c hc).lv
    rw [show kv c=true from decide_eq_true (by omega)]
    exact decide_eq_true h.kd
 | _=>rfl
structure JNext (n:Int) (hd:Bool) (r0:Nat) (r:Cl×JobM):Prop where
 res:r.1.kind=12 \/ ClB n hd r.1
 nk:r.1.kind≠12->kR n r.1
 wf:r.2.WF n hd
 rk:imm r.1->r.2.rk < r0
 aw:r.2.aw r.1
theorem Al {n:Int} (h0:0<=n) {hd:Bool} {j:JobM} (h:j.WF n hd) {c:Cl} (ha:j.aw c) {x:Rp1} (hr:RpFor n hd c x):JNext n hd j.rk (j.next x):=by
 have cb:∀{c:Cl},hd=false->Res n c->(c.kind=12 \/ ClB n hd c):=fun {c} e h=>h.elim .inl fun h=>.inr (.inl ⟨h,fun e2=>by rw [e] at e2;cases e2⟩)
 have nk:∀{c:Cl},Res n c->c.kind≠12->kR n c:=fun {c} h e=>h.elim (fun h=>absurd h e) id
 cases j with
 | pile j=>have hn:=K5 h0 h.1 hr.w;exact⟨cb h.2 hn.res,nk hn.res,⟨hn.wf,h.2⟩,hn.rk,trivial⟩
 | cort j =>
   obtain⟨h,rfl⟩:=h
   have hn:=Mg h0 h ha hr
   exact⟨hn.res.elim .inl fun h=>.inr (.inl ⟨h,fun _=>hn.aw.2⟩),nk hn.res,⟨hn.wf,rfl⟩,hn.rk,hn.aw.1⟩
 | lit j=>have hn:=B8 h0 h.1 ha hr;exact⟨cb h.2 hn.res,nk hn.res,⟨hn.wf,h.2⟩,hn.rk,hn.aw⟩
 | vau j=>have hn:=Od h0 h.1 ha hr;exact⟨cb h.2 hn.res,nk hn.res,⟨hn.wf,h.2⟩,hn.rk,hn.aw⟩
 | ste j=>have hn:=OB h0 h.1 ha hr;exact⟨cb h.2 hn.res,nk hn.res,⟨hn.wf,h.2⟩,hn.rk,hn.aw⟩
structure VerM.WF (n:Int) (K:Nat) (v:VerM):Prop where
 kj:vd v
 dg:0<=v.doing /\ v.doing<=4
 rite:v.rite.WF n (v.sort==2) K
 call:v.rite.step≠0->v.rite.call=v.call
 idle:v.doing=0->v.rite.step=0
 job:(v.doing=1 \/ v.doing=2)->∃j,v.job=some j /\ j.WF n (v.sort==2) /\ j.aw v.call /\ (v.rite.step=0->RpFor n (v.sort==2) v.call v.rite.reply)
def VerM.rest (v:VerM):Prop:=v.doing=0 \/ v.rite.step≠0
def j0 (v:VerM):Nat:=if v.doing=0 \/ v.rite.step≠0 then 1 else if v.doing=1 \/ v.doing=2 then(match v.job with | some j=>j.rk+4 | none=>0) else 2
theorem tK {v:VerM} (h:v.doing=0 \/ v.rite.step≠0):j0 v=1:=if_pos h
theorem II {v w:VerM} (h:vd v) (hs:w.sort=v.sort) (hk:bj w=bj v):vd w:=by
 obtain⟨a,b,c⟩:=h
 exact⟨by rw [hs];exact a,by rw [hs];exact b,by rw [hk,hs];exact c⟩
theorem uP {n:Int} {m:RiteM} {c:Cl} (h:kR n c) (hi:¬imm c):(db m c).step≠0:=by
 unfold imm at hi
 have hk:c.kind=3 \/ c.kind=4 \/ c.kind=5 \/ c.kind=6 \/ c.kind=8 \/ c.kind=9:=by
  rcases h.2.2 with⟨h,_⟩ | ⟨h,_⟩ | ⟨h,_⟩ | h | ⟨h,_⟩<;>omega
 unfold db nG
 rw [if_neg (by omega),if_neg (by omega)]
 unfold vT
 rw [if_neg (by omega),if_neg (by omega)]
 by_cases k3:c.kind=3
 ·rw [if_pos k3];show (1:Int)≠0;decide
 rw [if_neg k3]
 by_cases k4:c.kind=4
 ·rw [if_pos k4];show (1:Int)≠0;decide
 rw [if_neg k4]
 by_cases k5:c.kind=5
 ·rw [if_pos k5];show (1:Int)≠0;decide
 rw [if_neg k5]
 by_cases k6:c.kind=6
 ·rw [if_pos k6];show (5:Int)≠0;decide
 rw [if_neg k6,if_neg (by omega)]
 by_cases k8:c.kind=8
 ·rw [if_pos k8]
  split
  ·show (8:Int)≠0;decide
  ·show (1:Int)≠0;decide
 rw [if_neg k8,if_pos (by omega)]
 show (2:Int)≠0;decide
theorem Hh {n:Int} (h0:0<=n) {K:Nat} (hK:K<=100000) {v:VerM} (h:v.WF n K):(v.rest /\ (bU v).val=some (.exit 0,v)) \/ (¬v.rest /\ ∃v',(bU v).val=some (.normal,v') /\ v'.WF n (K+1) /\ v'.sort=v.sort /\ j0 v' < j0 v):=by
 by_cases hr:v.rest
 ·refine .inl ⟨hr,?_⟩
  unfold bU dm
  rcases hr with h1 | h1
  ·rw [show ((v.doing != 0)==true)=false by rw [h1];rfl];rfl
  ·cases (v.doing != 0)==true with
   | false=>rfl
   | true =>
     have hb:eE v.rite=true:=by unfold eE;simpa using h1
     rw [hb];rfl
 ·have hr2:¬(v.doing=0 \/ v.rite.step≠0):=hr
  have hd:v.doing≠0:=fun e=>hr (.inl e)
  have hs:v.rite.step=0:=by
   by_cases e:v.rite.step=0
   ·exact e
   ·exact absurd (.inr e) hr
  have e1:((v.doing != 0)==true)=true:=by simpa using hd
  have e2:eE v.rite=false:=by unfold eE;rw [hs];rfl
  refine .inr ⟨hr,?_⟩
  by_cases hj:v.doing=1 \/ v.doing=2
  ·obtain⟨j,ej,hjw,haw,hrp⟩:=h.job hj
   have hn:=Al h0 hjw haw (hrp hs)
   have hk:=h.rite
   have need0:j0 v=j.rk+4:=by unfold j0;rw [if_neg hr2,if_pos hj,ej]
   have eround:(bU v).val=(ey tI tN tLf adF v (j.next v.rite.reply)).val:=by
    unfold bU dm
    rw [e1,e2,ej]
    rcases hj with hj | hj
    ·rw [hj];exact nv (JobM.ok_of hjw)
    ·rw [hj];exact nv (JobM.ok_of hjw)
   have hkn:∀(d:Int) (c:Cl) (r:RiteM) (a:An),vd {v with doing:=d,call:=c,rite:=r,job:=some (j.next v.rite.reply).2,answer:=a}:=fun d c r a=>by
    refine II h.kj rfl ?_
    show bj {v with doing:=d,call:=c,rite:=r,job:=some (j.next v.rite.reply).2,answer:=a}=bj v
    have:bj v=bj {v with job:=some j}:=by rw [<- ej]
    rw [this,<- wv j v.rite.reply v]
    rfl
   generalize j.next v.rite.reply=nx at hn eround hkn
   cases hk12:nx.1.kind != 12 with
   | true =>
     have hne:nx.1.kind≠12:=by simpa using hk12
     have hcb:ClB n (v.sort==2) nx.1:=hn.res.elim (fun e=>absurd e hne) id
     obtain⟨ob,rr⟩:=lZ h0 hk hs hcb hK
     have ev:(ey tI tN tLf adF v nx).val=some (.normal,{v with doing:=2,call:=nx.1,rite:=db v.rite nx.1,job:=some nx.2}):=by
      unfold ey
      rw [hk12]
      exact nv ob
     refine⟨_,eround.trans ev,⟨hkn 2 nx.1 _ v.answer,⟨by show (0:Int)<=2;decide,by show (2:Int)<=4;decide⟩,rr.wf,rr.on,fun e=>absurd (show (2:Int)=0 from e) (by decide),fun _=>⟨nx.2,rfl,hn.wf,hn.aw,rr.off⟩⟩,rfl,?_⟩
     rw [need0]
     by_cases hb:(db v.rite nx.1).step=0
     ·have him:imm nx.1:=by
       by_cases hi:imm nx.1
       ·exact hi
       ·exact absurd hb (uP (hn.nk hne) hi)
      have:=hn.rk him
      unfold j0
      rw [if_neg (fun e=>e.elim (fun e=>absurd (show (2:Int)=0 from e) (by decide)) fun e=>e hb),if_pos (.inr rfl)]
      show nx.2.rk+4 < j.rk+4
      omega
     ·rw [tK (.inr hb)];omega
   | false =>
     obtain⟨ob,rr⟩:=lZ (c:=ig) h0 hk hs (.inr (.inr (.inl rfl))) hK
     have ev:(ey tI tN tLf adF v nx).val=some (.normal,{v with answer:=nx.1.ans,doing:=3,call:=ig,rite:=db v.rite ig,job:=some nx.2}):=by
      unfold ey
      rw [hk12]
      exact nv ob
     refine⟨_,eround.trans ev,⟨hkn 3 ig _ nx.1.ans,⟨by show (0:Int)<=3;decide,by show (3:Int)<=4;decide⟩,rr.wf,rr.on,fun e=>absurd (show (3:Int)=0 from e) (by decide),fun e=>absurd (show (3:Int)=1 \/ (3:Int)=2 from e) (by decide)⟩,rfl,?_⟩
     rw [need0]
     unfold j0
     split
     ·omega
     ·rw [if_neg (show ¬((3:Int)=1 \/ (3:Int)=2) by decide)];omega
  ·have ev:(bU v).val=some (.normal,{v with doing:=0}):=by
    unfold bU dm
    rw [e1,e2,show (v.doing==1)=false by simpa using fun e=>hj (.inl e),show (v.doing==2)=false by simpa using fun e=>hj (.inr e)]
    rfl
   refine⟨_,ev,⟨II h.kj rfl rfl,⟨by show (0:Int)<=0;decide,by show (0:Int)<=4;decide⟩,⟨B.mono h.rite.b (by omega),h.rite.call,h.rite.acc,h.rite.st⟩,h.call,fun _=>hs,fun e=>absurd (show (0:Int)=1 \/ (0:Int)=2 from e) (by decide)⟩,rfl,?_⟩
   rw [tK (.inl rfl)]
   unfold j0
   rw [if_neg hr2,if_neg hj];omega
theorem uV {n:Int} (h0:0<=n):∀(k:Nat) {K:Nat} {v:VerM},K+k<=100000->v.WF n K->j0 v<=k->∃v',bW bU k v=some (.exit 0,v') /\ v'.WF n (K+k) /\ v'.rest /\ v'.sort=v.sort
 | 0,K,v,hK,h,hn=>by
   exfalso
   have:j0 v=0:=by omega
   unfold j0 at this
   split at this
   ·cases this
   ·split at this
    ·rename_i hj
     obtain⟨j,ej,_⟩:=h.job hj
     rw [ej] at this
     have this:j.rk+4=0:=this
     omega
    ·cases this
 | k+1,K,v,hK,h,hn=>by
   rcases Hh h0 (by omega) h with⟨hr,e⟩ | ⟨_,v',e,hw,hso,hlt⟩
   ·refine⟨v,by rw [bW,e],⟨h.kj,h.dg,⟨B.mono h.rite.b (by omega),h.rite.call,h.rite.acc,h.rite.st⟩,h.call,h.idle,h.job⟩,hr,rfl⟩
   ·obtain⟨v2,e2,w2,r2,s2⟩:=uV h0 k (by omega) hw (by omega)
    exact⟨v2,by rw [bW,e];exact e2,by rw [show K+(k+1)=K+1+k by omega];exact w2,r2,s2.trans hso⟩
theorem Io {v:VerM}:j0 v<=ra:=by
 unfold j0 ra
 split
 ·decide
 ·split
  ·split
   ·rename_i j _
    have:=JobM.rk_le j;omega
   ·decide
  ·decide
theorem JX {n:Int} (h0:0<=n) {K:Nat} {v:VerM} (hK:K+16<=100000) (h:v.WF n K):rC v=true /\ (dI v).WF n (K+16) /\ (dI v).rest /\ (dI v).sort=v.sort:=by
 obtain⟨v',e,w,r,so⟩:=uV h0 ra (by show K+16<=_;exact hK) h Io
 have e2:JZ v=some (.exit 0,v'):=e
 have e3:dI v=v':=by unfold dI;rw [e2]
 refine⟨by unfold rC;rw [e2];rfl,?_⟩
 rw [e3];exact⟨w,r,so⟩
theorem Li {n:Int} {K:Nat} {v:VerM} (h:v.WF n K) (hr:v.rest) (hb:v.doing≠0):v.rite.step≠0 /\ (fJ v.rite).1=v.rite.acc /\ AcOk n (v.sort==2) v.rite.acc:=by
 have hs:v.rite.step≠0:=hr.elim (fun e=>absurd e hb) id
 refine⟨hs,?_,h.rite.acc hs⟩
 unfold fJ eE
 rw [show (v.rite.step==0)=false by simpa using hs]
 rfl
theorem GH {n:Nat} {K:Nat} {v:VerM} {p:PlotM} (hK:K<=100000) (h:v.WF n K) (hr:v.rest) (hb:v.doing≠0) (hp:p.WF n) (hd:Hd (v.sort==2) p) :
 ya v.rite=true /\ (oG v p).WF n (K+1) /\ p.valid (fJ v.rite).1 /\ (p.access (fJ v.rite).1).2.WF n /\ Hd (v.sort==2) (p.access (fJ v.rite).1).2:=by
 obtain⟨hs,ea,ha⟩:=Li h hr hb
 have hv:=ha.valid hp
 have hx:=qL hp hd hv ha.w ha.h
 rw [ea]
 obtain⟨ot,rr⟩:=Kr (by omega) h.rite hs ⟨hx.w,hx.al,hx.ld⟩ hK
 refine⟨ot,?_,hv,hx.wf,hx.h0⟩
 unfold oG
 rw [ea]
 rw [h.call hs] at rr
 refine⟨II h.kj rfl rfl,h.dg,rr.wf,rr.on,fun e=>absurd e hb,fun hj=>?_⟩
 obtain⟨j,ej,hjw,haw,_⟩:=h.job hj
 exact⟨j,ej,hjw,haw,rr.off⟩
theorem GG {n:Nat} {K:Nat} {v:VerM} {p:PlotM} (hK:K+17<=100000) (h:v.WF n K) (hr:v.rest) (hb:v.doing≠0) (hp:p.WF n) (hd:Hd (v.sort==2) p) :
 Dn v p /\ p.valid (fJ v.rite).1 /\ (cL v p).2.1.WF n (K+17) /\ (cL v p).2.1.rest /\ (cL v p).2.1.sort=v.sort /\ (cL v p).2.2.WF n /\ Hd (v.sort==2) (cL v p).2.2:=by
 obtain⟨h1,h2,h3,h4,h5⟩:=GH (by omega) h hr hb hp hd
 obtain⟨a1,a2,a3,a4⟩:=JX (by omega) (K:=K+1) (by omega) h2
 have e:(cL v p).2=(dI (oG v p),(p.access (fJ v.rite).1).2):=by
  unfold cL kt fZ
  have c:∀{b:Bool} {x y:Strd×VerM×PlotM} {q:VerM×PlotM},x.2=q->y.2=q->(cond b x y).2=q:=fun {b x y q} h1 h2=>by cases b<;>assumption
  repeat' first | exact rfl | apply c
 rw [e]
 exact⟨⟨h1,a1⟩,h3,a2,a3,a4,h4,h5⟩
end Go.Proofs.YtcpdipfepeccgaaGreatDoor

namespace Go.Proofs.YtcpdipfepeccgaaGreatDoor
open Go Go.Sx Go.Proofs
set_option maxRecDepth 100000
set_option maxHeartbeats 4000000
def Qp (s:Int) (o:O):Prop:=(s=1 /\ (o.kind=1 \/ o.kind=2 \/ o.kind=3)) \/ (s=2 /\ (o.kind=4 \/ o.kind=5)) \/ ((s=3 \/ s=4 \/ s=5) /\ (o.kind=6 \/ o.kind=7 \/ o.kind=8) /\ 0<=o.key /\ o.key < 256 /\ (o.kind=6->o.tall<=3))
theorem yu {o:O} (h:lR o=true):(o.kind=6 \/ o.kind=7 \/ o.kind=8) /\ 0<=o.key /\ o.key < 256 /\ (o.kind=6->o.tall<=3):=by
 unfold lR at h
 split at h
 ·cases h
 ·rename_i hk
  have hkey:0<=o.key /\ o.key < 256:=by
   split at hk
   ·rename_i h1
    have h1:¬o.key < 0:=of_decide_eq_false (eq_of_beq h1)
    have h2:¬o.key > 255:=of_decide_eq_false hk
    omega
   ·cases hk
  split at h
  ·rename_i h6
   have h6:o.kind=6:=eqI h6
   refine⟨.inl h6,hkey.1,hkey.2,fun _=>?_⟩
   split at h
   ·split at h
    ·split at h
     ·exact of_decide_eq_true h
     ·cases h
    ·cases h
   ·cases h
  ·rename_i h6
   have h6:o.kind≠6:=neI h6
   split at h
   ·rename_i h7
    exact⟨.inr (.inl (eqI h7)),hkey.1,hkey.2,fun e=>absurd e h6⟩
   ·split at h
    ·rename_i h8
     exact⟨.inr (.inr (eqI h8)),hkey.1,hkey.2,fun e=>absurd e h6⟩
    ·cases h
theorem A0 {o:O} (h:l5 o=false):lR o=true:=by
 unfold l5 at h
 split at h
 ·rename_i hg
  have hg:(!lR o)=false:=eq_of_beq hg
  simpa using hg
 ·cases h
theorem JN {o:O} (h:yI o=false):lR o=true:=by
 unfold yI at h
 split at h
 ·rename_i hg
  have hg:(!lR o)=false:=eq_of_beq hg
  simpa using hg
 ·cases h
theorem DI {s:Int} {o:O} (h:cX s o=true):Qp s o:=by
 unfold cX at h
 by_cases h1:s=1
 ·rw [if_pos h1] at h
  refine .inl ⟨h1,?_⟩
  unfold ku at h
  cases a:o.kind==1 with
  | true=>exact .inl (eqI a)
  | false =>
    cases b:o.kind==2 with
    | true=>exact .inr (.inl (eqI b))
    | false =>
      cases d:o.kind==3 with
      | true=>exact .inr (.inr (eqI d))
      | false=>rw [a,b,d] at h;cases h
 rw [if_neg h1] at h
 by_cases h2:s=2
 ·rw [if_pos h2] at h
  refine .inr (.inl ⟨h2,?_⟩)
  unfold kK at h
  cases a:o.kind==4 with
  | true=>exact .inl (eqI a)
  | false =>
    cases b:o.kind==5 with
    | true=>exact .inr (eqI b)
    | false=>rw [a,b] at h;cases h
 rw [if_neg h2] at h
 by_cases h3:s=3
 ·rw [if_pos h3] at h
  unfold kU at h
  cases a:l5 o with
  | true=>rw [a] at h;cases h
  | false=>exact .inr (.inr ⟨.inl h3,yu (A0 a)⟩)
 rw [if_neg h3] at h
 by_cases h4:s=4
 ·rw [if_pos h4] at h
  unfold oz at h
  cases a:l5 o with
  | true=>rw [a] at h;cases h
  | false=>exact .inr (.inr ⟨.inr (.inl h4),yu (A0 a)⟩)
 rw [if_neg h4] at h
 by_cases h5:s=5
 ·rw [if_pos h5] at h
  unfold oL at h
  cases a:yI o with
  | true=>rw [a] at h;cases h
  | false=>exact .inr (.inr ⟨.inr (.inr h5),yu (JN a)⟩)
 rw [if_neg h5] at h
 cases h
theorem zV {n:Int} (h0:0<=n) {s:Int} {o:O} (h:Qp s o) (c:Cl):(fq s.toNat o).WF n (s==2) /\ (fq s.toNat o).aw c:=by
 have z:∀{p:Int} {P:Prop},(0:Int)=p->p≠0->P:=fun h h2=>absurd h.symm h2
 rcases h with⟨rfl,hk⟩ | ⟨rfl,hk⟩ | ⟨hs,hk,k0,k1,ht⟩
 ·refine⟨⟨⟨hk,.inr (.inl rfl),fun e=>z e (by decide),ao h0,ao h0,fun _ e=>absurd (show (0:Int)=2 \/ (0:Int)=3 \/ (0:Int)=4 from e) (by decide)⟩,rfl⟩,trivial⟩
 ·refine⟨⟨⟨hk,.inr (.inl rfl),fun e=>z e (by decide),ao h0,ao h0,ao h0,ao h0,fun _ e=>absurd (show (0:Int)=2 \/ (0:Int)=3 \/ (0:Int)=4 \/ (0:Int)=6 \/ (0:Int)=7 from e) (by decide),fun _ e=>absurd (show (0:Int)=6 \/ (0:Int)=7 from e) (by decide)⟩,rfl⟩,fun _ e=>absurd (show (0:Int)=1 from e) (by decide)⟩
 ·rcases hs with rfl | rfl | rfl
  ·exact⟨⟨wy h0 (cq (by decide) (by decide)) hk,rfl⟩,wz⟩
  ·refine⟨⟨⟨⟨k0,k1⟩,hk,⟨by show (0:Int)<=0;decide,by show (0:Int) < 8;decide⟩,.inr (.inl rfl),fun e=>z e (by decide),fun e=>z e (by decide),fun e=>absurd (show (3:Int)<=0 from e.1) (by decide),ao h0,ao h0,ao h0,ao h0,fun e=>absurd (show (4:Int)<=0 from e.1) (by decide),fun w e=>(by cases e),fun e=>z e (by decide)⟩,rfl⟩,⟨fun e=>z e (by decide),fun e=>z e (by decide)⟩⟩
  ·refine⟨⟨⟨hk,ht,?_,fun e=>z e (by decide),ao h0,fun e=>?_,fun c e=>(by cases e),fun e=>?_⟩,rfl⟩,fun _ e=>absurd (show (0:Int)=1 from e) (by decide)⟩
   ·rcases hk with hk | hk | hk
    ·exact .inl ⟨hk,.inr (.inl rfl)⟩
    ·exact .inr (.inl ⟨hk,.inr (.inl rfl)⟩)
    ·exact .inr (.inr (.inl ⟨hk,.inr (.inl rfl)⟩))
   ·rcases e with⟨_,e⟩ | ⟨_,e⟩ | e
    ·exact absurd (show (2:Int)<=0 from e) (by decide)
    ·exact absurd (show (2:Int)<=0 from e) (by decide)
    ·exact absurd (show (101:Int)<=0 from e) (by decide)
   ·rcases e with⟨_,e⟩ | ⟨_,e⟩
    ·exact absurd (show (0:Int)=7 \/ (0:Int)=9 \/ (0:Int)=10 \/ (0:Int)=11 \/ (0:Int)=12 from e) (by decide)
    ·exact absurd (show (0:Int)=3 \/ (0:Int)=4 \/ (0:Int)=5 from e) (by decide)
theorem Ly {s:Int} (h1:1<=s) (h5:s<=5) (o:O) (v:VerM):(bj {v with job:=some (fq s.toNat o)}:Int)=s:=by
 rcases (by omega:s=1 \/ s=2 \/ s=3 \/ s=4 \/ s=5) with rfl | rfl | rfl | rfl | rfl<;>rfl
theorem LP {n:Int} (h0:0<=n) {K:Nat} {v:VerM} (hK:K+17<=100000) (h:v.WF n K) (hb:v.doing=0) {o:O} (hf:cX v.sort o=true):zF v o /\ (lT v o).WF n (K+17) /\ (lT v o).rest /\ (lT v o).sort=v.sort:=by
 have hop:=DI hf
 obtain⟨ob,rr⟩:=lZ (c:=fN) h0 h.rite (h.idle hb) (.inr (.inl rfl)) (by omega)
 obtain⟨jw,ja⟩:=zV h0 hop fN
 have hw:(vn db v.sort.toNat v o).WF n (K+1):=by
  refine⟨⟨h.kj.1,h.kj.2.1,.inr (Ly h.kj.1 h.kj.2.1 o v)⟩,⟨by show (0:Int)<=1;decide,by show (1:Int)<=4;decide⟩,rr.wf,rr.on,fun e=>absurd (show (1:Int)=0 from e) (by decide),fun _=>⟨_,rfl,jw,ja,rr.off⟩⟩
 obtain⟨a1,a2,a3,a4⟩:=JX h0 (K:=K+1) (by omega) hw
 exact⟨⟨ob,a1⟩,a2,a3,a4⟩
theorem EV {n:Int} (h0:0<=n) {s e me th no:Int} (hs:1<=s /\ s<=5) (he:1<=e /\ e<=5) (ht:1<=th /\ th<=6) (hm:0<=me /\ me < th):(nM (s,e,me,th,no)).WF n 0 /\ (nM (s,e,me,th,no)).rest:=by
 refine⟨⟨⟨hs.1,hs.2,.inl rfl⟩,⟨by show (0:Int)<=0;decide,by show (0:Int)<=4;decide⟩,⟨⟨he,⟨hm.1,by show me < 6;omega⟩,ht,⟨ao h0,ao h0,ao h0,ao h0,ao h0,ao h0,ao h0,ao h0,ao h0⟩,fun x hx=>(by cases hx),Nat.le_refl _,ao h0,Nat.zero_le _⟩,fun e=>absurd rfl e,fun e=>absurd rfl e,.inl rfl⟩,fun e=>absurd rfl e,fun _=>rfl,fun e=>absurd (show (0:Int)=1 \/ (0:Int)=2 from e) (by decide)⟩,.inl rfl⟩
theorem VerM.WF.mono {n:Int} {K K':Nat} {v:VerM} (h:v.WF n K) (hk:K<=K'):v.WF n K':=⟨h.kj,h.dg,⟨B.mono h.rite.b hk,h.rite.call,h.rite.acc,h.rite.st⟩,h.call,h.idle,h.job⟩
end Go.Proofs.YtcpdipfepeccgaaGreatDoor

namespace Go.Proofs.YtcpdipfepeccgaaGreatDoor
open Go Go.Sx Go.Proofs
set_option maxRecDepth 100000
set_option maxHeartbeats 4000000
variable {σ:Sg} {lp:Lp}
noncomputable def nwM:NwF:=⟨fun x=>hZ x.toNat,yH,nM⟩
structure Cfg where
 s:Int
 e:Int
 n:Int
 sl:Int
 no:Int
def aCfg:ArgK Cfg where
 enc x:=[.v (.agg [.it .i64 x.s,.it .i64 x.e,.it .i64 x.n,.it .i64 x.sl,.it .i64 x.no])]
 dec:=fun | [.v (.agg [a,b,c,d,e])]=>(match iOf a,iOf b,iOf c,iOf d,iOf e with | some a,some b,some c,some d,some e=>some ⟨a,b,c,d,e⟩ | _,_,_,_,_=>none) | _=>none
 ok:=fun l a h ρ=>by
  split at h
  ·split at h
   ·rename_i h0 h1 h2 h3 h4
    cases h
    simp only [List.map_cons,List.map_nil,SV.den,V1.den,ae,aM h0 ρ,aM h1 ρ,aM h2 ρ,aM h3 ρ,aM h4 ρ];rfl
   ·cases h
  ·cases h
 free:=fun _=>rfl
@[reducible] def oPar:ObK ParM:=⟨gH,HO,fun _ _=>BW,fun _=>rfl⟩
def vk (n:Int):List Int:=(List.range n.toNat).map fun(i:Nat)=>(i:Int)
def HP:ParM:=⟨0,hZ 0,[],[]⟩
noncomputable def dr (c:Cfg):ParM:=dA cond (fun _ t=>t) HP id nwM c.s.toNat c.e (vk c.n) c.n c.sl c.no
noncomputable def Dr (c:Cfg):Bool:=dA cond bN false (fun _=>true) nwM c.s.toNat c.e (vk c.n) c.n c.sl c.no
def HZ (c:Cfg):Prop:=1<=c.s /\ c.s<=5 /\ 1<=c.n /\ c.n<=6
theorem m5 {γ α:Type} {f:γ->α} {s:String} {x:γ}:rH f (.fail s) false x:=fun h=>by cases h
theorem Pb (F:NwF) (s:Nat) (e:Int) (is:List Int) (n sl no:Int):rH (fun m:ParM=>m) (dA tI tN nwF nwL F s e is n sl no) (dA cond bN false (fun _=>true) F s e is n sl no) (dA cond (fun _ t=>t) HP id F s e is n sl no):=by
 unfold dA Ag
 dsimp only
 have bd:∀(k:Int) (is:List Int) {t:T (Option ParM)} {b:Bool} {x:ParM},rH (fun m:ParM=>m) t b x->rH (fun m:ParM=>m) (lM tN F.bad (Int.ofNat s) e no k t is) (lM bN F.bad (Int.ofNat s) e no k b is) (lM (fun _ t=>t) F.bad (Int.ofNat s) e no k x is):=fun k is {t b x} h=>by
  induction is with
  | nil=>exact h
  | cons i r ih=>exact fT ih
 refine jT m5 (fT (fT (jT ?_ m5)))
 split
 ·unfold Ah
  dsimp only
  refine fT (jT (jT m5 (fT (jT (fT (jT ?_ m5)) m5))) m5)
  exact bd n is (fT (fT fun _=>rfl))
 ·unfold Ah
  dsimp only
  refine fT (jT (jT m5 (fT (jT (fT (jT ?_ m5)) m5))) m5)
  exact bd n is (fT (fT fun _=>rfl))
 ·exact bd n is (fT (fT fun _=>rfl))
theorem Cx {r:SV×List AV×List AV} {m:ParM} (h:Jo r=some m):r=(.tup [.c (.ptr 8 0),.c .inil],[],[.par m]):=by
 unfold Jo at h
 split at h
 ·cases h;rfl
 ·cases h
theorem Gi:bm Tryz.prog (NV σ) (Nq σ nwM):=aj B7 (aj Jn (aj DZ au))
theorem Pc (σ:Sg) (s n:Nat) (e sl no:Int) (hs:1<=s /\ s<=5) (hn:1<=n /\ n<=6):cA σ nwM s e n sl no=dA tI tN nwF nwL nwM s e (vk n) n sl no:=by
 rcases (by omega:s=1 \/ s=2 \/ s=3 \/ s=4 \/ s=5) with rfl | rfl | rfl | rfl | rfl<;>rcases (by omega:n=1 \/ n=2 \/ n=3 \/ n=4 \/ n=5 \/ n=6) with rfl | rfl | rfl | rfl | rfl | rfl
 ·exact R9 σ nwM e sl no
 ·exact R8 σ nwM e sl no
 ·exact R7 σ nwM e sl no
 ·exact R6 σ nwM e sl no
 ·exact R5 σ nwM e sl no
 ·exact R4 σ nwM e sl no
 ·exact R3 σ nwM e sl no
 ·exact R2 σ nwM e sl no
 ·exact R1 σ nwM e sl no
 ·exact R0 σ nwM e sl no
 ·exact RZ σ nwM e sl no
 ·exact RY σ nwM e sl no
 ·exact RX σ nwM e sl no
 ·exact RW σ nwM e sl no
 ·exact RV σ nwM e sl no
 ·exact RU σ nwM e sl no
 ·exact RS σ nwM e sl no
 ·exact RR σ nwM e sl no
 ·exact RQ σ nwM e sl no
 ·exact RP σ nwM e sl no
 ·exact RO σ nwM e sl no
 ·exact RN σ nwM e sl no
 ·exact RM σ nwM e sl no
 ·exact RL σ nwM e sl no
 ·exact RK σ nwM e sl no
 ·exact RJ σ nwM e sl no
 ·exact RI σ nwM e sl no
 ·exact RH σ nwM e sl no
 ·exact RG σ nwM e sl no
 ·exact RF σ nwM e sl no
theorem EW:FnOk Tryz.prog (NV σ) 14 (aL isS mNw (jh aCfg oPar (fun c=>some (cH (HZ c /\ Dr c=true))) dr)):=by
 refine b9 bk (bQ _) fun args l v l' nw h hl hargs=>?_
 unfold jh at h
 split at h
 ·split at h
  ·rename_i c hc
   replace h:=dB h
   obtain⟨hok,h⟩:=h
   obtain⟨hcf,hnew⟩:=cK (show cH _=true from hok)
   simp only [T.val,Option.some.injEq,Prod.mk.injEq] at h
   obtain⟨rfl,rfl,rfl⟩:=h
   obtain⟨s,e,n,sl,no⟩:=c
   obtain⟨h1,h2,h3,h4⟩:=hcf
   dsimp only at h1 h2 h3 h4
   obtain⟨s,rfl⟩:∃k:Nat,s=(k:Int):=⟨s.toNat,by omega⟩
   obtain⟨n,rfl⟩:∃k:Nat,n=(k:Int):=⟨n.toNat,by omega⟩
   have hr:=Pb nwM s e (vk n) n sl no hnew
   have hv:(cA σ nwM s e n sl no).val=some (some (dr ⟨s,e,n,sl,no⟩)):=(congrArg T.val (Pc σ s n e sl no ⟨by omega,by omega⟩ ⟨by omega,by omega⟩)).trans hr
   obtain⟨y,g1,g2⟩:=map_some hv
   have g2:=Cx g2
   subst g2
   have hctr:=gZ (Hb fL (ny Gi) (M:=mNw) (bQ _) (bL rfl) g1)
   exact bE hctr fun ρ=>by rw [<- aCfg.ok _ _ hc ρ];rfl
  ·simp [T.val] at h
 ·simp [T.val] at h
end Go.Proofs.YtcpdipfepeccgaaGreatDoor

namespace Go.Proofs.YtcpdipfepeccgaaGreatDoor
open Go Go.Sx Go.Proofs
set_option maxRecDepth 100000
set_option maxHeartbeats 4000000
theorem qB:∀{k:Nat} {x:N1},x∈kV k->1<=x.val /\ x.val<=(k:Int)
 | 0,x,h=>by cases h
 | k+1,x,h=>by
   rcases List.mem_cons.1 h with rfl | h
   ·exact⟨by show 1<=((k+1:Nat):Int);omega,Int.le_refl _⟩
   ·have:=qB h;omega
theorem AJ:∀(k:Nat),((kV k).map N1.val).Nodup
 | 0=>List.nodup_nil
 | k+1=>by
   refine List.nodup_cons.2 ⟨fun h=>?_,AJ k⟩
   obtain⟨y,hy,e⟩:=List.mem_map.1 h
   have:=qB hy
   have e:y.val=((k+1:Nat):Int):=e
   omega
theorem OM {k:Nat} {i:Nat}:(List.replicate k slZ).getD i kslots.dflt=slZ \/ (List.replicate k slZ).getD i kslots.dflt=kslots.dflt:=by
 rw [List.getD_eq_getElem?_getD,List.getElem?_replicate]
 split
 ·exact .inl rfl
 ·exact .inr rfl
theorem B6 {k:Nat} (hk:k<=1024):(hZ k).WF k:=by
 have hz:WOk k aq:=ao (by omega)
 refine⟨hk,rfl,List.length_replicate,fun w hw=>?_,fun s hs=>?_,fun s hs w hw=>?_,fun x hx=>qB hx,fun x hx=>?_,AJ k⟩
 ·rw [List.eq_of_mem_replicate (show w∈List.replicate 85 aq from hw)];exact hz
 ·rw [List.eq_of_mem_replicate (show s∈List.replicate k slZ from hs)];rfl
 ·rw [List.eq_of_mem_replicate (show s∈List.replicate k slZ from hs)] at hw
  simp only [slZ,List.mem_cons,List.not_mem_nil,or_false] at hw
  rcases hw with rfl | rfl | rfl | rfl | rfl | rfl | rfl | rfl | rfl | rfl<;>exact hz
 ·show ((List.replicate k slZ).getD _ kslots.dflt).used=false
  rcases OM (k:=k) (i:=(x.val - 1).toNat) with h | h<;>rw [h]<;>rfl
theorem fY {n:Nat} {p:PlotM} (h:p.WF n) {f:Int} {w:W} (h0:0<=f) (h1:f < 85):p.valid (qM f w):=by
 show (if (2:Int)=1 \/ (2:Int)=2 \/ (2:Int)=3 then p.hasA 0 0 f else _)
 rw [if_pos (by decide)]
 unfold PlotM.hasA
 rw [if_pos rfl,h.lb]
 exact⟨rfl,h0,h1⟩
theorem sI {n:Nat} {p:PlotM} (h:p.WF n) {f:Int} {w:W} (h0:0<=f) (h1:f < 85) (hw:WOk n w):(p.access (qM f w)).2.WF n :=
 (qL (hd:=false) h (fun e=>by cases e) (fY h h0 h1) hw fun e=>by cases e).wf
theorem DX {n:Nat} {p:PlotM} (h:p.WF n) (hf:p.free.length≠0):(p.access pN).1.ok=true /\ 1<=(p.access pN).1.w.slot /\ WOk n (p.access pN).1.w /\ (p.access pN).2.WF n:=by
 have hv:p.valid pN:=by
  show (if (4:Int)=1 \/ (4:Int)=2 \/ (4:Int)=3 then _ else if (4:Int)=4 then True else _)
  rw [if_neg (by decide),if_pos rfl];trivial
 have ha:=qL (hd:=false) h (fun e=>by cases e) hv (ao (by omega)) fun e=>by cases e
 have hok:(p.access pN).1.ok=true:=by
  show (PlotM.alloc {p with steps:=bp p.steps} 0).1.ok=true
  unfold PlotM.alloc
  rw [if_neg (show ¬({p with steps:=bp p.steps}:PlotM).free.length=0 from hf)]
 exact⟨hok,ha.al rfl hok,ha.w,ha.wf⟩
structure ParM.WF (n:Nat) (K:Nat) (m:ParM):Prop where
 so:1<=m.sort /\ m.sort<=5
 th:1<=m.threads.length /\ m.threads.length<=6
 plot:m.plot.WF n
 hd:Hd (m.sort==2) m.plot
 ver:∀r∈m.threads,r.ver.WF n K /\ r.ver.rest /\ r.ver.sort=m.sort
 qu:∀r∈m.threads,∀o∈r.queue,cX m.sort o=true
 ql:∀r∈m.threads,r.queue.length<=100000
 la:∀r∈m.threads,r.last < (m.beats.length:Int)
 bl:m.beats.length<=K
theorem gm {mv:Int×Int×Int×Int×Int->VerM} {s e no n:Int}:∀{is:List Int} {r:RosM},r∈nO mv s e no n is->∃i∈is,r=⟨mv (s,e,i,n,no),[],0,-1⟩
 | [],r,h=>by cases h
 | i::is,r,h=>by
   rcases List.mem_cons.1 h with rfl | h
   ·exact⟨i,List.mem_cons_self,rfl⟩
   ·obtain⟨j,h1,h2⟩:=gm h
    exact⟨j,List.mem_cons_of_mem _ h1,h2⟩
theorem nN {mv:Int×Int×Int×Int×Int->VerM} {s e no n:Int}:∀(is:List Int),(nO mv s e no n is).length=is.length
 | []=>rfl
 | i::is=>congrArg (·+1) (nN is)
theorem zQ {bad:Int×Int×Int×Int×Int->Bool} {s e no n:Int}:∀{is:List Int},(∀i∈is,bad (s,e,i,n,no)=false)->lM bN bad s e no n true is=true
 | [],_=>rfl
 | i::is,h=>by
   show (!(bad (s,e,i,n,no))&&lM bN bad s e no n true is)=true
   rw [h i List.mem_cons_self,zQ fun j hj=>h j (List.mem_cons_of_mem _ hj)];rfl
theorem zR {bad:Int×Int×Int×Int×Int->Bool} {s e no n:Int} {m:ParM}:∀{is:List Int},lM (fun _ t=>t) bad s e no n m is=m
 | []=>rfl
 | i::is=>zR (is:=is)
theorem JM {s e i n no:Int} (hs:1<=s /\ s<=5) (he:1<=e /\ e<=5) (hn:1<=n /\ n<=6) (hno:1<=no /\ no<=64) (hi:0<=i /\ i < n):yH (s,e,i,n,no)=false:=by
 unfold yH pH
 dsimp only
 rw [decide_eq_false (show ¬s < 1 by omega),decide_eq_false (show ¬s > 5 by omega),decide_eq_false (show ¬e < 1 by omega),decide_eq_false (show ¬e > 5 by omega),decide_eq_false (show ¬n < 1 by omega),decide_eq_false (show ¬n > 6 by omega),
  decide_eq_false (show ¬i < 0 by omega),decide_eq_false (show ¬i>=n by omega),decide_eq_false (show ¬no < 1 by omega),decide_eq_false (show ¬no > 64 by omega)]
 rfl
theorem Ao {n i:Int} (h:i∈vk n):0<=i /\ i < n:=by
 obtain⟨k,hk,rfl⟩:=List.mem_map.1 h
 have:=List.mem_range.1 hk
 omega
theorem Ap (n:Int):(vk n).length=n.toNat:=by unfold vk;rw [List.length_map,List.length_range]
structure Cfg.Good (c:Cfg):Prop where
 s:1<=c.s /\ c.s<=5
 e:1<=c.e /\ c.e<=5
 n:1<=c.n /\ c.n<=6
 sl:1<=c.sl /\ c.sl<=1024
 no:1<=c.no /\ c.no<=64
theorem I3 {e sl no:Int} (he:1<=e /\ e<=5) (hs:1<=sl /\ sl<=1024) (hn:1<=no /\ no<=64):I4 e sl no=true:=by
 unfold I4
 rw [decide_eq_true (show e>=1 by omega),decide_eq_true (show e<=5 by omega),decide_eq_true (show sl>=0 by omega),decide_eq_true (show sl<=1024 by omega),decide_eq_true (show no>=1 by omega),decide_eq_true (show no<=64 by omega)]
 rfl
theorem IC {n:Nat} {p:PlotM} (h:p.WF n) (hf:p.free.length≠0) {f1 f2:Int} (h1:0<=f1 /\ f1 < 85) (h2:0<=f2 /\ f2 < 85) {w1 w2:W->W} (hw1:∀{w},WOk n w->WOk n (w1 w)) (hw2:∀{w},WOk n w->WOk n (w2 w)) :
 ∃x,1<=x.slot /\ WOk n x /\ ∃p',p'.WF n /\ p'.board=((p.access pN).2.board.set f1.toNat (w1 x)).set f2.toNat (w2 x) /\
   (∀(k:PlotM->Bool),Ah cond bN false f1 f2 w1 w2 p k=k p') /\ (∀(k:PlotM->ParM),Ah cond (fun _ t=>t) HP f1 f2 w1 w2 p k=k p'):=by
 obtain⟨a1,a2,a3,a4⟩:=DX h hf
 refine⟨(p.access pN).1.w,a2,a3,(((p.access pN).2.access (qM f1 (w1 (p.access pN).1.w))).2.access (qM f2 (w2 (p.access pN).1.w))).2,?_,rfl,fun k=>?_,fun k=>?_⟩
 ·exact sI (sI a4 h1.1 h1.2 (hw1 a3)) h2.1 h2.2 (hw2 a3)
 ·have b1:=sI a4 h1.1 h1.2 (hw1 a3)
  unfold Ah
  dsimp only
  rw [a1,decide_eq_true h.ok,decide_eq_true a4.ok,decide_eq_true (fY a4 h1.1 h1.2),decide_eq_true b1.ok,decide_eq_true (fY b1 h2.1 h2.2)]
  rfl
 ·have b1:=sI a4 h1.1 h1.2 (hw1 a3)
  unfold Ah
  dsimp only
  rw [a1,decide_eq_true (fY a4 h1.1 h1.2),decide_eq_true (fY b1 h2.1 h2.2)]
  rfl
theorem SH {n:Nat} {p:PlotM} (h:p.WF n) (hf:p.free.length≠0) (s:Nat) :
 ∃p',p'.WF n /\ Hd ((s:Int)==2) p' /\ (∀(k:PlotM->Bool),Ag cond bN false s p k=k p') /\ (∀(k:PlotM->ParM),Ag cond (fun _ t=>t) HP s p k=k p'):=by
 by_cases h2:s=2
 ·subst h2
  obtain⟨x,x1,x2,p',w,eb,k1,k2⟩:=IC (f1:=0) (f2:=1) (w1:=ko) (w2:=ko) h hf (by decide) (by decide) (fun h=>aV h) (fun h=>aV h)
  refine⟨p',w,fun _=>?_,k1,k2⟩
  rw [eb]
  have hne:(p.access pN).2.board≠[]:=fun e=>by
   have:=(DX h hf).2.2.2.lb
   rw [e] at this;cases this
  have hne2:(p.access pN).2.board.set (0:Int).toNat (ko x)≠[]:=fun e=>by
   have:=congrArg List.length e
   rw [List.length_set] at this
   exact hne (List.length_eq_zero_iff.1 this)
  rw [qw hne2,if_neg (by decide),qw hne,if_pos (by decide)]
  exact x1
 ·have hd:∀q,Hd ((s:Int)==2) q=Hd false q:=fun q=>by rw [show ((s:Int)==2)=false by simpa using (by omega:¬(s:Int)=2)]
  by_cases h4:s=4
  ·subst h4
   obtain⟨x,x1,x2,p',w,eb,k1,k2⟩:=IC (f1:=8) (f2:=16) (w1:=ko) (w2:=fun _=>g9 1) h hf (by decide) (by decide) (fun h=>aV h) (fun h=>dj (by omega) _)
   exact⟨p',w,(by rw [hd];exact fun(e:false=true)=>(by cases e)),k1,k2⟩
  ·refine⟨p,h,(by rw [hd];exact fun(e:false=true)=>(by cases e)),fun k=>?_,fun k=>?_⟩
   ·unfold Ag;split<;>first | omega | rfl
   ·unfold Ag;split<;>first | omega | rfl
theorem wx {c:Cfg} (h:c.Good):HZ c /\ Dr c=true /\ (dr c).WF c.sl.toNat 0 /\ (dr c).sort=c.s /\ (dr c).threads.length=c.n.toNat /\ (dr c).beats=[] /\ ∀r∈(dr c).threads,r.queue=[] /\ r.ver.doing=0 /\ r.given=0:=by
 have hk:c.sl.toNat<=1024:=by have:=h.sl;omega
 have w0:=B6 hk
 have w1:=sI w0 (f:=24) (w:=g9 1) (by decide) (by decide) (dj (by omega) _)
 have hf:((hZ c.sl.toNat).access (qM 24 (g9 1))).2.free.length≠0:=by
  show (kV c.sl.toNat).length≠0
  rw [mF]
  have:=h.sl;omega
 obtain⟨p',wp,hd,k1,k2⟩:=SH w1 hf c.s.toNat
 have es:((c.s.toNat:Nat):Int)=c.s:=by have:=h.s;omega
 have eNew:dr c=⟨c.s,p',nO nM c.s c.e c.no c.n (vk c.n),[]⟩:=by
  unfold dr dA
  rw [I3 h.e h.sl h.no]
  rw [show nwM.np c.sl=hZ c.sl.toNat from rfl,decide_eq_true (fY w0 (by decide) (by decide))]
  show Ag cond (fun _ t=>t) HP c.s.toNat _ _=_
  rw [k2,zR,es];rfl
 refine⟨⟨h.s.1,h.s.2,h.n.1,h.n.2⟩,?_,?_,?_,?_,?_,?_⟩
 ·unfold Dr dA
  rw [I3 h.e h.sl h.no]
  rw [show nwM.np c.sl=hZ c.sl.toNat from rfl,decide_eq_true (show 0<=c.sl /\ c.sl<=1024 /\ (85:Int)=85 from⟨by have:=h.sl;omega,h.sl.2,rfl⟩),decide_eq_true w0.ok,decide_eq_true (fY w0 (by decide) (by decide))]
  show Ag cond bN false c.s.toNat _ _=true
  rw [k1]
  refine zQ fun i hi=>?_
  rw [es]
  exact JM h.s h.e h.n h.no (Ao hi)
 ·rw [eNew]
  refine⟨h.s,?_,wp,by rw [es] at hd;exact hd,fun r hr=>?_,fun r hr=>?_,fun r hr=>?_,fun r hr=>?_,Nat.le_refl _⟩
  ·show 1<=(nO nM c.s c.e c.no c.n (vk c.n)).length /\ _
   rw [nN,Ap];have:=h.n;omega
  ·obtain⟨i,hi,rfl⟩:=gm hr
   have:=EV (n:=(c.sl.toNat:Nat)) (by omega) h.s h.e h.n (no:=c.no) (Ao hi)
   exact⟨this.1,this.2,rfl⟩
  ·obtain⟨i,hi,rfl⟩:=gm hr
   intro o ho;cases ho
  ·obtain⟨i,hi,rfl⟩:=gm hr
   exact Nat.zero_le _
  ·obtain⟨i,hi,rfl⟩:=gm hr
   show (-1:Int) < 0;decide
 ·rw [eNew]
 ·rw [eNew];show (nO nM c.s c.e c.no c.n (vk c.n)).length=_;rw [nN,Ap]
 ·rw [eNew]
 ·rw [eNew]
  intro r hr
  obtain⟨i,hi,rfl⟩:=gm hr
  exact⟨rfl,rfl,rfl⟩
end Go.Proofs.YtcpdipfepeccgaaGreatDoor

namespace Go.Proofs.YtcpdipfepeccgaaGreatDoor
open Go Go.Sx Go.Proofs
set_option maxRecDepth 100000
set_option maxHeartbeats 4000000
theorem BE (k v t:Int) (x:Rp1):((fq (5:Int).toNat ⟨6,k,v,t⟩).next x).1.kind=8:=by kernel_rfl
theorem BD (k v t:Int) (x:Rp1):((fq (5:Int).toNat ⟨7,k,v,t⟩).next x).1.kind=6:=by kernel_rfl
theorem BC (k v t:Int) (x:Rp1):((fq (5:Int).toNat ⟨8,k,v,t⟩).next x).1.kind=6:=by kernel_rfl
theorem Ch {s:Int} {o:O} (h:Qp s o) (x:Rp1):((fq s.toNat o).next x).1.kind=8 \/ ((fq s.toNat o).next x).1.kind=6 \/ ((fq s.toNat o).next x).1.kind=3:=by
 obtain⟨kd,key,val,tall⟩:=o
 rcases h with⟨rfl,hk⟩ | ⟨rfl,hk⟩ | ⟨hs,hk,_⟩
 ·have hk:kd=1 \/ kd=2 \/ kd=3:=hk
  rcases hk with rfl | rfl | rfl
  ·exact .inl rfl
  ·exact .inr (.inl rfl)
  ·exact .inr (.inl rfl)
 ·have hk:kd=4 \/ kd=5:=hk
  rcases hk with rfl | rfl
  ·exact .inl rfl
  ·exact .inr (.inl rfl)
 ·have hk:kd=6 \/ kd=7 \/ kd=8:=hk
  rcases hs with rfl | rfl | rfl
  ·rcases hk with rfl | rfl | rfl
   ·exact .inl rfl
   ·exact .inr (.inl rfl)
   ·exact .inr (.inl rfl)
  ·exact .inr (.inr rfl)
  ·rcases hk with rfl | rfl | rfl
   ·exact .inl (BE ..)
   ·exact .inr (.inl (BD ..))
   ·exact .inr (.inl (BC ..))
theorem qQ {v:VerM} (hd:v.doing≠0) (hs:v.rite.step≠0):(bU v).val=some (.exit 0,v):=by
 unfold bU dm
 rw [show ((v.doing != 0)==true)=true by simpa using hd,show eE v.rite=true by unfold eE;simpa using hs]
 rfl
theorem JY {v:VerM} (hd:v.doing≠0) (hs:v.rite.step≠0):dI v=v:=by
 have e:JZ v=some (.exit 0,v):=by
  show bW bU 16 v=_
  rw [bW,qQ hd hs]
 unfold dI;rw [e]
theorem Fb {n:Int} (h0:0<=n) {K:Nat} {v:VerM} (hK:K+17<=100000) (h:v.WF n K) (hb:v.doing=0) {o:O} (hf:cX v.sort o=true):(lT v o).doing≠0:=by
 have hop:=DI hf
 obtain⟨ob,rr⟩:=lZ (c:=fN) h0 h.rite (h.idle hb) (.inr (.inl rfl)) (by omega)
 obtain⟨jw,ja⟩:=zV h0 hop fN
 unfold lT
 generalize hw0:vn db v.sort.toNat v o=w
 have wd:w.doing=1:=by rw [<- hw0];rfl
 have wr:w.rite=db v.rite fN:=by rw [<- hw0];rfl
 have wj:w.job=some (fq v.sort.toNat o):=by rw [<- hw0];rfl
 by_cases hs:w.rite.step=0
 ·have hrp:RpFor n (v.sort==2) fN w.rite.reply:=by rw [wr] at hs ⊢;exact rr.off hs
  have hn:=Al h0 jw ja hrp
  have hfr:=Ch hop w.rite.reply
  have hne:((fq v.sort.toNat o).next w.rite.reply).1.kind≠12:=by omega
  have hcl:=hn.nk hne
  have hni:¬imm ((fq v.sort.toNat o).next w.rite.reply).1:=fun e=>by unfold imm at e;omega
  have wrw:w.rite.WF n (v.sort==2) (K+1):=by rw [wr];exact rr.wf
  obtain⟨ob2,rr2⟩:=lZ h0 wrw hs (hn.res.elim (fun e=>absurd e hne) id) (by omega)
  have e1:(bU w).val=some (.normal,{w with doing:=2,call:=((fq v.sort.toNat o).next w.rite.reply).1,rite:=db w.rite ((fq v.sort.toNat o).next w.rite.reply).1,job:=some ((fq v.sort.toNat o).next w.rite.reply).2}):=by
   unfold bU dm
   rw [wd,show eE w.rite=false by unfold eE;rw [hs];rfl,wj]
   refine(nv (JobM.ok_of jw)).trans ?_
   unfold ey
   rw [show (((fq v.sort.toNat o).next w.rite.reply).1.kind != 12)=true by simpa using hne]
   exact nv ob2
  have e2:JZ w=some (.exit 0,{w with doing:=2,call:=((fq v.sort.toNat o).next w.rite.reply).1,rite:=db w.rite ((fq v.sort.toNat o).next w.rite.reply).1,job:=some ((fq v.sort.toNat o).next w.rite.reply).2}):=by
   show bW bU 16 w=_
   rw [bW,e1]
   show bW bU 15 _=_
   rw [bW,qQ (show (2:Int)≠0 by decide) (uP hcl hni)]
  unfold dI
  rw [e2]
  show (2:Int)≠0;decide
 ·rw [JY (by rw [wd];decide) hs,wd];decide
theorem DA:∀ts:List RosM,(EA ts).length=4 * ts.length
 | []=>rfl
 | r::ts=>by show (EA ts).length+4=_;rw [DA ts,List.length_cons];omega
theorem uS (ts:List RosM):AV.len (nD ts)=ts.length:=by
 show (EA ts).length / 4=_
 rw [DA];omega
theorem qm:∀{l:List (Nat×List O)},(∀x∈l,x.1=x.2.length)->lqB l=true
 | [],_=>rfl
 | x::l,h=>by
   show (match decide (x.1=AV.len (.ops x.2)) with | true=>lqB l | false=>false)=true
   rw [decide_eq_true (show x.1=AV.len (.ops x.2) from h x List.mem_cons_self)]
   exact qm fun y hy=>h y (List.mem_cons_of_mem _ hy)
theorem pt {ts:List RosM} {x:Nat×List O} (h:x∈vm ts):x.1=x.2.length:=by
 obtain⟨r,_,rfl⟩:=List.mem_map.1 h
 rfl
theorem yk {n0 nb:Nat} {ts:List RosM} {bs:List Bt} (h1:n0=ts.length) (h2:nb=bs.length):lpB n0 ts nb bs=true:=by
 unfold lpB
 rw [decide_eq_true (show n0=AV.len (nD ts) by rw [uS];exact h1),decide_eq_true (show nb=AV.len (.beats bs) from h2)]
theorem xN {n:Nat} {c:Nat} (h:n<=100000) (hc:100001 * (c+1)<=lim):(n+1) * (c+1)<=lim:=Nat.le_trans (Nat.mul_le_mul_right _ (by omega)) hc
def fV (t:RosM):Bool:=!bf t.ver&&t.queue.isEmpty
theorem Td {m:ParM} {b:Bool}:fn0 bN m b=b:=by
 unfold fn0 fnP
 rw [qm fun x hx=>pt hx,yk (nb:=AV.len (.beats m.beats)) (uS m.threads) rfl];rfl
theorem zv {n K:Nat} (hK:K+1<=100000) {m:ParM} (h:m.WF n K) {k:Nat} (hk:k < m.threads.length) (o:O) (hq:∀r∈m.threads,r.queue.length+1<=100000):BX m k o=true /\ (cj m k o).2.WF n K /\
 cj m k o=if cX m.sort o=true /\ (m.threads.getD k aA).given < 64 then(0,{m with threads:=m.threads.set k {m.threads.getD k aA with queue:=(m.threads.getD k aA).queue++[o],given:=bp (m.threads.getD k aA).given}}) else(if cX m.sort o=true then ErF+1 else ErA+1,m):=by
 have hmem:m.threads.getD k aA∈m.threads:=cG hk
 have e:cj m k o=if cX m.sort o=true /\ (m.threads.getD k aA).given < 64 then(0,{m with threads:=m.threads.set k {m.threads.getD k aA with queue:=(m.threads.getD k aA).queue++[o],given:=bp (m.threads.getD k aA).given}}) else(if cX m.sort o=true then ErF+1 else ErA+1,m):=by
  unfold cj sY quF
  show cond true (cond (!cX m.sort o) _ (cond (decide ((m.threads.getD k aA).given>=64)) _ _)) _=_
  cases hf:cX m.sort o with
  | false=>rw [if_neg (fun e=>by cases e.1),if_neg (by decide)];rfl
  | true =>
    by_cases hg:(m.threads.getD k aA).given < 64
    ·rw [if_pos ⟨rfl,hg⟩,decide_eq_false (by omega)];rfl
    ·rw [if_neg (fun e=>hg e.2),if_pos rfl,decide_eq_true (by omega)];rfl
 refine⟨?_,?_,e⟩
 ·unfold BX Dq quF
  rw [Td]
  have hl:(m.threads.getD k aA).queue.length+1<=100000:=hq _ hmem
  have s1:decide (AV.len (.ops (m.threads.getD k aA).queue)=AV.len (.ops (m.threads.getD k aA).queue) /\ (AV.len (.ops (m.threads.getD k aA).queue)+1) * (SI.bytes Eu+1)<=lim)=true:=decide_eq_true ⟨rfl,xN (show (m.threads.getD k aA).queue.length<=100000 by omega) (by decide)⟩
  have s2:fnP bN ((vm m.threads).set k (AV.len (.ops (m.threads.getD k aA).queue)+1,(m.threads.getD k aA).queue++[o])) (AV.len (nD m.threads)) (AV.len (.beats m.beats)) {m with threads:=m.threads.set k {m.threads.getD k aA with queue:=(m.threads.getD k aA).queue++[o],given:=bp (m.threads.getD k aA).given}} true=true:=by
   unfold fnP
   rw [qm fun x hx=>?_,yk (nb:=AV.len (.beats m.beats)) ?_ rfl];rfl
   ·rw [uS];exact(List.length_set ..).symm
   ·rcases cV hx with hx | rfl
    ·exact pt hx
    ·show (m.threads.getD k aA).queue.length+1=_
     rw [List.length_append];rfl
  show cond true (cond _ true (bN true (cond _ true (bN _ (fnP bN _ _ _ _ true))))) true=true
  rw [s1,s2]
  show cond true (cond (!cX m.sort o) true (bN true (cond (decide ((m.threads.getD k aA).given>=64)) true (bN true true)))) true=true
  cases cX m.sort o<;>cases decide ((m.threads.getD k aA).given>=64)<;>rfl
 ·rw [e]
  split
  ·rename_i hc
   refine⟨h.so,?_,h.plot,h.hd,fun r hr=>?_,fun r hr=>?_,fun r hr=>?_,fun r hr=>?_,h.bl⟩
   ·show 1<=(m.threads.set k _).length /\ (m.threads.set k _).length<=6
    rw [List.length_set];exact h.th
   ·rcases cV hr with hr | rfl
    ·exact h.ver r hr
    ·exact h.ver (m.threads.getD k aA) hmem
   ·rcases cV hr with hr | rfl
    ·exact h.qu r hr
    ·intro q hq2
     rcases List.mem_append.1 hq2 with hq2 | hq2
     ·exact h.qu (m.threads.getD k aA) hmem q hq2
     ·simp only [List.mem_cons,List.not_mem_nil,or_false] at hq2
      rw [hq2];exact hc.1
   ·rcases cV hr with hr | rfl
    ·exact h.ql r hr
    ·show ((m.threads.getD k aA).queue++[o]).length<=100000
     rw [List.length_append]
     exact hq _ hmem
   ·rcases cV hr with hr | rfl
    ·exact h.la r hr
    ·exact h.la (m.threads.getD k aA) hmem
  ·exact h
end Go.Proofs.YtcpdipfepeccgaaGreatDoor
