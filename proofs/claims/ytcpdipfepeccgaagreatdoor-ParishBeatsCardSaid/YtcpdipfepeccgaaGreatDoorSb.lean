import Derived.Test.YtcpdipfepeccgaaGreatDoorRw
import Derived.Test.YtcpdipfepeccgaaGreatDoorSc
import Derived.Test.YtcpdipfepeccgaaGreatDoorPb
set_option linter.unusedVariables false
set_option linter.unusedSimpArgs false
set_option maxHeartbeats 4000000
namespace Go.Proofs.YtcpdipfepeccgaaGreatDoor
open Go Go.Sx Go.Proofs
set_option maxRecDepth 100000
set_option maxHeartbeats 4000000
theorem A4 {a b:Bool} (h:de a b=true):b=true:=by cases a with | true=>exact h | false=>cases h
noncomputable def uQ (m:ParM) (k:Nat) (v:VerM) (bg:Bool) (o:O):Bt :=
 ⟨(k:Int),bg,o.kind,o.key,o.val,o.tall,(cL v m.plot).1.real==0,(cL v m.plot).1.over,(cL v m.plot).1.code,(cL v m.plot).1.val⟩
noncomputable def nK (m:ParM) (v:VerM) (l:Int):List Bt:=cond (de ((cL v m.plot).1.real==1) (decide (l>=0))) (m.beats.set (0+l.toNat) {m.beats.getD (0+l.toNat) kbeats.dflt with real:=true}) m.beats
noncomputable def vC (m:ParM) (k:Nat) (v:VerM) (q:List O) (bg:Bool) (o:O) (g l:Int):ParM :=
 {m with plot:=(cL v m.plot).2.2,threads:=m.threads.set k ⟨(cL v m.plot).2.1,q,g,(m.beats.length:Int)⟩,beats:=nK m v l++[uQ m k v bg o]}
theorem o6 (m:ParM) (v:VerM) (l:Int):(nK m v l).length=m.beats.length:=by
 unfold nK
 cases de ((cL v m.plot).1.real==1) (decide (l>=0)) with
 | true=>exact List.length_set ..
 | false=>rfl
theorem pkStep_eq {β:Type} {N:Bool->β->β} (hN:∀t,N true t=t) (E:Nat->ParM->β) (L:Bt->ParM->β) {n K J:Nat} (hK:K<=100000) (hJ:J+17<=100000) {m:ParM} (h:m.WF n K) {k:Nat} (hk:k < m.threads.length) {v:VerM} (hv:v.WF n J) (hr:v.rest) (hb:v.doing≠0) (hs:v.sort=m.sort)
 (q:List O) {hq:List (Nat×List O)} (hl:lqB hq=true) (bg:Bool) (o:O) (g:Int) {l:Int} (hl2:l < (m.beats.length:Int)) :
 td cond N E L pkM k m v q hq bg o g l=L (uQ m k v bg o) (vC m k v q bg o g l):=by
 obtain⟨s1,s2,_⟩:=GG hJ hv hr hb h.plot (by rw [hs];exact h.hd)
 have hfn:∀t:β,fnP N hq (AV.len (nD m.threads)) (AV.len (.beats m.beats)+1) (vC m k v q bg o g l) t=t:=fun t=>by
  unfold fnP
  rw [hl,yk (nb:=AV.len (.beats m.beats)+1) ((uS m.threads).trans ?_) ?_,hN,hN]
  ·exact(List.length_set ..).symm
  ·show m.beats.length+1=(nK m v l++[uQ m k v bg o]).length
   rw [List.length_append,o6];rfl
 have hg:decide (AV.len (.beats m.beats)=AV.len (.beats (nK m v l)) /\ (AV.len (.beats m.beats)+1) * (SI.bytes BK+1)<=lim)=true :=
  decide_eq_true ⟨(o6 m v l).symm,xN (show m.beats.length<=100000 from Nat.le_trans h.bl hK) (by decide)⟩
 show cond (!bf v) _ (N (decide m.plot.Ok) (cond (decide (m.plot.valid (fJ v.rite).1)) (N (cH (Dn v m.plot)) (cond (de ((cL v m.plot).1.real==1) (decide (l>=0)))
  (N (decide (0<=l /\ l < ((AV.len (.beats m.beats):Nat):Int))) (N (decide (0+l.toNat < m.beats.length)) (N (decide (AV.len (.beats m.beats)=AV.len (.beats (m.beats.set (0+l.toNat) {m.beats.getD (0+l.toNat) kbeats.dflt with real:=true})) /\ (AV.len (.beats m.beats)+1) * (SI.bytes BK+1)<=lim)) (fnP N hq (AV.len (nD m.threads)) (AV.len (.beats m.beats)+1) _ (L _ _)))))
  (N (decide (AV.len (.beats m.beats)=AV.len (.beats m.beats) /\ (AV.len (.beats m.beats)+1) * (SI.bytes BK+1)<=lim)) (fnP N hq (AV.len (nD m.threads)) (AV.len (.beats m.beats)+1) _ (L _ _))))) _))=_
 rw [show bf v=true by unfold bf;simpa using hb,decide_eq_true h.plot.ok,decide_eq_true s2,cQ s1,hN,hN]
 show cond _ _ _=_
 cases hc:de ((cL v m.plot).1.real==1) (decide (l>=0)) with
 | true =>
   have hl0:0<=l:=of_decide_eq_true (A4 hc)
   have eo:nK m v l=m.beats.set (0+l.toNat) {m.beats.getD (0+l.toNat) kbeats.dflt with real:=true}:=by unfold nK;rw [hc];rfl
   rw [eo] at hg
   rw [decide_eq_true (⟨hl0,hl2⟩:0<=l /\ l < ((AV.len (.beats m.beats):Nat):Int)),decide_eq_true (show 0+l.toNat < m.beats.length by omega),hg]
   show N true (N true (N true _))=_
   rw [hN,hN,hN]
   refine Eq.trans ?_ (hfn _)
   unfold vC
   rw [eo];rfl
 | false =>
   have eo:nK m v l=m.beats:=by unfold nK;rw [hc];rfl
   rw [eo] at hg
   rw [hg]
   show N true _=_
   rw [hN]
   refine Eq.trans ?_ (hfn _)
   unfold vC
   rw [eo];rfl
theorem ParM.WF.mono {n K K':Nat} {m:ParM} (h:m.WF n K) (hk:K<=K'):m.WF n K':=⟨h.so,h.th,h.plot,h.hd,fun r hr=>⟨(h.ver r hr).1.mono hk,(h.ver r hr).2⟩,h.qu,h.ql,h.la,Nat.le_trans h.bl hk⟩
theorem GK {n K J K':Nat} (hJ:J+17<=100000) {m:ParM} (h:m.WF n K) (hK':K+1<=K') (hJK:J+17<=K') {k:Nat} (hk:k < m.threads.length) {v:VerM} (hv:v.WF n J) (hr:v.rest) (hb:v.doing≠0) (hs:v.sort=m.sort)
 {q:List O} (hq:∀o∈q,cX m.sort o=true) (hql:q.length<=100000) (bg:Bool) (o:O) (g:Int) {l:Int}:(vC m k v q bg o g l).WF n K':=by
 obtain⟨s1,s2,s3,s4,s5,s6,s7⟩:=GG hJ hv hr hb h.plot (by rw [hs];exact h.hd)
 have hlen:(nK m v l++[uQ m k v bg o]).length=m.beats.length+1:=by rw [List.length_append,o6];rfl
 refine⟨h.so,?_,s6,by rw [hs] at s7;exact s7,fun r hr=>?_,fun r hr=>?_,fun r hr=>?_,fun r hr=>?_,?_⟩
 ·show 1<=(m.threads.set k _).length /\ (m.threads.set k _).length<=6
  rw [List.length_set];exact h.th
 ·rcases cV hr with hr | rfl
  ·obtain⟨a,b⟩:=h.ver r hr
   exact⟨a.mono (by omega),b⟩
  ·exact⟨s3.mono hJK,s4,s5.trans hs⟩
 ·rcases cV hr with hr | rfl
  ·exact h.qu r hr
  ·exact hq
 ·rcases cV hr with hr | rfl
  ·exact h.ql r hr
  ·exact hql
 ·show r.last < (((nK m v l++[uQ m k v bg o]).length:Nat):Int)
  rw [hlen]
  rcases cV hr with hr | rfl
  ·have:=h.la r hr;omega
  ·show (m.beats.length:Int) < _;omega
 ·show (nK m v l++[uQ m k v bg o]).length<=K'
  rw [hlen];have:=h.bl;omega
noncomputable def jo (t:RosM):VerM:=cond (!bf t.ver) (lT t.ver (t.queue.getD 0 kops.dflt)) t.ver
def oU (t:RosM):List O:=cond (!bf t.ver) (t.queue.drop 1) t.queue
def qX (t:RosM):O:=cond (!bf t.ver) (t.queue.getD 0 kops.dflt) ⟨0,0,0,0⟩
noncomputable def lD (m:ParM) (k:Nat):Bt:=uQ m k (jo (m.threads.getD k aA)) (!bf (m.threads.getD k aA).ver) (qX (m.threads.getD k aA))
noncomputable def mn (m:ParM) (k:Nat):ParM:=vC m k (jo (m.threads.getD k aA)) (oU (m.threads.getD k aA)) (!bf (m.threads.getD k aA).ver) (qX (m.threads.getD k aA)) (m.threads.getD k aA).given (m.threads.getD k aA).last
theorem tf {n K:Nat} (hK:K+17<=100000) {m:ParM} (h:m.WF n K) {t:RosM} (ht:t∈m.threads) (hi:fV t=false):(jo t).WF n (K+17) /\ (jo t).rest /\ (jo t).doing≠0 /\ (jo t).sort=m.sort /\ (bf t.ver=false->zF t.ver (t.queue.getD 0 kops.dflt) /\ cX t.ver.sort (t.queue.getD 0 kops.dflt)=true /\ 0 < t.queue.length):=by
 obtain⟨hv,hr,hs⟩:=h.ver t ht
 unfold jo
 cases hb:bf t.ver with
 | true=>exact⟨hv.mono (by omega),hr,by unfold bf at hb;simpa using hb,hs,fun e=>by cases e⟩
 | false =>
   have hb0:t.ver.doing=0:=by unfold bf at hb;simpa using hb
   have hq:0 < t.queue.length:=by
    unfold fV at hi
    rw [hb] at hi
    cases e:t.queue with
    | nil=>rw [e] at hi;cases hi
    | cons o q=>exact Nat.succ_pos _
   have hf:cX t.ver.sort (t.queue.getD 0 kops.dflt)=true:=by rw [hs];exact h.qu t ht _ (cG hq)
   obtain⟨g1,g2,g3,g4⟩:=LP (by omega) hK hv hb0 hf
   exact⟨g2,g3,Fb (by omega) hK hv hb0 hf,g4.trans hs,fun _=>⟨g1,hf,hq⟩⟩
theorem BV {n K:Nat} (hK:K+34<=100000) {m:ParM} (h:m.WF n K) {k:Nat} (hk:k < m.threads.length) (hi:fV (m.threads.getD k aA)=false):(mn m k).WF n (K+34):=by
 have hm:=cG (d:=aA) hk
 obtain⟨a,b,c,d,_⟩:=tf (by omega) h hm hi
 refine GK (J:=K+17) (by omega) h (by omega) (by omega) hk a b c d (fun o ho=>?_) ?_ _ _ _
 ·unfold oU at ho
  cases hb:bf (m.threads.getD k aA).ver<;>rw [hb] at ho
  ·exact h.qu _ hm o (List.mem_of_mem_drop ho)
  ·exact h.qu _ hm o ho
 ·unfold oU
  cases hb:bf (m.threads.getD k aA).ver
  ·show ((m.threads.getD k aA).queue.drop 1).length<=_
   rw [List.length_drop];have:=h.ql _ hm;omega
  ·exact h.ql _ hm
theorem pkF_eq {β:Type} {N:Bool->β->β} (hN:∀t,N true t=t) (E:Nat->ParM->β) (L:Bt->ParM->β) {n K:Nat} (hK:K+34<=100000) {m:ParM} (h:m.WF n K) {k:Nat} (hk:k < m.threads.length) :
 pkF cond N E L pkM k m=cond (fV (m.threads.getD k aA)) (E ErS m) (L (lD m k) (mn m k)):=by
 have hm:=cG (d:=aA) hk
 have hf0:∀t:β,fn0 N m t=t:=fun t=>by
  unfold fn0 fnP
  rw [qm fun x hx=>pt hx,yk (nb:=AV.len (.beats m.beats)) (uS m.threads) rfl,hN,hN]
 obtain⟨hv,hr,hs⟩:=h.ver _ hm
 have hl:=h.la _ hm
 unfold pkF
 dsimp only
 cases hb:bf (m.threads.getD k aA).ver with
 | true =>
   have hi:fV (m.threads.getD k aA)=false:=by unfold fV;rw [hb];rfl
   rw [hi]
   show N true (N true _)=_
   rw [hN,hN]
   refine(pkStep_eq hN E L (J:=K) (by omega) (by omega) h hk hv hr (by unfold bf at hb;simpa using hb) hs _ (qm fun x hx=>pt hx) false ⟨0,0,0,0⟩ _ hl).trans ?_
   unfold lD mn jo oU qX
   rw [hb];rfl
 | false =>
   cases hi:fV (m.threads.getD k aA) with
   | true =>
     have hq:(m.threads.getD k aA).queue.length=0:=by
      unfold fV at hi
      rw [hb] at hi
      cases e:(m.threads.getD k aA).queue with
      | nil=>rfl
      | cons o q=>rw [e] at hi;cases hi
     show N true (N true (cond ((((m.threads.getD k aA).queue.length:Nat):Int)==0) _ _))=_
     rw [hq,hN,hN]
     exact hf0 _
   | false =>
     obtain⟨a,b,c,d,hx⟩:=tf (by omega) h hm hi
     obtain⟨g1,g2,g3⟩:=hx hb
     have ev:jo (m.threads.getD k aA)=lT (m.threads.getD k aA).ver ((m.threads.getD k aA).queue.getD 0 kops.dflt):=by unfold jo;rw [hb];rfl
     rw [ev] at a b c d
     show N true (N true (cond ((((m.threads.getD k aA).queue.length:Nat):Int)==0) _ _))=_
     rw [hN,hN,show ((((m.threads.getD k aA).queue.length:Nat):Int)==0)=false from by simpa using (by omega:¬(m.threads.getD k aA).queue.length=0)]
     show N true (N (decide ((0:Int)<=0 /\ (0:Int) < (((m.threads.getD k aA).queue.length:Nat):Int))) (N (decide (0 < (m.threads.getD k aA).queue.length)) (N (cH (vd (m.threads.getD k aA).ver)) (cond (!cX _ _) _ (N (cH (zF _ _)) (N (decide ((0:Int)<=1 /\ (1:Int)<=(((m.threads.getD k aA).queue.length:Nat):Int) /\ (((m.threads.getD k aA).queue.length:Nat):Int)<=(((m.threads.getD k aA).queue.length:Nat):Int) /\ (m.threads.getD k aA).queue.length=(m.threads.getD k aA).queue.length)) (td cond N E L pkM k m (lT _ _) (((m.threads.getD k aA).queue.take (m.threads.getD k aA).queue.length).drop 1) ((vm m.threads).set k ((m.threads.getD k aA).queue.length - 1,(((m.threads.getD k aA).queue.take (m.threads.getD k aA).queue.length).drop 1))) true _ _ _)))))))=_
     rw [decide_eq_true (show (0:Int)<=0 /\ (0:Int) < (((m.threads.getD k aA).queue.length:Nat):Int) by omega),decide_eq_true g3,cQ hv.kj,g2,cQ g1,decide_eq_true (show (0:Int)<=1 /\ (1:Int)<=(((m.threads.getD k aA).queue.length:Nat):Int) /\ (((m.threads.getD k aA).queue.length:Nat):Int)<=(((m.threads.getD k aA).queue.length:Nat):Int) /\ (m.threads.getD k aA).queue.length=(m.threads.getD k aA).queue.length by omega),List.take_length]
     show N true (N true (N true (N true (N true (N true _)))))=_
     rw [hN,hN,hN,hN,hN,hN]
     refine(pkStep_eq hN E L (J:=K+17) (by omega) (by omega) h hk a b c d _ (qm fun x hx=>?_) true _ _ hl).trans ?_
     ·rcases cV hx with hx | rfl
      ·exact pt hx
      ·show (m.threads.getD k aA).queue.length - 1=_
       rw [List.length_drop]
     ·unfold lD mn jo oU qX
      rw [hb];rfl
theorem Dj {n K:Nat} (hK:K+34<=100000) {m:ParM} (h:m.WF n K) {k:Nat} (hk:k < m.threads.length) :
 ES m k=true /\ dR m k=cond (fV (m.threads.getD k aA)) ((ErS+1,btD),m) ((0,lD m k),mn m k) /\ (dR m k).2.WF n (K+34):=by
 have e:dR m k=cond (fV (m.threads.getD k aA)) ((ErS+1,btD),m) ((0,lD m k),mn m k):=pkF_eq (N:=cN) (fun _=>rfl) (fun i m=>((i+1,btD),m)) (fun b m=>((0,b),m)) hK h hk
 refine⟨?_,e,?_⟩
 ·refine(pkF_eq (N:=bN) (fun t=>Bool.true_and t) (fun _ _=>true) (fun _ _=>true) hK h hk).trans ?_
  cases fV (m.threads.getD k aA)<;>rfl
 ·rw [e]
  cases hi:fV (m.threads.getD k aA) with
  | true=>exact h.mono (by omega)
  | false=>exact BV hK h hk hi
end Go.Proofs.YtcpdipfepeccgaaGreatDoor

namespace Go.Proofs.YtcpdipfepeccgaaGreatDoor
open Go Go.Sx Go.Proofs
set_option maxRecDepth 100000
set_option maxHeartbeats 0
variable {σ:Sg}
noncomputable def UF (σ:Sg) (tab:Tab) (f:FuncId) (args:List SV) (H:Hp AV):T (SV×Hp AV):=match args with
 | [.v (.c (.ptr n 0))]=>match tu σ n H with
   | some HB=>match Q.clVs HB args,Q.clHs HB HB with
     | true,true=>(Q.lv (NV σ) tab 24 (.fn f) args HB).bind fun r=>match lk H r.2 with
       | true=>.leaf r
       | false=>.fail "open"
     | _,_=>.fail "open"
   | none=>.fail "open"
 | _=>.fail "open"
noncomputable def Ns:Tab:=aC 24 (aL isS noM (yF RE 10)) aQ
theorem Gk:bm Tryz.prog (NV σ) Ns:=aj CB au
def dU (x:Cfg):Cfg:=⟨1+Int.tmod (IntKind.wrap .u64 x.s) 5,1+Int.tmod (IntKind.wrap .u64 x.e) 5,1+Int.tmod (IntKind.wrap .u64 x.n) 6,1+Int.tmod (IntKind.wrap .u64 x.sl) 90,1+Int.tmod (IntKind.wrap .u64 x.no) 9⟩
noncomputable def mBo:List Bool:=mkM 6
def JJ (ok:Cfg->Bool) (mk:Cfg->ParM) (args:List SV) (l:List AV):T (SV×List AV×List AV):=match l with
 | []=>match aCfg.dec args with
   | some x=>.need (ok (dU x)) (.leaf (.v (.c (.ptr 8 0)),[],[.par (mk (dU x))]))
   | none=>.fail "born"
 | _=>.fail "born"
noncomputable def Nv (σ:Sg) (ok:Cfg->Bool) (mk:Cfg->ParM):Tab:=aC 14 (aL isS mNw (jh aCfg oPar (fun c=>some (ok c)) mk)) aQ
theorem TE (σ:Sg) (ok:Cfg->Bool) (mk:Cfg->ParM) (s e n sl no:Int):eG σ (Nv σ ok mk) 6 mBo [.v (.agg [.it .i64 s,.it .i64 e,.it .i64 n,.it .i64 sl,.it .i64 no])] [] =
 .need (ok (dU ⟨s,e,n,sl,no⟩)) (.leaf (.v (.c (.ptr 8 0)),[],[.par (mk (dU ⟨s,e,n,sl,no⟩))])):=by kernel_rfl
noncomputable def HX (c:Cfg):Bool:=cH (HZ c /\ Dr c=true)
theorem Mu:FnOk Tryz.prog (NV σ) 6 (aL isS mBo (JJ HX dr)):=by
 refine b9 bk (bQ _) fun args l v l' nw h hl hargs=>?_
 unfold JJ at h
 split at h
 ·split at h
  ·rename_i c hc
   have h1:(eG σ (Nv σ HX dr) 6 mBo (aCfg.enc c) []).val=some (v,l',nw):=(congrArg T.val (TE σ HX dr c.s c.e c.n c.sl c.no)).trans h
   obtain⟨_,h2⟩:=ah h
   simp only [T.val,Option.some.injEq,Prod.mk.injEq] at h2
   obtain⟨rfl,rfl,rfl⟩:=h2
   have hc2:=(mh (aj EW au) (M:=mBo) (bQ _) (bL (aCfg.free c)) h1).1
   exact bE hc2 fun ρ=>(aCfg.ok _ _ hc ρ).symm
  ·simp [T.val] at h
 ·simp [T.val] at h
structure RfF where
 okn:Cfg->Bool
 nw:Cfg->ParM
 okq:ParM->Nat->O->Bool
 qu:ParM->Nat->O->Nat×ParM
 okp:ParM->Nat->Bool
 pk:ParM->Nat->(Nat×Bt)×ParM
noncomputable def rfM:RfF:=⟨HX,dr,BX,cj,ES,dR⟩
end Go.Proofs.YtcpdipfepeccgaaGreatDoor

namespace Go.Proofs.YtcpdipfepeccgaaGreatDoor
open Go Go.Sx Go.Proofs
set_option maxRecDepth 100000
set_option maxHeartbeats 0
variable {σ:Sg}
theorem Ec {isS:AV->Nat->Bool} {M:List Bool} {t1 t2:List SV->List AV->T (SV×List AV×List AV)} (h:∀args l r,(t2 args l).val=some r->(t1 args l).val=some r) {args:List SV} {H:Hp AV} {r:SV×Hp AV} (h2:(aL isS M t2 args H).val=some r):(aL isS M t1 args H).val=some r:=by
 unfold aL at h2 ⊢
 split at h2
 ·simp [T.val] at h2
 ·dsimp only at h2 ⊢
  split at h2
  ·obtain⟨y,g1,g2⟩:=T.bind_some h2
   rw [T.val_bind,h _ _ _ g1]
   exact g2
  ·simp [T.val] at h2
theorem wN {f:FuncId} {M:List Bool} {t1 t2:List SV->List AV->T (SV×List AV×List AV)} (hf:FnOk Tryz.prog (NV σ) f (aL isS M t1)) (h:∀args l r,(t2 args l).val=some r->(t1 args l).val=some r):FnOk Tryz.prog (NV σ) f (aL isS M t2) :=
 fun args H v H' h2=>hf args H v H' (Ec h h2)
def OZ (σ:Sg) (ok:ParM->Nat->O->Bool) (qu:ParM->Nat->O->Nat×ParM) (args:List SV) (l:List AV):T (SV×List AV×List AV):=match args,l with
 | [.v (.c (.ptr 8 0)),.v (.c c),a],[.par m]=>match iOf c,aOp.dec [a] with
   | some k,some o=>.need (okN m) (.need (j8 m.threads.length k) (.need (ok m k.toNat o)
     (.ite (Nat.beq (qu m k.toNat o).1 0) (.leaf (.v (.c .inil),[.par (qu m k.toNat o).2],[]))
       (.need (!(Nat.beq (qu m k.toNat o).1 (ErF+1))) (.need (Nat.beq (qu m k.toNat o).1 (ErA+1)) (.leaf (.v (jl σ ErA),[.par (qu m k.toNat o).2],[])))))))
   | _,_=>.fail "Queue"
 | _,_=>.fail "Queue"
theorem HJ {ok:ParM->Nat->O->Bool} {qu:ParM->Nat->O->Nat×ParM} (args:List SV) (l:List AV) (r:SV×List AV×List AV) (h:(OZ σ ok qu args l).val=some r):(xU σ ok qu args l).val=some r:=by
 unfold OZ at h
 split at h
 ·split at h
  ·rename_i k o h0 h00
   obtain⟨h1,h⟩:=ah h
   obtain⟨h2,h⟩:=ah h
   obtain⟨h3,h⟩:=ah h
   simp only [xU,h0,h00]
   rw [nv h1,ivF (by rw [h2];rfl),nv h3]
   cases hc:Nat.beq (qu _ k.toNat o).1 0 with
   | true=>rw [ivT hc] at h;rw [ivT rfl];exact h
   | false =>
     rw [ivF hc] at h
     obtain⟨h4,h⟩:=ah h
     rw [ivF rfl,ivF (by simpa using h4)]
     exact h
  ·simp [T.val] at h
 ·simp [T.val] at h
def yM (σ:Sg) (a b:Addr):Prop:=a≠b /\ (∃c t,σ.R a.block=some (.cells c t (0,0))) /\ ∃c t,σ.R b.block=some (.cells c t (0,0))
noncomputable def Q0 (σ:Sg) (F:RfF):Tab:=aC 7 (aL isS mQu (OZ σ F.okq F.qu)) aQ
theorem Kw:bm Tryz.prog (NV σ) (Q0 σ rfM):=aj (wN HI HJ) au
structure RfI where
 lay:Cfg
 ops:List O
 no:Nat
 ts:List N1
 nt:Nat
 n:Int
 hn:1<=n /\ n < 7
def SJ (x:Cfg):List Cell:=[.it .i64 x.s,.it .i64 x.e,.it .i64 x.n,.it .i64 x.sl,.it .i64 x.no]
end Go.Proofs.YtcpdipfepeccgaaGreatDoor

namespace Go.Proofs.YtcpdipfepeccgaaGreatDoor
open Go Go.Sx Go.Proofs
set_option maxRecDepth 100000
set_option maxHeartbeats 0
variable {σ:Sg}
def rot (o:O):O:=⟨o.kind,o.key,o.val,o.tall⟩
def o5 (x:RfI) (i:Int):O:=rot (x.ops.getD (0+i.toNat) kops.dflt)
def inO (x:RfI) (i:Int) (t:T (Ex×Sx.St AV)):T (Ex×Sx.St AV):=.need (decide (0<=i /\ i < (x.no:Int))) (.need (decide (0+i.toNat < x.ops.length)) t)
def tk (x:RfI) (i:Int):Int:=Int.tmod (IntKind.wrap .u64 (x.ts.getD (0+i.toNat) kints.dflt).val) 9
end Go.Proofs.YtcpdipfepeccgaaGreatDoor

namespace Go.Proofs.YtcpdipfepeccgaaGreatDoor
open Go Go.Sx Go.Proofs
set_option maxRecDepth 100000
structure RfInv (N K L:Nat) (n:Int) (m:ParM):Prop where
 wf:m.WF N K
 len:(m.threads.length:Int)=n
 idl:∀k,1<=k->k < m.threads.length->fV (m.threads.getD k aA)=true
 ql:∀r∈m.threads,r.queue.length<=L
 gv:0<=(m.threads.getD 0 aA).given /\ (m.threads.getD 0 aA).given<=(L:Int)
variable {N K L:Nat} {n:Int} {m:ParM}
theorem RfInv.okN (h:RfInv N K L n m):okN m=true:=decide_eq_true h.wf.th
theorem qv {a:Nat} {k:Int}:j8 a k=true↔0<=k /\ k < (a:Int):=by
 unfold j8
 constructor
 ·intro h
  have h2:=of_decide_eq_true (A4 h)
  refine⟨?_,h2⟩
  cases h1:decide (k>=0) with
  | true=>exact of_decide_eq_true h1
  | false=>rw [h1] at h;cases h
 ·rintro ⟨h1,h2⟩
  rw [decide_eq_true (show k>=0 from h1),decide_eq_true h2];rfl
theorem sQ {α:Type} {l:List α} {i k:Nat} {a d:α} (h:k≠i):(l.set i a).getD k d=l.getD k d:=by
 rw [List.getD_eq_getElem?_getD,List.getD_eq_getElem?_getD,List.getElem?_set_ne (Ne.symm h)]
theorem vG {α:Type} {l:List α} {a d:α} (h:0 < l.length):(l.set 0 a).getD 0 d=a:=by
 rw [List.getD_eq_getElem?_getD,List.getElem?_set_self h];rfl
theorem RfInv.qu (h:RfInv N K L n m) (hK:K+1<=100000) (hL:L < 64) (o:O):BX m 0 o=true /\ ((cj m 0 o).1=0 \/ (cj m 0 o).1=ErA+1) /\ RfInv N K (L+1) n (cj m 0 o).2:=by
 have h0:0 < m.threads.length:=h.wf.th.1
 obtain⟨a,b,c⟩:=zv hK h.wf h0 o fun r hr=>by have:=h.ql r hr;omega
 have hg:=h.gv
 have keep:RfInv N K (L+1) n m:=⟨h.wf,h.len,h.idl,fun r hr=>Nat.le_succ_of_le (h.ql r hr),h.gv.1,by omega⟩
 refine⟨a,?_,?_⟩
 ·rw [c]
  cases hf:cX m.sort o with
  | false=>rw [if_neg (fun e=>by cases e.1),if_neg (by decide)];exact .inr rfl
  | true=>rw [if_pos ⟨rfl,by omega⟩];exact .inl rfl
 ·have e2:=b
  rw [c] at e2 ⊢
  cases hf:cX m.sort o with
  | false=>rw [if_neg (fun e=>by cases e.1)];exact keep
  | true =>
    rw [hf,if_pos ⟨rfl,by omega⟩] at e2
    rw [if_pos ⟨rfl,by omega⟩]
    refine⟨e2,?_,fun k h1 h2=>?_,fun r hr=>?_,?_⟩
    ·show ((m.threads.set 0 _).length:Int)=n
     rw [List.length_set];exact h.len
    ·have h2:k < (m.threads.set 0 _).length:=h2
     rw [List.length_set] at h2
     show fV ((m.threads.set 0 _).getD k aA)=true
     rw [sQ (by omega)];exact h.idl k h1 h2
    ·rcases cV hr with hr | rfl
     ·exact Nat.le_succ_of_le (h.ql r hr)
     ·show ((m.threads.getD 0 aA).queue++[o]).length<=L+1
      rw [List.length_append]
      exact Nat.succ_le_succ (h.ql _ (cG h0))
    ·show 0<=((m.threads.set 0 _).getD 0 aA).given /\ ((m.threads.set 0 _).getD 0 aA).given<=((L+1:Nat):Int)
     rw [vG h0]
     show 0<=bp (m.threads.getD 0 aA).given /\ bp (m.threads.getD 0 aA).given<=_
     rw [show bp (m.threads.getD 0 aA).given=(m.threads.getD 0 aA).given+1 from mW (by omega)]
     omega
theorem RfInv.pk (h:RfInv N K L n m) (hK:K+34<=100000):ES m 0=true /\ ((dR m 0).1.1=0 \/ (dR m 0).1.1=ErS+1) /\ RfInv N (K+34) L n (dR m 0).2:=by
 have h0:0 < m.threads.length:=h.wf.th.1
 obtain⟨a,b,c⟩:=Dj hK h.wf h0
 refine⟨a,?_,?_⟩
 ·rw [b]
  cases fV (m.threads.getD 0 aA)
  ·exact .inl rfl
  ·exact .inr rfl
 ·rw [b] at c ⊢
  cases hi:fV (m.threads.getD 0 aA) with
  | true=>rw [hi] at c;exact⟨c,h.len,h.idl,h.ql,h.gv⟩
  | false =>
    rw [hi] at c
    refine⟨c,?_,fun k h1 h2=>?_,fun r hr=>?_,?_⟩
    ·show ((m.threads.set 0 _).length:Int)=n
     rw [List.length_set];exact h.len
    ·have h2:k < (m.threads.set 0 _).length:=h2
     rw [List.length_set] at h2
     show fV ((m.threads.set 0 _).getD k aA)=true
     rw [sQ (by omega)];exact h.idl k h1 h2
    ·rcases cV hr with hr | rfl
     ·exact h.ql r hr
     ·show (oU (m.threads.getD 0 aA)).length<=L
      have:=h.ql _ (cG (d:=aA) h0)
      unfold oU
      cases bf (m.threads.getD 0 aA).ver
      ·show ((m.threads.getD 0 aA).queue.drop 1).length<=L
       rw [List.length_drop];omega
      ·exact this
    ·show 0<=((m.threads.set 0 _).getD 0 aA).given /\ ((m.threads.set 0 _).getD 0 aA).given<=(L:Int)
     rw [vG h0];exact h.gv
end Go.Proofs.YtcpdipfepeccgaaGreatDoor

namespace Go.Proofs.YtcpdipfepeccgaaGreatDoor
open Go Go.Sx Go.Proofs
set_option maxRecDepth 100000
structure S6 (α:Type) where
 a0:α
 a1:α
 a2:α
 a3:α
 a4:α
 a5:α
def S6.get {α:Type} (s:S6 α):Nat->α
 | 0=>s.a0 | 1=>s.a1 | 2=>s.a2 | 3=>s.a3 | 4=>s.a4 | _=>s.a5
def S6.put {α:Type} (s:S6 α) (x:α):Nat->S6 α
 | 0=>{s with a0:=x} | 1=>{s with a1:=x} | 2=>{s with a2:=x} | 3=>{s with a3:=x} | 4=>{s with a4:=x} | _=>{s with a5:=x}
structure TD where
 q:Nat
 l:List O
theorem S6.get_put {α:Type} (s:S6 α) (x:α) {j k:Nat} (hj:j < 6) (hk:k < 6):(s.put x j).get k=if k=j then x else s.get k:=by
 rcases (by omega:j=0 \/ j=1 \/ j=2 \/ j=3 \/ j=4 \/ j=5) with rfl | rfl | rfl | rfl | rfl | rfl <;>
  rcases (by omega:k=0 \/ k=1 \/ k=2 \/ k=3 \/ k=4 \/ k=5) with rfl | rfl | rfl | rfl | rfl | rfl<;>rfl
def opB (b:Bt):O:=⟨b.kind,b.key,b.val,b.tall⟩
structure OkBt (n:Int) (t:S6 TD) (b:Bt) (u:S6 Bool) (a:S6 Int):Prop where
 t0:0<=b.thread
 tn:b.thread < n
 bg:b.begins=!(u.get b.thread.toNat)
 o0:b.begins=false->opB b=⟨0,0,0,0⟩
 a0:b.ends=false->b.code=0 /\ b.aval=0
 op:b.begins=true->0<=a.get b.thread.toNat /\ a.get b.thread.toNat < ((t.get b.thread.toNat).l.length:Int) /\ (t.get b.thread.toNat).l.getD (a.get b.thread.toNat).toNat kops.dflt=opB b
def nxU (b:Bt) (u:S6 Bool):S6 Bool:=u.put (!b.ends) b.thread.toNat
def nxA (b:Bt) (a:S6 Int):S6 Int:=cond b.begins (a.put (a.get b.thread.toNat+1) b.thread.toNat) a
def Rep (n:Int) (t:S6 TD):List Bt->S6 Bool->S6 Int->S6 Bool->S6 Int->Prop
 | [],u,a,u',a'=>u'=u /\ a'=a
 | b::r,u,a,u',a'=>OkBt n t b u a /\ Rep n t r (nxU b u) (nxA b a) u' a'
variable {n:Int} {t:S6 TD}
theorem Dg:∀{l:List Bt} {b:Bt} {u:S6 Bool} {a:S6 Int} {u':S6 Bool} {a':S6 Int},Rep n t l u a u' a'->OkBt n t b u' a'->Rep n t (l++[b]) u a (nxU b u') (nxA b a')
 | [],b,u,a,u',a',⟨h1,h2⟩,hb=>by subst h1 h2;exact⟨hb,rfl,rfl⟩
 | c::l,b,u,a,u',a',⟨h1,h2⟩,hb=>⟨h1,Dg h2 hb⟩
theorem zp:∀{l:List Bt} {i:Nat} {u:S6 Bool} {a:S6 Int} {u':S6 Bool} {a':S6 Int},Rep n t l u a u' a'->Rep n t (l.set i {l.getD i kbeats.dflt with real:=true}) u a u' a'
 | [],i,u,a,u',a',h=>h
 | b::l,0,u,a,u',a',⟨h1,h2⟩=>⟨⟨h1.t0,h1.tn,h1.bg,h1.o0,h1.a0,h1.op⟩,h2⟩
 | b::l,i+1,u,a,u',a',⟨h1,h2⟩=>⟨h1,zp (l:=l) (i:=i) h2⟩
theorem Ef (v:VerM) (p:PlotM):(cL v p).1.over=!(bf (cL v p).2.1) /\ ((cL v p).1.over=false->(cL v p).1.code=0 /\ (cL v p).1.val=0):=by
 have fin:∀(r:Int) (P:Strd×VerM×PlotM->Prop) (v1:VerM) (q:PlotM),P ((fZ cond (fun _ t=>t) (fun s v'=>(s,v',q)) (fun _=>true) dI v1 r))->P ((fZ cond (fun _ t=>t) (fun s v'=>(s,v',q)) (fun _=>true) dI v1 r)):=fun _ _ _ _ h=>h
 have one:∀(r:Int) (v1:VerM) (q:PlotM),(fZ cond (fun _ t=>t) (fun s v'=>(s,v',q)) (fun _=>true) dI v1 r).1.over=!(bf (fZ cond (fun _ t=>t) (fun s v'=>(s,v',q)) (fun _=>true) dI v1 r).2.1) /\
  ((fZ cond (fun _ t=>t) (fun s v'=>(s,v',q)) (fun _=>true) dI v1 r).1.over=false->(fZ cond (fun _ t=>t) (fun s v'=>(s,v',q)) (fun _=>true) dI v1 r).1.code=0 /\ (fZ cond (fun _ t=>t) (fun s v'=>(s,v',q)) (fun _=>true) dI v1 r).1.val=0):=fun r v1 q=>by
  unfold fZ
  cases hd:((dI v1).doing==0) with
  | true =>
    refine⟨?_,fun e=>by cases e⟩
    show true=!(bf (dI v1))
    unfold bf bne
    rw [hd];rfl
  | false =>
    refine⟨?_,fun _=>⟨rfl,rfl⟩⟩
    show false=!(bf (dI v1))
    unfold bf bne
    rw [hd];rfl
 unfold cL kt
 dsimp only
 generalize orB (v.engine==3) (v.engine==5)=b1
 generalize eE (oG v p).rite=b2
 generalize (v.call.kind==6)=c1
 generalize (v.call.kind==8)=c2
 generalize (v.call.kind==3)=c3
 generalize (v.call.kind==4)=c4
 generalize (v.call.kind==5)=c5
 generalize (v.call.kind==9)=c6
 generalize ((fJ v.rite).1.kind != 4)=c7
 cases c1<;>cases c2<;>cases c3<;>cases c4<;>cases c5<;>cases c6<;>cases c7<;>cases b1<;>cases b2<;>exact one _ _ _
structure QuInv (N L:Nat) (n:Int) (t:S6 TD) (m:ParM):Prop where
 wf:m.WF N 0
 len:(m.threads.length:Int)=n
 bt:m.beats=[]
 th:∀k,k < m.threads.length->bf (m.threads.getD k aA).ver=false /\ (t.get k).l=(m.threads.getD k aA).queue /\ 0<=(m.threads.getD k aA).given /\ (m.threads.getD k aA).given<=(L:Int)
 tl:∀k,k < 6->(t.get k).q=(t.get k).l.length /\ (t.get k).l.length<=L
theorem Bh {l:List RosM} {r x:RosM} {i k:Nat} (hi:i < l.length) (hk:k < l.length):(l.set i x).getD k r=if k=i then x else l.getD k r:=by
 by_cases h:k=i
 ·subst h;rw [if_pos rfl,List.getD_eq_getElem?_getD,List.getElem?_set_self hk];rfl
 ·rw [if_neg h,sQ h]
variable {N K L:Nat} {m:ParM} {u:S6 Bool} {a:S6 Int}
theorem QuInv.qu (h:QuInv N L n t m) (hL:L < 64) (o:O) {k:Nat} (hk:k < m.threads.length):BX m k o=true /\
 ((cj m k o).1=0 /\ QuInv N (L+1) n (t.put ⟨(t.get k).q+1,(t.get k).l++[o]⟩ k) (cj m k o).2 \/ (cj m k o).1=ErA+1 /\ QuInv N (L+1) n t (cj m k o).2):=by
 have hth:=h.wf.th
 obtain⟨h1,h2,h3,h4⟩:=h.th k hk
 have ql:∀r∈m.threads,r.queue.length<=L:=fun r hr=>by
  obtain⟨i,hi,rfl⟩:=List.getElem_of_mem hr
  have e:=(h.th i hi).2.1
  rw [List.getD_eq_getElem?_getD,List.getElem?_eq_getElem hi] at e
  have:=(h.tl i (by omega)).2
  rw [e] at this;exact this
 obtain⟨g1,g2,g3⟩:=zv (by omega) h.wf hk o fun r hr=>by have:=ql r hr;omega
 refine⟨g1,?_⟩
 cases hf:cX m.sort o with
 | false =>
   rw [hf,if_neg (fun e=>by cases e.1),if_neg (by decide)] at g3
   rw [g3]
   exact .inr ⟨rfl,h.wf,h.len,h.bt,fun i hi=>by obtain⟨a,b,c,d⟩:=h.th i hi;exact⟨a,b,c,Int.le_trans d (by omega)⟩,fun i hi=>by obtain⟨a,b⟩:=h.tl i hi;exact⟨a,by omega⟩⟩
 | true =>
   rw [hf,if_pos ⟨rfl,by omega⟩] at g3
   rw [g3] at g2 ⊢
   refine .inl ⟨rfl,g2,?_,h.bt,fun i hi=>?_,fun i hi=>?_⟩
   ·show ((m.threads.set k _).length:Int)=n
    rw [List.length_set];exact h.len
   ·have hi:i < (m.threads.set k _).length:=hi
    rw [List.length_set] at hi
    show bf ((m.threads.set k _).getD i aA).ver=false /\ _=((m.threads.set k _).getD i aA).queue /\ 0<=((m.threads.set k _).getD i aA).given /\ ((m.threads.set k _).getD i aA).given<=_
    rw [Bh hk hi,S6.get_put _ _ (by omega) (by omega)]
    by_cases e:i=k
    ·rw [if_pos e,if_pos e]
     refine⟨h1,by rw [h2],?_⟩
     show 0<=bp (m.threads.getD k aA).given /\ bp (m.threads.getD k aA).given<=_
     rw [show bp (m.threads.getD k aA).given=(m.threads.getD k aA).given+1 from mW (by omega)]
     omega
    ·rw [if_neg e,if_neg e]
     obtain⟨a,b,c,d⟩:=h.th i hi;exact⟨a,b,c,by omega⟩
   ·rw [S6.get_put _ _ (by omega) hi]
    by_cases e:i=k
    ·rw [if_pos e]
     have:=h.tl k (by omega)
     exact⟨by show _+1=(_++[o]).length;rw [List.length_append,this.1];rfl,by show (_++[o]).length<=_;rw [List.length_append];exact Nat.succ_le_succ this.2⟩
    ·rw [if_neg e];obtain⟨a,b⟩:=h.tl i hi;exact⟨a,by omega⟩
def u0:S6 Bool:=⟨false,false,false,false,false,false⟩
def a0:S6 Int:=⟨0,0,0,0,0,0⟩
structure BtInv (N K:Nat) (n:Int) (t:S6 TD) (m:ParM) (u:S6 Bool) (a:S6 Int):Prop where
 wf:m.WF N K
 len:(m.threads.length:Int)=n
 rep:Rep n t m.beats u0 a0 u a
 un:∀k,k < m.threads.length->u.get k=bf (m.threads.getD k aA).ver
 at':∀k,k < m.threads.length->0<=a.get k /\ a.get k<=((t.get k).l.length:Int) /\ (t.get k).l.drop (a.get k).toNat=(m.threads.getD k aA).queue
theorem QuInv.bti (h:QuInv N L n t m):BtInv N 0 n t m u0 a0:=by
 have g:∀k,u0.get k=false /\ a0.get k=0:=fun k=>by
  match k with
  | 0 | 1 | 2 | 3 | 4=>exact⟨rfl,rfl⟩
  | k+5=>exact⟨rfl,rfl⟩
 refine⟨h.wf,h.len,by rw [h.bt];exact⟨rfl,rfl⟩,fun k hk=>?_,fun k hk=>?_⟩
 ·rw [(g k).1,(h.th k hk).1]
 ·rw [(g k).2]
  exact⟨Int.le_refl _,by omega,(h.th k hk).2.1⟩
theorem BtInv.pk (h:BtInv N K n t m u a) (hK:K+34<=100000) {k:Nat} (hk:k < m.threads.length):ES m k=true /\ ∃u' a',BtInv N (K+34) n t (dR m k).2 u' a' /\
 ((dR m k).1.1=0 /\ (dR m k).2.beats.length=m.beats.length+1 \/ (dR m k).1.1=ErS+1 /\ (dR m k).2=m):=by
 obtain⟨g1,g2,g3⟩:=Dj hK h.wf hk
 refine⟨g1,?_⟩
 have hth:=h.wf.th
 cases hi:fV (m.threads.getD k aA) with
 | true =>
   rw [hi] at g2
   rw [g2] at g3 ⊢
   exact⟨u,a,⟨g3,h.len,h.rep,h.un,h.at'⟩,.inr ⟨rfl,rfl⟩⟩
 | false =>
   rw [hi] at g2
   rw [g2] at g3 ⊢
   have hm:=cG (d:=aA) hk
   obtain⟨_,_,_,_,hq⟩:=tf (by omega) h.wf hm hi
   obtain⟨p1,p2,p3⟩:=h.at' k hk
   have hu:=h.un k hk
   have ek:((k:Int)).toNat=k:=by omega
   have so:=Ef (jo (m.threads.getD k aA)) m.plot
   have hb:OkBt n t (lD m k) u a:=by
    refine⟨by show (0:Int)<=(k:Int);omega,by show (k:Int) < n;have:=h.len;omega,?_,fun hb=>?_,fun he=>?_,fun hb=>?_⟩
    ·show (!bf (m.threads.getD k aA).ver)=!(u.get ((k:Int)).toNat)
     rw [ek,hu]
    ·have hb:(!bf (m.threads.getD k aA).ver)=false:=hb
     show qX (m.threads.getD k aA)=_
     unfold qX;rw [hb];rfl
    ·exact so.2 he
    ·have hb:(!bf (m.threads.getD k aA).ver)=true:=hb
     have hb0:bf (m.threads.getD k aA).ver=false:=by simpa using hb
     obtain⟨_,_,hl⟩:=hq hb0
     show 0<=a.get ((k:Int)).toNat /\ a.get ((k:Int)).toNat < (((t.get ((k:Int)).toNat).l.length:Nat):Int) /\ (t.get ((k:Int)).toNat).l.getD (a.get ((k:Int)).toNat).toNat kops.dflt=qX (m.threads.getD k aA)
     rw [ek]
     have hlt:(a.get k).toNat < (t.get k).l.length:=by
      rw [<- p3,List.length_drop] at hl;omega
     refine⟨p1,by omega,?_⟩
     unfold qX
     rw [hb,<- p3]
     show _=((t.get k).l.drop _).getD 0 _
     rw [List.getD_eq_getElem?_getD,List.getD_eq_getElem?_getD,List.getElem?_drop,Nat.add_zero]
   have hold:Rep n t (nK m (jo (m.threads.getD k aA)) (m.threads.getD k aA).last) u0 a0 u a:=by
    unfold nK
    cases de _ _
    ·exact h.rep
    ·exact zp h.rep
   refine⟨nxU (lD m k) u,nxA (lD m k) a,⟨g3,?_,Dg hold hb,fun i hi2=>?_,fun i hi2=>?_⟩,.inl ⟨rfl,?_⟩⟩
   ·show ((m.threads.set k _).length:Int)=n
    rw [List.length_set];exact h.len
   ·have hi2:i < (m.threads.set k _).length:=hi2
    rw [List.length_set] at hi2
    show (u.put (!(cL (jo (m.threads.getD k aA)) m.plot).1.over) ((k:Int)).toNat).get i=bf ((m.threads.set k _).getD i aA).ver
    rw [ek,Bh hk hi2,S6.get_put _ _ (by omega) (by omega)]
    by_cases e:i=k
    ·rw [if_pos e,if_pos e,so.1,Bool.not_not]
    ·rw [if_neg e,if_neg e];exact h.un i hi2
   ·have hi2:i < (m.threads.set k _).length:=hi2
    rw [List.length_set] at hi2
    show 0<=(cond (!bf (m.threads.getD k aA).ver) (a.put (a.get ((k:Int)).toNat+1) ((k:Int)).toNat) a).get i /\ (cond (!bf (m.threads.getD k aA).ver) (a.put (a.get ((k:Int)).toNat+1) ((k:Int)).toNat) a).get i<=_ /\ (t.get i).l.drop ((cond (!bf (m.threads.getD k aA).ver) (a.put (a.get ((k:Int)).toNat+1) ((k:Int)).toNat) a).get i).toNat=((m.threads.set k ⟨_,oU (m.threads.getD k aA),_,_⟩).getD i aA).queue
    rw [ek,Bh hk hi2]
    by_cases e:i=k
    ·subst e
     rw [if_pos rfl]
     unfold oU
     cases hb:bf (m.threads.getD i aA).ver with
     | true=>exact⟨p1,p2,p3⟩
     | false =>
       obtain⟨_,_,hl⟩:=hq hb
       rw [<- p3,List.length_drop] at hl
       show 0<=(a.put (a.get i+1) i).get i /\ (a.put (a.get i+1) i).get i<=_ /\ (t.get i).l.drop ((a.put (a.get i+1) i).get i).toNat=(m.threads.getD i aA).queue.drop 1
       rw [S6.get_put _ _ (by omega) (by omega),if_pos rfl]
       refine⟨by omega,by omega,?_⟩
       rw [<- p3,List.drop_drop,show (a.get i+1).toNat=(a.get i).toNat+1 by omega]
    ·rw [if_neg e]
     cases bf (m.threads.getD k aA).ver with
     | true=>exact h.at' i hi2
     | false =>
       show 0<=(a.put (a.get k+1) k).get i /\ (a.put (a.get k+1) k).get i<=_ /\ (t.get i).l.drop ((a.put (a.get k+1) k).get i).toNat=_
       rw [S6.get_put _ _ (by omega) (by omega),if_neg e];exact h.at' i hi2
   ·show (nK m _ _++[_]).length=_
    rw [List.length_append,o6];rfl
theorem BtInv.idl (h:BtInv N K n t m u a) {k:Nat} (hk:k < m.threads.length):uo m k=(!(u.get k)&&decide (a.get k=((t.get k).l.length:Int))):=by
 obtain⟨p1,p2,p3⟩:=h.at' k hk
 unfold uo
 rw [qv.2 ⟨by omega,by omega⟩]
 show wK m ((k:Int)).toNat=_
 rw [show ((k:Int)).toNat=k by omega,h.un k hk]
 unfold wK idF
 show cond true (cond ((!bf (m.threads.getD k aA).ver)==true) ((((m.threads.getD k aA).queue.length:Nat):Int)==0) false) true=_
 rw [<- p3,List.length_drop]
 cases bf (m.threads.getD k aA).ver with
 | true=>rfl
 | false =>
   show ((((t.get k).l.length - (a.get k).toNat:Nat):Int)==0)=decide (a.get k=((t.get k).l.length:Int))
   by_cases e:a.get k=((t.get k).l.length:Int)
   ·rw [decide_eq_true e];simp;omega
   ·rw [decide_eq_false e];simp;omega
end Go.Proofs.YtcpdipfepeccgaaGreatDoor

namespace Go.Proofs.YtcpdipfepeccgaaGreatDoor
open Go Go.Sx Go.Proofs
set_option maxRecDepth 100000
set_option maxHeartbeats 0
variable {σ:Sg}
noncomputable def NVo (j:Nat) (σ:Sg):Env AV:={tt:=tt,ft:=ft,gu:=gu,G:=8,F:=F6 σ,hv:=hvG (F6 σ) slT 8,mt:=mtF,sl:=slT,orc:=some j}
theorem Lb {j:Nat}:TblOk Tryz.prog (NVo j σ):=by
 obtain⟨a,b,c,d,e⟩:=okV (σ:=σ)
 exact⟨a,b,c,d,e⟩
theorem P9 {j:Nat} {tab:Tab} (h:bm Tryz.prog (NV σ) tab) (k:Nat):cP Tryz.prog (NVo j σ) (joinCal (lv (NVo j σ) tab k)) :=
 bo (fU Lb (fun f fn c _ _ id b _ g hg=>by cases hg) (Cd G1 rfl) (fun f g hg=>eh (N:=NV σ) (N':=NVo j σ) rfl rfl (h f g hg)) k)
def tdC (t:S6 TD):List Cell:=[.vs 13 0 t.a0.q 4 false,.vs 14 0 t.a1.q 4 false,.vs 15 0 t.a2.q 4 false,.vs 16 0 t.a3.q 4 false,.vs 17 0 t.a4.q 4 false,.vs 18 0 t.a5.q 4 false]
def tdH (t:S6 TD):List AV:=[.ops t.a0.l,.ops t.a1.l,.ops t.a2.l,.ops t.a3.l,.ops t.a4.l,.ops t.a5.l]
def SS (x:RfI) (p:ParM):Hp AV:=hpO allM [.opsA x.ops,.intsA x.ts]++[some (.cells (SJ x.lay) 22),some (.abs (.par p))]
def hpB (x:RfI) (p:ParM) (t:S6 TD):Hp AV:=SS x p++some (.cells (tdC t) 47)::bq (tdH t)
def HM (σ:Sg) (ok:ParM->Nat->Bool) (pk:ParM->Nat->(Nat×Bt)×ParM) (args:List SV) (l:List AV):T (SV×List AV×List AV):=match args,l with
 | [.v (.c (.ptr 8 0)),.v (.c c)],[.par m]=>match iOf c with
   | some k=>.need (okN m) (.need (j8 m.threads.length k) (.need (ok m k.toNat) (.ite (Nat.beq (pk m k.toNat).1.1 0) (.leaf (.tup [.agg (pk m k.toNat).1.2.enc,.c .inil],[.par (pk m k.toNat).2],[]))
      (.need (Nat.beq (pk m k.toNat).1.1 (ErS+1)) (.leaf (.tup [btZ,jl σ ErS],[.par (pk m k.toNat).2],[]))))))
   | none=>.fail "Pick"
 | _,_=>.fail "Pick"
theorem EH {ok:ParM->Nat->Bool} {pk:ParM->Nat->(Nat×Bt)×ParM} (args:List SV) (l:List AV) (r:SV×List AV×List AV) (h:(HM σ ok pk args l).val=some r):(Dk σ ok pk args l).val=some r:=by
 unfold HM at h
 split at h
 ·split at h
  ·rename_i k h0
   obtain⟨h1,h⟩:=ah h
   obtain⟨h2,h⟩:=ah h
   obtain⟨h3,h⟩:=ah h
   simp only [Dk,h0]
   rw [nv h1,ivF (by rw [h2];rfl),nv h3]
   cases hc:Nat.beq (pk _ k.toNat).1.1 0 with
   | true=>rw [ivT hc] at h;rw [ivT rfl];exact h
   | false =>
     rw [ivF hc] at h
     obtain⟨h4,h⟩:=ah h
     rw [ivF rfl]
     exact(ivT h4).trans h
  ·simp [T.val] at h
 ·simp [T.val] at h
noncomputable def Gr (σ:Sg) (F:RfF):Tab:=aC 8 (aL isS mPk (HM σ F.okp F.pk)) aQ
theorem Gq:bm Tryz.prog (NV σ) (Gr σ rfM):=aj (wN K8 EH) au
noncomputable def Nw (idl:ParM->Int->Bool):Tab:=aC 13 (aL isS mId (IZ idl)) aQ
theorem Gp:bm Tryz.prog (NV σ) (Nw uo):=aj LK au
noncomputable def B9:Code:=dO 9 (aT (bC Tryz.f4))
noncomputable def B15:Code:=dO 15 (aT (bC Tryz.f4))
noncomputable def B26:Code:=dO 26 (aT (bC Tryz.f4))
noncomputable def B37:Code:=dO 37 (aT (bC Tryz.f4))
def kb9:List Nat:=[1,2,7,8,9,10]
def fb9 (x:RfI) (i:Int) (p:ParM) (t:S6 TD):Sx.St AV:={E:=only kb9 [(1,.v (.c (.vs 8 0 x.no 4 false))),(2,.v (.c (.vs 9 0 x.nt 1 false))),(7,.v (.c (.ptr 11 0))),(8,.v (.c (.ir .i64 x.n 1 7 x.hn))),(9,.v (.c (.ptr 12 0))),(10,.v (.c (.it .i64 i)))] 220,H:=hpB x p t}
def LG:List Nat:=[2,7,8,9,11,12]
def Ff (x:RfI) (i made:Int) (p:ParM) (t:S6 TD):Sx.St AV:={E:=only LG [(2,.v (.c (.vs 9 0 x.nt 1 false))),(7,.v (.c (.ptr 11 0))),(8,.v (.c (.ir .i64 x.n 1 7 x.hn))),(9,.v (.c (.ptr 12 0))),(11,.v (.c (.it .i64 made))),(12,.v (.c (.it .i64 i)))] 220,H:=hpB x p t}
def unC (u:S6 Bool):List Cell:=[.bt u.a0,.bt u.a1,.bt u.a2,.bt u.a3,.bt u.a4,.bt u.a5]
def atC (a:S6 Int):List Cell:=[.it .i64 a.a0,.it .i64 a.a1,.it .i64 a.a2,.it .i64 a.a3,.it .i64 a.a4,.it .i64 a.a5]
def hpU (x:RfI) (p:ParM) (t:S6 TD) (l:List Bt) (u:S6 Bool) (a:S6 Int):Hp AV:=hpB x p t++[some (.abs (.beats l)),some (.cells (unC u) 48),some (.cells (atC a) 49)]
def SO:List Nat:=[7,8,9,15,16,17,18]
def Fe (x:RfI) (i:Int) (p:ParM) (t:S6 TD) (q:Nat) (l:List Bt) (u:S6 Bool) (a:S6 Int):Sx.St AV:={E:=only SO [(7,.v (.c (.ptr 11 0))),(8,.v (.c (.ir .i64 x.n 1 7 x.hn))),(9,.v (.c (.ptr 12 0))),(15,.v (.c (.vs 19 0 q 10 false))),(16,.v (.c (.ptr 20 0))),(17,.v (.c (.ptr 21 0))),(18,.v (.c (.it .i64 i)))] 220,H:=hpU x p t l u a}
def SN:List Nat:=[7,8,9,16,17,20]
def Jf (x:RfI) (i:Int) (p:ParM) (t:S6 TD) (l:List Bt) (u:S6 Bool) (a:S6 Int):Sx.St AV:={E:=only SN [(7,.v (.c (.ptr 11 0))),(8,.v (.c (.ir .i64 x.n 1 7 x.hn))),(9,.v (.c (.ptr 12 0))),(16,.v (.c (.ptr 20 0))),(17,.v (.c (.ptr 21 0))),(20,.v (.c (.it .i64 i)))] 220,H:=hpU x p t l u a}
end Go.Proofs.YtcpdipfepeccgaaGreatDoor

namespace Go.Sx
variable {AV:Type} {P:Program} {N:Env AV}
theorem uy {nt:Nat} {E:Ev} {H:Hp AV} {n0:Nat} {l l':List Cell} {ty:TypeId} {news:List AV} (h0:hget H n0=some (.cells l ty)) (hl:∀a∈news,∃es ty,N.F.arr a=some (es,ty,[])) (hG:N.G<=H.length)
 (hd:∀ρ:Nm,(∀j,ρ.L (H.length+j)=⟨0,0,0⟩)->ae ρ l'=ae ρ l) (hN:∀c∈l',∀m,c.name=some m->c∈l \/ (H.length<=m /\ m < H.length+news.length)) :
 Enter N nt {E:=E,H:=H} {E:=E,H:=lset H n0 (some (.cells l' ty))++bq news}:=fun hc=>by
 have hlt:=aH h0
 have hlen:(lset H n0 (some (.cells l' ty))).length=H.length:=bn ..
 have hget0:∀n,hget (lset H n0 (some (.cells l' ty))++bq news) n=if n < H.length then(if n=n0 then some (.cells l' ty) else hget H n) else hget (bq news) (n - H.length):=fun n=>by
  rw [ax,hlen]
  by_cases hn:n < H.length
  ·rw [if_pos hn,if_pos hn]
   by_cases e:n=n0
   ·subst e;rw [if_pos rfl,aO _ hlt]
   ·rw [if_neg e,ay _ fun e2=>e e2.symm]
  ·rw [if_neg hn,if_neg hn]
 have pers:∀n c,hget H n=some c->∃c',hget (lset H n0 (some (.cells l' ty))++bq news) n=some c':=fun n c h=>by
  rw [hget0,if_pos (aH h)]
  by_cases e:n=n0
  ·rw [if_pos e];exact⟨_,rfl⟩
  ·rw [if_neg e];exact⟨c,h⟩
 refine⟨⟨fun k=>(hc.E k).mono pers,fun n x hx=>?_⟩,by simp [hlen],fun ρ a w hat=>?_⟩
 ·rw [hget0] at hx
  split at hx
  ·split at hx
   ·cases hx
    intro c hcc m hm
    rcases hN c hcc m hm with h1 | ⟨h1,h2⟩
    ·obtain⟨d,hd⟩:=hc.H n0 _ h0 c h1 m hm
     exact pers m d hd
    ·obtain⟨j,rfl⟩:∃j,m=H.length+j:=⟨m - H.length,by omega⟩
     have hj:j < news.length:=by omega
     refine⟨.abs news[j],?_⟩
     rw [hget0,if_neg (by omega),Nat.add_sub_cancel_left]
     exact(aW _ _ _).2 ⟨_,List.getElem?_eq_getElem hj,rfl⟩
   ·exact(hc.H n x hx).mono pers
  ·obtain⟨b,_,rfl⟩:=(aW _ _ _).1 hx
   intro c hc;cases hc
 ·let ρ':Nm:=⟨fun n=>if n < H.length then ρ.L n else⟨0,0,0⟩,fun n=>if n < H.length then ρ.S n else fun _=>False⟩
  have eL:∀n,n < H.length->ρ'.L n=ρ.L n:=fun n hn=>if_pos hn
  have eS:∀n,n < H.length->ρ'.S n=ρ.S n:=fun n hn=>if_pos hn
  have eL0:∀n,¬n < H.length->ρ'.L n=⟨0,0,0⟩:=fun n hn=>if_neg hn
  have eS0:∀n,¬n < H.length->ρ'.S n=fun _=>False:=fun n hn=>if_neg hn
  have agr:∀n c,hget H n=some c->ρ'.L n=ρ.L n:=fun n c h=>eL n (aH h)
  have dl:ae ρ' l'=ae ρ l:=(hd ρ' fun j=>eL0 _ (by omega)).trans (denL_congr (hc.H n0 _ h0) fun x y hy=>agr x y hy)
  have fp0:∀n c k,hget (lset H n0 (some (.cells l' ty))++bq news) n=some c->c.fp ρ' n k->n < H.length /\ ∃d,hget H n=some d /\ d.fp ρ n k:=fun n c k hc hk=>by
   rw [hget0] at hc
   split at hc
   ·rename_i hn
    rw [aU (eL n hn) (eS n hn)] at hk
    split at hc
    ·rename_i e;subst e;cases hc
     exact⟨hn,_,h0,hk⟩
    ·exact⟨hn,c,hc,hk⟩
   ·rename_i hn
    obtain⟨a,_,rfl⟩:=(aW _ _ _).1 hc
    have hk:ρ'.S n k:=hk
    rw [eS0 n hn] at hk
    exact hk.elim
  have own:Own N ρ' (lset H n0 (some (.cells l' ty))++bq news) w:=by
   refine hat.own.sub ⟨fun n c hcn=>?_,fun n m c d hnm hc hd k hk hk'=>?_,fun g hg=>?_⟩ fun n c k hc hk=>?_
   ·rw [hget0] at hcn
    split at hcn
    ·rename_i hn
     split at hcn
     ·rename_i e;subst e;cases hcn
      have hq:w.heap[ρ n]?=_:=hat.own.q n _ h0
      show w.heap[ρ' n]?=some (.cells (ae ρ' l').toArray ty _)
      rw [dl,show ρ' n=ρ n by show (ρ'.L n).b=(ρ.L n).b;rw [eL n hn]]
      exact hq
     ·exact gi (hat.own.q n c hcn) (eL n hn) (eS n hn) (denL_congr (hc.H n c hcn) fun x y hy=>agr x y hy) (fun _ _=>rfl)
    ·rename_i hn
     obtain⟨a,ha,rfl⟩:=(aW _ _ _).1 hcn
     obtain⟨es,ty,harr⟩:=hl a (List.mem_of_getElem? ha)
     show N.F.q a _ _ _
     rw [eL0 n hn,eS0 n hn]
     exact((N.F.arr_q a _ _ _ harr).2 _ _ _).2 (.inl ⟨Nat.zero_le _,rfl,fun k h=>h⟩)
   ·obtain⟨h1,c',h2,h3⟩:=fp0 n c k hc hk
    obtain⟨g1,d',g2,g3⟩:=fp0 m d k hd hk'
    exact hat.own.dis n m c' d' hnm h2 g2 k h3 g3
   ·show (ρ'.L g).b=g
    rw [eL g (by omega)]
    exact hat.own.glb g hg
   ·obtain⟨h1,c',h2,h3⟩:=fp0 n c k hc hk
    exact⟨n,c',h2,h3⟩
  refine⟨ρ',⟨⟨hat.em.size,fun k hk=>?_⟩,own⟩,⟨pers,fun n c h=>agr n c h,fun n hn h=>?_,by simp [hlen],fun _ _ _=>rfl,fun n c k hc hk=>?_,rfl,rfl,rfl,Nat.le_refl _⟩⟩
  ·rw [hat.em.get k hk]
   exact(SV.den_congr (hc.E k) agr).symm
  ·rw [hget0,if_pos hn,if_neg (fun e=>by subst e;rw [h0] at h;cases h)];exact h
  ·obtain⟨h1,c',h2,h3⟩:=fp0 n c k hc hk
   exact .inr ⟨n,c',h2,h3⟩
theorem rf {nt:Nat} {E:Ev} {H:Hp AV} {n:Nat} {l l':List Cell} {ty:TypeId} (hn:hget H n=some (.cells l ty)) (hG:N.G<=H.length) (hl:∀ρ,ae ρ l'=ae ρ l) (hN:∀c∈l',∀m,c.name=some m->c∈l):Enter N nt {E:=E,H:=H} {E:=E,H:=lset H n (some (.cells l' ty))}:=by
 have h:=uy (N:=N) (nt:=nt) (E:=E) (news:=[]) hn (fun a h=>by cases h) hG (fun ρ _=>hl ρ) (fun c hc m hm=>.inl (hN c hc m hm))
 rwa [show lset H n (some (.cells l' ty))++bq []=lset H n (some (.cells l' ty)) from List.append_nil _] at h
end Go.Sx

namespace Go.Proofs.YtcpdipfepeccgaaGreatDoor
open Go Go.Sx Go.Proofs
set_option maxRecDepth 100000
set_option maxHeartbeats 0
variable {σ:Sg}
abbrev TB:=T (Ex×Sx.St AV)
def kI (x:RfI) (i:Int):Int:=Int.tmod i x.n
def tB9 (σ:Sg) (F:RfF) (x:RfI) (i:Int) (p:ParM) (t:S6 TD) (j:Nat):TB :=
 let o:=o5 x i
 let k:=(kI x i).toNat
 let p2:=(F.qu p k o).2
 let w (n:TB):TB:=.need (x.n != 0) n
 let e (n:TB):TB:=.need (decide (kI x i=(j:Int))) n
 .ite (decide (i < (x.no:Int))) (w (inO x i (.need (okN p) (.need (j8 p.threads.length (kI x i)) (.need (F.okq p k o) (.ite (Nat.beq (F.qu p k o).1 0)
  (w (w (e (inO x i (.need (decide ((t.get j).q=AV.len (.ops (t.get j).l) /\ ((t.get j).q+1) * (SI.bytes Eu+1)<=lim)) (e (.leaf (.normal,fb9 x (IntKind.wrap .i64 (i+1)) p2 (t.put ⟨(t.get j).q+1,(t.get j).l++[o]⟩ j)))))))))
  (.need (!(Nat.beq (F.qu p k o).1 (ErF+1))) (.need (Nat.beq (F.qu p k o).1 (ErA+1)) (.leaf (.normal,fb9 x (IntKind.wrap .i64 (i+1)) p2 t)))))))))) (.leaf (.exit 0,fb9 x i p t))
theorem b9R (σ:Sg) (F:RfF) (x:RfI) (i:Int) (p:ParM) (t:S6 TD) {j:Nat} (hj:j < 6):(xc (NVo j σ) (joinCal (lv (NVo j σ) (Q0 σ F) 8)) (fun _=>none) 220 B9 (fb9 x i p t)).bind (bR 13 220 kb9 bZ)=tB9 σ F x i p t j:=by
 rcases (by omega:j=0 \/ j=1 \/ j=2 \/ j=3 \/ j=4 \/ j=5) with rfl | rfl | rfl | rfl | rfl | rfl<;>(clear hj;as_aux_lemma=>kernel_rfl)
def kP (x:RfI) (i:Int):Int:=IntKind.wrap .i64 (Int.tmod (IntKind.wrap .u64 (x.ts.getD (0+i.toNat) kints.dflt).val) (IntKind.wrap .u64 x.n))
def Q3 (F:RfF) (x:RfI) (i made:Int) (p:ParM) (t:S6 TD):TB :=
 let k:=(kP x i).toNat
 .ite (match decide (i < (x.nt:Int))==true with | true=>decide (i < 2000) | false=>false)
  (.need (decide (0<=i /\ i < (x.nt:Int))) (.need (decide (0+i.toNat < x.ts.length)) (.need (IntKind.wrap .u64 x.n != 0) (.need (okN p) (.need (j8 p.threads.length (kP x i)) (.need (F.okp p k)
    (.ite (Nat.beq (F.pk p k).1.1 0) (.leaf (.normal,Ff x (IntKind.wrap .i64 (i+1)) (IntKind.wrap .i64 (made+1)) (F.pk p k).2 t)) (.need (Nat.beq (F.pk p k).1.1 (ErS+1)) (.leaf (.normal,Ff x (IntKind.wrap .i64 (i+1)) made (F.pk p k).2 t)))))))))) (.leaf (.exit 2,Ff x i made p t))
theorem UB (σ:Sg) (F:RfF) (x:RfI) (i made:Int) (p:ParM) (t:S6 TD):(xc (NV σ) (joinCal (lv (NV σ) (Gr σ F) 8)) (fun _=>none) 220 B15 (Ff x i made p t)).bind (bR 19 220 LG bZ)=Q3 F x i made p t:=by kernel_rfl
def caB (b:Bt):Bool:=match (!b.ends)==true with | true=>!(b.code==0&&b.aval==0) | false=>false
def c1B (n:Int) (b:Bt) (u:Bool):Bool :=
 match decide (b.thread < 0)==false with
 | true=>(match decide (b.thread>=n)==false with
   | true=>(match (b.begins==u)==false with
     | true=>(match (!b.begins)==true with
       | true=>(match (!(b.kind==0&&(b.key==0&&(b.val==0&&b.tall==0))))==false with | true=>caB b | false=>true)
       | false=>caB b)
     | false=>true)
   | false=>true)
 | false=>true
def oB (t:TD) (a:Int):O:=t.l.getD (0+a.toNat) kops.dflt
def c2B (b:Bt) (t:TD) (a:Int):Bool:=match decide (a>=(t.q:Int))==false with | true=>!((oB t a).kind==b.kind&&((oB t a).key==b.key&&((oB t a).val==b.val&&(oB t a).tall==b.tall))) | false=>true
def n1B (n:Int) (b:Bt) (j:Nat):Bool:=match decide (b.thread < 0)==false with | true=>(match decide (b.thread>=n)==false with | true=>decide (b.thread=(j:Int)) | false=>true) | false=>true
def n2B (b:Bt) (j:Nat) (t:TD) (a:Int):Bool :=
 let e (x:Bool):Bool:=match decide (b.thread=(j:Int)) with | true=>x | false=>false
 e (e (match decide (a>=(t.q:Int))==false with | true=>e (e (match decide (0<=a /\ a < (t.q:Int)) with | true=>decide (0+a.toNat < t.l.length) | false=>false)) | false=>true))
def OA (x:RfI) (i:Int) (p:ParM) (t:S6 TD) (q:Nat) (l:List Bt) (u:S6 Bool) (a:S6 Int) (j:Nat):TB :=
 let b:=l.getD (0+i.toNat) kbeats.dflt
 let e (n:TB):TB:=.need (decide (b.thread=(j:Int))) n
 let ret:TB:=.leaf (.ret,Fe x i p t q l u a)
 let nxt (a:S6 Int):TB:=e (.leaf (.normal,Fe x (IntKind.wrap .i64 (i+1)) p t q l (u.put (!b.ends) j) a))
 .ite (decide (i < (q:Int))) (.need (decide (0<=i /\ i < (q:Int))) (.need (decide (0+i.toNat < l.length)) (.need (n1B x.n b j) (.ite (c1B x.n b (u.get j)) ret
  (.ite b.begins (.need (n2B b j (t.get j) (a.get j)) (.ite (c2B b (t.get j) (a.get j)) ret (e (e (nxt (a.put (IntKind.wrap .i64 (a.get j+1)) j)))))) (nxt a)))))) (.leaf (.exit 4,Fe x i p t q l u a))
theorem UA (σ:Sg) (x:RfI) (i:Int) (p:ParM) (t:S6 TD) (q:Nat) (l:List Bt) (u:S6 Bool) (a:S6 Int) {j:Nat} (hj:j < 6):(xc (NVo j σ) (joinCal (lv (NVo j σ) aQ 8)) (fun _=>none) 220 B26 (Fe x i p t q l u a)).bind (bR 22 220 SO bZ)=OA x i p t q l u a j:=by
 rcases (by omega:j=0 \/ j=1 \/ j=2 \/ j=3 \/ j=4 \/ j=5) with rfl | rfl | rfl | rfl | rfl | rfl<;>(clear hj;as_aux_lemma=>kernel_rfl)
def Oz (idl:ParM->Int->Bool) (x:RfI) (i:Int) (p:ParM) (t:S6 TD) (l:List Bt) (u:S6 Bool) (a:S6 Int) (j:Nat):TB :=
 let e (n:TB):TB:=.need (decide (i=(j:Int))) n
 let ret:TB:=.leaf (.ret,Jf x i p t l u a)
 let nxt:TB:=.leaf (.normal,Jf x (IntKind.wrap .i64 (i+1)) p t l u a)
 .ite (decide (i < x.n)) (.need (okN p) (e (.ite ((!(u.get j))==true) (e (e (.ite (!(idl p i==(a.get j==((t.get j).q:Int)))) ret nxt))) (.ite (!(idl p i==false)) ret nxt)))) (.leaf (.exit 6,Jf x i p t l u a))
theorem Uz (σ:Sg) (idl:ParM->Int->Bool) (x:RfI) (i:Int) (p:ParM) (t:S6 TD) (l:List Bt) (u:S6 Bool) (a:S6 Int) {j:Nat} (hj:j < 6):(xc (NVo j σ) (joinCal (lv (NVo j σ) (Nw idl) 8)) (fun _=>none) 220 B37 (Jf x i p t l u a)).bind (bR 22 220 SN bZ)=Oz idl x i p t l u a j:=by
 rcases (by omega:j=0 \/ j=1 \/ j=2 \/ j=3 \/ j=4 \/ j=5) with rfl | rfl | rfl | rfl | rfl | rfl<;>(clear hj;as_aux_lemma=>kernel_rfl)
end Go.Proofs.YtcpdipfepeccgaaGreatDoor
