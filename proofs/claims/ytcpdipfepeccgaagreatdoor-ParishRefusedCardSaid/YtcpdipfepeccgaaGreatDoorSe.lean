import Derived.Test.YtcpdipfepeccgaaGreatDoorRx
import Derived.Test.YtcpdipfepeccgaaGreatDoorSxM
import Derived.WideKeyArgs
import Derived.ChangeSame
import Derived.RowKit
import Derived.RowKit3
import Derived.LaidLaws
import Derived.Deep.DeepHandedRow
import Derived.SevenTiedAt
import Derived.JoinedCond
import Derived.OpenShut
import Derived.Deep.Slices
set_option maxHeartbeats 4000000
set_option linter.unusedVariables false
namespace Go.Proofs.YtcpdipfepeccgaaGreatDoor
open Go Go.Sx Go.Proofs
set_option maxRecDepth 100000
set_option maxHeartbeats 0
variable {σ:Sg}
theorem sumG_mono {isS:AV->Nat->Bool} {M:List Bool} {t1 t2:List SV->List AV->T (SV×List AV×List AV)} (h:∀args l r,(t2 args l).val=some r->(t1 args l).val=some r) {args:List SV} {H:Hp AV} {r:SV×Hp AV} (h2:(sumG isS M t2 args H).val=some r):(sumG isS M t1 args H).val=some r:=by
 unfold sumG at h2 ⊢
 split at h2
 ·simp [T.val] at h2
 ·dsimp only at h2 ⊢
  split at h2
  ·obtain⟨y,g1,g2⟩:=T.bind_some h2
   rw [T.val_bind,h _ _ _ g1]
   exact g2
  ·simp [T.val] at h2
theorem fnOk_mono {f:FuncId} {M:List Bool} {t1 t2:List SV->List AV->T (SV×List AV×List AV)} (hf:FnOk Tryz.prog (NV σ) f (sumG isS M t1)) (h:∀args l r,(t2 args l).val=some r->(t1 args l).val=some r):FnOk Tryz.prog (NV σ) f (sumG isS M t2) :=
 fun args H v H' h2=>hf args H v H' (sumG_mono h h2)
def qu9G (σ:Sg) (ok:ParM->Nat->O->Bool) (qu:ParM->Nat->O->Nat×ParM) (args:List SV) (l:List AV):T (SV×List AV×List AV):=match args,l with
 | [.v (.c (.ptr 8 0)),.v (.c c),a],[.par m]=>match iOf c,aOp.dec [a] with
   | some k,some o=>.need (okN m) (.need (hasB m.threads.length k) (.need (ok m k.toNat o)
     (.ite (Nat.beq (qu m k.toNat o).1 0) (.leaf (.v (.c .inil),[.par (qu m k.toNat o).2],[]))
       (.need (!(Nat.beq (qu m k.toNat o).1 (ErF+1))) (.need (Nat.beq (qu m k.toNat o).1 (ErA+1)) (.leaf (.v (errV σ ErA),[.par (qu m k.toNat o).2],[])))))))
   | _,_=>.fail "Queue"
 | _,_=>.fail "Queue"
theorem qu9_mono {ok:ParM->Nat->O->Bool} {qu:ParM->Nat->O->Nat×ParM} (args:List SV) (l:List AV) (r:SV×List AV×List AV) (h:(qu9G σ ok qu args l).val=some r):(queueG σ ok qu args l).val=some r:=by
 unfold qu9G at h
 split at h
 ·split at h
  ·rename_i k o h0 h00
   obtain⟨h1,h⟩:=need_some h
   obtain⟨h2,h⟩:=need_some h
   obtain⟨h3,h⟩:=need_some h
   simp only [queueG,h0,h00]
   rw [nv h1,ivF (by rw [h2];rfl),nv h3]
   cases hc:Nat.beq (qu _ k.toNat o).1 0 with
   | true=>rw [ivT hc] at h;rw [ivT rfl];exact h
   | false =>
     rw [ivF hc] at h
     obtain⟨h4,h⟩:=need_some h
     rw [ivF rfl,ivF (by simpa using h4)]
     exact h
  ·simp [T.val] at h
 ·simp [T.val] at h
noncomputable def qu14G (σ:Sg) (ok:ParM->Nat->O->Bool) (qu:ParM->Nat->O->Nat×ParM) (args:List SV) (l:List AV):T (SV×List AV×List AV):=match args,l with
 | [.v (.c (.ptr 8 0)),.v (.c c),a],[.par m]=>match iOf c,aOp.dec [a] with
   | some k,some o=>.need (okN m) (.need (decC (hasB m.threads.length k=true->ok m k.toNat o=true /\ qu m k.toNat o=(ErA+1,m))) (.leaf (.v (errV σ ErA),[.par m],[])))
   | _,_=>.fail "Queue"
 | _,_=>.fail "Queue"
theorem qu14_mono {ok:ParM->Nat->O->Bool} {qu:ParM->Nat->O->Nat×ParM} (args:List SV) (l:List AV) (r:SV×List AV×List AV) (h:(qu14G σ ok qu args l).val=some r):(queueG σ ok qu args l).val=some r:=by
 unfold qu14G at h
 split at h
 ·split at h
  ·rename_i k o h0 h00
   obtain⟨h1,h⟩:=need_some h
   obtain⟨h2,h⟩:=need_some h
   have h2:=decC_of h2
   simp only [queueG,h0,h00]
   rw [nv h1]
   cases hb:hasB _ k with
   | false=>rw [ivT (c:=!false) rfl];exact h
   | true =>
     obtain⟨g1,g2⟩:=h2 hb
     rw [ivF (c:=!true) rfl,nv g1,g2]
     rw [ivF (show Nat.beq (ErA+1) 0=false from rfl),ivF (show Nat.beq (ErA+1) (ErF+1)=false from rfl),nv (show Nat.beq (ErA+1) (ErA+1)=true from rfl)]
     exact h
  ·simp [T.val] at h
 ·simp [T.val] at h
noncomputable def pk14G (σ:Sg) (ok:ParM->Nat->Bool) (pk:ParM->Nat->(Nat×Bt)×ParM) (args:List SV) (l:List AV):T (SV×List AV×List AV):=match args,l with
 | [.v (.c (.ptr 8 0)),.v (.c (.il .i64 (Int.ofNat 0)))],[.par m]=>.need (okN m) (.need (hasB m.threads.length 0) (.need (ok m 0)
     (.ite (Nat.beq (pk m 0).1.1 0) (.leaf (.tup [.agg (pk m 0).1.2.enc,.c .inil],[.par (pk m 0).2],[]))
       (.need (Nat.beq (pk m 0).1.1 (ErS+1)) (.leaf (.tup [btZ,errV σ ErS],[.par (pk m 0).2],[]))))))
 | [.v (.c (.ptr 8 0)),.v (.c c)],[.par m]=>match iOf c with
   | some k=>.need (okN m) (.need (decC (hasB m.threads.length k=true->ok m k.toNat=true /\ pk m k.toNat=((ErS+1,btD),m)))
      (.ite (!(hasB m.threads.length k)) (.leaf (.tup [btZ,errV σ ErA],[.par m],[])) (.leaf (.tup [btZ,errV σ ErS],[.par m],[]))))
   | none=>.fail "Pick"
 | _,_=>.fail "Pick"
theorem pk14_mono {ok:ParM->Nat->Bool} {pk:ParM->Nat->(Nat×Bt)×ParM} (args:List SV) (l:List AV) (r:SV×List AV×List AV) (h:(pk14G σ ok pk args l).val=some r):(pickG σ ok pk args l).val=some r:=by
 unfold pk14G at h
 split at h
 ·rename_i m
  obtain⟨h1,h⟩:=need_some h
  obtain⟨h2,h⟩:=need_some h
  obtain⟨h3,h⟩:=need_some h
  simp only [pickG,show iOf (.il .i64 (Int.ofNat 0))=some 0 from rfl]
  rw [nv h1,ivF (by rw [h2];rfl)]
  show (T.need (ok m 0) (T.ite (Nat.beq (pk m 0).1.1 0) _ _)).val=_
  rw [nv h3]
  cases hc:Nat.beq (pk m 0).1.1 0 with
  | true=>rw [ivT hc] at h;rw [ivT rfl];exact h
  | false =>
    rw [ivF hc] at h
    obtain⟨h4,h⟩:=need_some h
    rw [ivF rfl]
    exact(ivT h4).trans h
 ·split at h
  ·rename_i k h0
   obtain⟨h1,h⟩:=need_some h
   obtain⟨h2,h⟩:=need_some h
   have h2:=decC_of h2
   simp only [pickG,h0]
   rw [nv h1]
   cases hb:hasB _ k with
   | false=>rw [hb,ivT (c:=!false) rfl] at h;rw [ivT (c:=!false) rfl];exact h
   | true =>
     obtain⟨g1,g2⟩:=h2 hb
     rw [hb,ivF (c:=!true) rfl] at h
     rw [ivF (c:=!true) rfl,nv g1,g2,ivF (show Nat.beq (ErS+1) 0=false from rfl),ivT (show Nat.beq (ErS+1) (ErS+1)=true from rfl)]
     exact h
  ·simp [T.val] at h
 ·simp [T.val] at h
def OtherIs (σ:Sg) (a b:Addr):Prop:=a≠b /\ (∃c t,σ.R a.block=some (.cells c t (0,0))) /\ ∃c t,σ.R b.block=some (.cells c t (0,0))
noncomputable def sumIs2 (σ:Sg) (args:List SV) (H:Hp AV):T (SV×Hp AV):=match args with
 | [.v (.c (.ifc te (.op i a))),.v (.c (.ifc tt (.op j b)))]=>match Nat.beq te 252,Nat.beq tt 252,Nat.beq i j with
   | true,true,false=>.need (decC (OtherIs σ a b)) (.leaf (.v (.c (.bl false)),H))
   | _,_,_=>sumIs args H
 | _=>sumIs args H
theorem plF:Plain (.v (.c (.bl false))):=by intro c hc;simp [V1.cells] at hc;subst hc;rfl
theorem is2_ok:FnOk Tryz.prog (NV σ) 9 (sumIs2 σ):=by
 intro args H v H' h hargs hC
 unfold sumIs2 at h
 split at h
 ·rename_i te i a tt j b
  split at h
  ·rename_i h1 h2 _
   have h1:=(beq_iff _ _).1 h1
   have h2:=(beq_iff _ _).1 h2
   subst h1 h2
   obtain⟨ho,h⟩:=need_some h
   obtain⟨hne,⟨ca,ta,ha⟩,⟨cb,tb,hb⟩⟩:=decC_of ho
   simp only [T.val,Option.some.injEq,Prod.mk.injEq] at h
   obtain⟨rfl,rfl⟩:=h
   exact same_ok hC plF fun ρ w hO=>is_other a b ca cb ta tb w hne (hO.ro.1 _ _ ha) (hO.ro.1 _ _ hb)
  ·exact is_ok _ _ _ _ h hargs hC
 ·exact is_ok _ _ _ _ h hargs hC
noncomputable def tab9 (σ:Sg) (F:RfF):Tab:=tabAdd 7 (sumG isS mQu (qu9G σ F.okq F.qu)) tab0
noncomputable def tab14 (σ:Sg) (F:RfF):Tab:=tabAdd 7 (sumG isS mQu (qu14G σ F.okq F.qu)) (tabAdd 8 (sumG isS mPk (pk14G σ F.okp F.pk)) (tabAdd 9 (sumIs2 σ) tab0))
theorem tab9_ok:TabOk Tryz.prog (NV σ) (tab9 σ rfM):=tabAdd_ok (fnOk_mono queue_ok qu9_mono) tab0_ok
theorem tab14_ok:TabOk Tryz.prog (NV σ) (tab14 σ rfM):=tabAdd_ok (fnOk_mono queue_ok qu14_mono) (tabAdd_ok (fnOk_mono pick_ok pk14_mono) (tabAdd_ok is2_ok tab0_ok))
structure RfI where
 lay:Cfg
 ops:List O
 no:Nat
 ts:List N1
 nt:Nat
 n:Int
 hn:1<=n /\ n < 7
noncomputable def L9:Code:=loopAt 9 (loopsOf (bodyOf Tryz.f3))
noncomputable def L14:Code:=loopAt 14 (loopsOf (bodyOf Tryz.f3))
def layC (x:Cfg):List Cell:=[.it .i64 x.s,.it .i64 x.e,.it .i64 x.n,.it .i64 x.sl,.it .i64 x.no]
def hpLw (x:RfI) (p q:ParM):Hp AV:=hpO allM [.opsA x.ops,.intsA x.ts]++[some (.cells (layC x.lay) 22),some (.abs (.par p)),some (.abs (.par q))]
def ks9:List Nat:=[1,2,7,8,9,10]
def fam9 (x:RfI) (i:Int) (p q:ParM):Sx.St AV:={E:=only ks9 [(1,.v (.c (.vs 8 0 x.no 4 false))),(2,.v (.c (.vs 9 0 x.nt 1 false))),(7,.v (.c (.ptr 11 0))),(8,.v (.c (.ptr 12 0))),(9,.v (.c (.ir .i64 x.n 1 7 x.hn))),(10,.v (.c (.it .i64 i)))] 138,H:=hpLw x p q}
def ks14:List Nat:=[2,7,8,9,11]
def fam14 (x:RfI) (i:Int) (p q:ParM):Sx.St AV:={E:=only ks14 [(2,.v (.c (.vs 9 0 x.nt 1 false))),(7,.v (.c (.ptr 11 0))),(8,.v (.c (.ptr 12 0))),(9,.v (.c (.ir .i64 x.n 1 7 x.hn))),(11,.v (.c (.it .i64 i)))] 138,H:=hpLw x p q}
end Go.Proofs.YtcpdipfepeccgaaGreatDoor

namespace Go.Proofs.YtcpdipfepeccgaaGreatDoor
open Go Go.Sx Go.Proofs
set_option maxRecDepth 100000
set_option maxHeartbeats 0
variable {σ:Sg}
def o99:O:=⟨99,0,0,0⟩
def rot (o:O):O:=⟨o.kind,o.key,o.val,o.tall⟩
def quT {α:Type} (F:RfF) (m:ParM) (o:O) (k:ParM->T α):T α :=
 .need (okN m) (.need (hasB m.threads.length 0) (.need (F.okq m 0 o) (.ite (Nat.beq (F.qu m 0 o).1 0) (k (F.qu m 0 o).2) (.need (!(Nat.beq (F.qu m 0 o).1 (ErF+1))) (.need (Nat.beq (F.qu m 0 o).1 (ErA+1)) (k (F.qu m 0 o).2))))))
def opAt (x:RfI) (i:Int):O:=rot (x.ops.getD (0+i.toNat) kops.dflt)
def inO (x:RfI) (i:Int) (t:T (Ex×Sx.St AV)):T (Ex×Sx.St AV):=.need (decide (0<=i /\ i < (x.no:Int))) (.need (decide (0+i.toNat < x.ops.length)) t)
theorem l9R (σ:Sg) (F:RfF) (x:RfI) (i:Int) (p q:ParM):(xc (NV σ) (joinCal (lv (NV σ) (tab9 σ F) 8)) (fun _=>none) 138 L9 (fam9 x i p q)).bind (backS 13 138 ks9 noPk) =
 .ite (decide (i < (x.no:Int))) (inO x i (quT F p (opAt x i) fun p2=>inO x i (quT F q (opAt x i) fun q2=>.leaf (.normal,fam9 x (IntKind.wrap .i64 (i+1)) p2 q2)))) (.leaf (.exit 0,fam9 x i p q)):=by kernel_rfl
def tk (x:RfI) (i:Int):Int:=Int.tmod (IntKind.wrap .u64 (x.ts.getD (0+i.toNat) kints.dflt).val) 9
def okPkX (F:RfF) (m:ParM) (k:Int):Prop:=hasB m.threads.length k=true->F.okp m k.toNat=true /\ F.pk m k.toNat=((ErS+1,btD),m)
def okQuX (F:RfF) (m:ParM) (k:Int):Prop:=hasB m.threads.length k=true->F.okq m k.toNat o99=true /\ F.qu m k.toNat o99=(ErA+1,m)
def neqB (b:Bt):Bool:=match (!(b.thread==b.thread&&(b.begins==b.begins&&(b.kind==b.kind&&(b.key==b.key&&(b.val==b.val&&(b.tall==b.tall&&(b.real==b.real&&(b.ends==b.ends&&(b.code==b.code&&b.aval==b.aval))))))))))==false with | true=>!(true==true) | false=>true
noncomputable def rest14 (F:RfF) (x:RfI) (i:Int) (m:ParM):T (Ex×Sx.St AV) :=
 let c0:=Nat.beq (F.pk m 0).1.1 0
 let cS:=Nat.beq (F.pk m 0).1.1 (ErS+1)
 let m2:=(F.pk m 0).2
 let ret:T (Ex×Sx.St AV):=.leaf (.ret,fam14 x i m2 m2)
 let nrm:T (Ex×Sx.St AV):=.leaf (.normal,fam14 x (IntKind.wrap .i64 (i+1)) m2 m2)
 let can (t:T (Ex×Sx.St AV)):T (Ex×Sx.St AV):=.need (okN m) (.need (hasB m.threads.length 0) (.need (F.okp m 0) t))
 .need (okN m) (.need (decC (okQuX F m (tk x i))) (can (.ite c0 (can (.ite c0 (.ite (neqB (F.pk m 0).1.2) ret nrm) (.need cS ret))) (.need cS (can (.ite c0 ret (.need cS (.ite false ret nrm))))))))
def whl14 (x:RfI) (i:Int):Bool:=match decide (i < (x.nt:Int))==true with | true=>decide (i < 60) | false=>false
def in14 (x:RfI) (i:Int):Bool:=match decide (0<=i /\ i < (x.nt:Int)) with | true=>decide (0+i.toNat < x.ts.length) | false=>false
theorem l14R (σ:Sg) (F:RfF) (x:RfI) (i:Int) (m:ParM):(xc (NV σ) (joinCal (lv (NV σ) (tab14 σ F) 8)) (fun _=>none) 138 L14 (fam14 x i m m)).bind (backS 13 138 ks14 noPk) =
 .ite (whl14 x i) (.need (in14 x i) (.ite (tk x i != 0) (.need (okN m) (.need (decC (okPkX F m (tk x i))) (.ite (!(hasB m.threads.length (tk x i)))
  (.need (decC (OtherIs σ (σ ErA) (σ 0))) (.ite (!(decide (tk x i < x.n)==false)) (.leaf (.ret,fam14 x i m m)) (rest14 F x i m)))
  (.need (decide (σ ErS=σ 0)) (.ite (!(decide (tk x i < x.n)==true)) (.leaf (.ret,fam14 x i m m)) (rest14 F x i m)))))) (rest14 F x i m))) (.leaf (.exit 2,fam14 x i m m)):=by kernel_rfl
end Go.Proofs.YtcpdipfepeccgaaGreatDoor

namespace Go.Proofs.YtcpdipfepeccgaaGreatDoor
open Go Go.Sx Go.Proofs
set_option maxRecDepth 100000
theorem fits99 (s:Int):fitsB s o99=false:=by
 cases h:fitsB s o99 with
 | false=>rfl
 | true =>
   exfalso
   rcases fits_op h with⟨_,hk⟩ | ⟨_,hk⟩ | ⟨_,hk,_⟩
   ·rcases hk with hk | hk | hk<;>exact absurd hk (by decide)
   ·rcases hk with hk | hk<;>exact absurd hk (by decide)
   ·rcases hk with hk | hk | hk<;>exact absurd hk (by decide)
structure RfInv (N K L:Nat) (n:Int) (m:ParM):Prop where
 wf:m.WF N K
 len:(m.threads.length:Int)=n
 idl:∀k,1<=k->k < m.threads.length->idleT (m.threads.getD k rosD)=true
 ql:∀r∈m.threads,r.queue.length<=L
 gv:0<=(m.threads.getD 0 rosD).given /\ (m.threads.getD 0 rosD).given<=(L:Int)
variable {N K L:Nat} {n:Int} {m:ParM}
theorem RfInv.okN (h:RfInv N K L n m):okN m=true:=decide_eq_true h.wf.th
theorem RfInv.has0 (h:RfInv N K L n m):hasB m.threads.length 0=true:=by
 have:=h.wf.th
 show andB (decide ((0:Int)>=0)) (decide ((0:Int) < (m.threads.length:Int)))=true
 rw [decide_eq_true (show (0:Int) < (m.threads.length:Int) by omega)];rfl
theorem hasB_spec {a:Nat} {k:Int}:hasB a k=true↔0<=k /\ k < (a:Int):=by
 unfold hasB
 constructor
 ·intro h
  have h2:=of_decide_eq_true (andB_snd h)
  refine⟨?_,h2⟩
  cases h1:decide (k>=0) with
  | true=>exact of_decide_eq_true h1
  | false=>rw [h1] at h;cases h
 ·rintro ⟨h1,h2⟩
  rw [decide_eq_true (show k>=0 from h1),decide_eq_true h2];rfl
theorem RfInv.qu99 (h:RfInv N K L n m) (hK:K+1<=100000) (hL:L+1<=100000) (k:Int):okQuX rfM m k:=fun hb=>by
 obtain⟨h1,h2⟩:=hasB_spec.1 hb
 obtain⟨a,_,c⟩:=queue_wf hK h.wf (k:=k.toNat) (by omega) o99 fun r hr=>by have:=h.ql r hr;omega
 refine⟨a,c.trans ?_⟩
 rw [if_neg (fun e=>by rw [fits99] at e;cases e.1),if_neg (by rw [fits99];decide)]
theorem RfInv.pkX (h:RfInv N K L n m) (hK:K+34<=100000) {k:Int} (hk:k≠0):okPkX rfM m k:=fun hb=>by
 obtain⟨h1,h2⟩:=hasB_spec.1 hb
 obtain⟨a,b,_⟩:=pick_wf hK h.wf (k:=k.toNat) (by omega)
 refine⟨a,b.trans ?_⟩
 rw [h.idl k.toNat (by omega) (by omega)];rfl
theorem set_getD {α:Type} {l:List α} {i k:Nat} {a d:α} (h:k≠i):(l.set i a).getD k d=l.getD k d:=by
 rw [List.getD_eq_getElem?_getD,List.getD_eq_getElem?_getD,List.getElem?_set_ne (Ne.symm h)]
theorem set_getD0 {α:Type} {l:List α} {a d:α} (h:0 < l.length):(l.set 0 a).getD 0 d=a:=by
 rw [List.getD_eq_getElem?_getD,List.getElem?_set_self h];rfl
theorem RfInv.qu (h:RfInv N K L n m) (hK:K+1<=100000) (hL:L < 64) (o:O):okQu m 0 o=true /\ ((queueM m 0 o).1=0 \/ (queueM m 0 o).1=ErA+1) /\ RfInv N K (L+1) n (queueM m 0 o).2:=by
 have h0:0 < m.threads.length:=h.wf.th.1
 obtain⟨a,b,c⟩:=queue_wf hK h.wf h0 o fun r hr=>by have:=h.ql r hr;omega
 have hg:=h.gv
 have keep:RfInv N K (L+1) n m:=⟨h.wf,h.len,h.idl,fun r hr=>Nat.le_succ_of_le (h.ql r hr),h.gv.1,by omega⟩
 refine⟨a,?_,?_⟩
 ·rw [c]
  cases hf:fitsB m.sort o with
  | false=>rw [if_neg (fun e=>by cases e.1),if_neg (by decide)];exact .inr rfl
  | true=>rw [if_pos ⟨rfl,by omega⟩];exact .inl rfl
 ·have e2:=b
  rw [c] at e2 ⊢
  cases hf:fitsB m.sort o with
  | false=>rw [if_neg (fun e=>by cases e.1)];exact keep
  | true =>
    rw [hf,if_pos ⟨rfl,by omega⟩] at e2
    rw [if_pos ⟨rfl,by omega⟩]
    refine⟨e2,?_,fun k h1 h2=>?_,fun r hr=>?_,?_⟩
    ·show ((m.threads.set 0 _).length:Int)=n
     rw [List.length_set];exact h.len
    ·have h2:k < (m.threads.set 0 _).length:=h2
     rw [List.length_set] at h2
     show idleT ((m.threads.set 0 _).getD k rosD)=true
     rw [set_getD (by omega)];exact h.idl k h1 h2
    ·rcases mem_set hr with hr | rfl
     ·exact Nat.le_succ_of_le (h.ql r hr)
     ·show ((m.threads.getD 0 rosD).queue++[o]).length<=L+1
      rw [List.length_append]
      exact Nat.succ_le_succ (h.ql _ (getD_mem h0))
    ·show 0<=((m.threads.set 0 _).getD 0 rosD).given /\ ((m.threads.set 0 _).getD 0 rosD).given<=((L+1:Nat):Int)
     rw [set_getD0 h0]
     show 0<=wrap1 (m.threads.getD 0 rosD).given /\ wrap1 (m.threads.getD 0 rosD).given<=_
     rw [show wrap1 (m.threads.getD 0 rosD).given=(m.threads.getD 0 rosD).given+1 from wrapI (by omega)]
     omega
theorem RfInv.pk (h:RfInv N K L n m) (hK:K+34<=100000):okPk m 0=true /\ ((pickM m 0).1.1=0 \/ (pickM m 0).1.1=ErS+1) /\ RfInv N (K+34) L n (pickM m 0).2:=by
 have h0:0 < m.threads.length:=h.wf.th.1
 obtain⟨a,b,c⟩:=pick_wf hK h.wf h0
 refine⟨a,?_,?_⟩
 ·rw [b]
  cases idleT (m.threads.getD 0 rosD)
  ·exact .inl rfl
  ·exact .inr rfl
 ·rw [b] at c ⊢
  cases hi:idleT (m.threads.getD 0 rosD) with
  | true=>rw [hi] at c;exact⟨c,h.len,h.idl,h.ql,h.gv⟩
  | false =>
    rw [hi] at c
    refine⟨c,?_,fun k h1 h2=>?_,fun r hr=>?_,?_⟩
    ·show ((m.threads.set 0 _).length:Int)=n
     rw [List.length_set];exact h.len
    ·have h2:k < (m.threads.set 0 _).length:=h2
     rw [List.length_set] at h2
     show idleT ((m.threads.set 0 _).getD k rosD)=true
     rw [set_getD (by omega)];exact h.idl k h1 h2
    ·rcases mem_set hr with hr | rfl
     ·exact h.ql r hr
     ·show (pickQ (m.threads.getD 0 rosD)).length<=L
      have:=h.ql _ (getD_mem (d:=rosD) h0)
      unfold pickQ
      cases busyV (m.threads.getD 0 rosD).ver
      ·show ((m.threads.getD 0 rosD).queue.drop 1).length<=L
       rw [List.length_drop];omega
      ·exact this
    ·show 0<=((m.threads.set 0 _).getD 0 rosD).given /\ ((m.threads.set 0 _).getD 0 rosD).given<=(L:Int)
     rw [set_getD0 h0];exact h.gv
theorem neqB_f (b:Bt):neqB b=false:=by unfold neqB;simp
end Go.Proofs.YtcpdipfepeccgaaGreatDoor

namespace Go.Proofs.YtcpdipfepeccgaaGreatDoor
open Go Go.Sx Go.Proofs
set_option maxRecDepth 100000
set_option maxHeartbeats 0
variable {σ:Sg}
structure MR where
 i:Nat
 m:ParM
theorem quT_val {α:Type} {N K L:Nat} {n:Int} {m:ParM} (h:RfInv N K L n m) (hK:K+1<=100000) (hL:L < 64) (o:O) (k:ParM->T α):(quT rfM m o k).val=(k (queueM m 0 o).2).val:=by
 obtain⟨a,b,_⟩:=h.qu hK hL o
 unfold quT
 refine(nv h.okN).trans ((nv h.has0).trans ((nv a).trans ?_))
 show (T.ite (Nat.beq (queueM m 0 o).1 0) (k (queueM m 0 o).2) (.need (!(Nat.beq (queueM m 0 o).1 (ErF+1))) (.need (Nat.beq (queueM m 0 o).1 (ErA+1)) (k (queueM m 0 o).2)))).val=_
 rcases b with b | b
 ·rw [b];exact ivT rfl
 ·rw [b]
  exact(ivF (show Nat.beq (ErA+1) 0=false from rfl)).trans ((nv (show (!(Nat.beq (ErA+1) (ErF+1)))=true from rfl)).trans (nv (show Nat.beq (ErA+1) (ErA+1)=true from rfl)))
structure RfI.Ok (x:RfI):Prop where
 no:x.no=x.ops.length
 nt:x.nt=x.ts.length
 small:x.ops.length<=20
def inv9 (x:RfI) (N:Nat) (m:MR):Prop:=m.i<=x.ops.length /\ RfInv N 0 m.i x.n m.m
noncomputable def step9 (x:RfI) (N:Nat) (m:MR):T (Ex×MR):=.need (decC (inv9 x N m)) (.leaf (if m.i < x.ops.length then(.normal,⟨m.i+1,(queueM m.m 0 (opAt x m.i)).2⟩) else(.exit 0,m)))
def fam9M (x:RfI) (m:MR):Sx.St AV:=fam9 x (m.i:Int) m.m m.m
theorem step9_run (σ:Sg) {x:RfI} (hx:x.Ok) (N:Nat) (m:MR) (r:Ex×MR) (h:(step9 x N m).val=some r) :
 ((xc (NV σ) (joinCal (lv (NV σ) (tab9 σ rfM) 8)) (fun _=>none) 138 L9 (fam9M x m)).bind (backS 13 138 ks9 noPk)).val=some (r.1,fam9M x r.2):=by
 obtain⟨hb,h⟩:=need_some (h:(T.need _ _).val=_)
 obtain⟨hi,hv⟩:=decC_of hb
 obtain⟨i,m⟩:=m
 dsimp only at hi hv
 have hs:=hx.small
 show ((xc (NV σ) _ _ 138 L9 (fam9 x i m m)).bind _).val=_
 rw [l9R]
 simp only [T.val,Option.some.injEq] at h
 subst h
 by_cases hl:i < x.ops.length
 ·rw [if_pos hl]
  have h1:decide (0<=(i:Int) /\ (i:Int) < (x.no:Int))=true:=decide_eq_true (by rw [hx.no];omega)
  have h2:decide (0+(i:Int).toNat < x.ops.length)=true:=decide_eq_true (by omega)
  refine(ivT (decide_eq_true (by rw [hx.no];omega))).trans ?_
  refine(nv h1).trans ((nv h2).trans ((quT_val hv (by omega) (by omega) _ _).trans ((nv h1).trans ((nv h2).trans ((quT_val hv (by omega) (by omega) _ _).trans ?_)))))
  show some (Ex.normal,fam9 x (IntKind.wrap .i64 ((i:Int)+1)) _ _)=_
  rw [wrapI (by omega)];rfl
 ·rw [if_neg hl]
  exact ivF (decide_eq_false (by rw [hx.no];omega))
noncomputable def end9 (x:RfI):Nat->Nat->ParM->ParM
 | 0,_,m=>m
 | r+1,i,m=>end9 x r (i+1) (queueM m 0 (opAt x i)).2
theorem end9_inv {x:RfI} {N:Nat}:∀{r i:Nat} {m:ParM},i+r<=20->RfInv N 0 i x.n m->RfInv N 0 (i+r) x.n (end9 x r i m)
 | 0,i,m,_,h=>h
 | r+1,i,m,hr,h=>by
   have:=end9_inv (x:=x) (N:=N) (r:=r) (i:=i+1) (by omega) (h.qu (by omega) (by omega) (opAt x i)).2.2
   rw [show i+1+r=i+(r+1) by omega] at this
   exact this
theorem iter9 {x:RfI} (hx:x.Ok) {N:Nat}:∀{r i:Nat} {m:ParM},i+r=x.ops.length->RfInv N 0 i x.n m->iter (step9 x N) (r+1) ⟨i,m⟩=some (.exit 0,⟨x.ops.length,end9 x r i m⟩)
 | 0,i,m,hr,h=>by
   rw [iter,step9,nv (decC_t ⟨by show i<=_;omega,h⟩)]
   simp only [T.val]
   rw [if_neg (by omega)]
   show some (Ex.exit 0,(⟨i,m⟩:MR))=_
   rw [show i=x.ops.length by omega];rfl
 | r+1,i,m,hr,h=>by
   have hs:=hx.small
   rw [iter,step9,nv (decC_t ⟨by show i<=_;omega,h⟩)]
   simp only [T.val]
   rw [if_pos (by omega)]
   exact iter9 hx (r:=r) (i:=i+1) (by omega) (h.qu (by omega) (by omega) (opAt x i)).2.2
def ent9 (x:RfI) (m:ParM) (s:Sx.St AV):Prop:=Sx.look s.E 1=.v (.c (.vs 8 0 x.no 4 false)) /\ Sx.look s.E 2=.v (.c (.vs 9 0 x.nt 1 false)) /\ Sx.look s.E 7=.v (.c (.ptr 11 0)) /\ Sx.look s.E 8=.v (.c (.ptr 12 0)) /\ Sx.look s.E 9=.v (.c (.ir .i64 x.n 1 7 x.hn)) /\ Sx.look s.E 10=.v (.c (.il .i64 (Int.ofNat 0))) /\ s.H=hpLw x m m
noncomputable def g9 (x:RfI) (m e:ParM) (c:Prop) (s:Sx.St AV):T (Ex×Sx.St AV):=.need (decC (ent9 x m s /\ c)) (.leaf (.exit 0,fam9 x x.no e e))
theorem g9_ok {N':Env AV} (hF:N'.F=(NV σ).F) (hG:N'.G=(NV σ).G) (x:RfI) (m:ParM) (N:Nat):LoopOk Tryz.prog N' 138 L9 (g9 x m (end9 x x.ops.length 0 m) (x.Ok /\ RfInv N 0 0 x.n m)):=by
 have hcal:CalOk Tryz.prog (NV σ) (joinCal (lv (NV σ) (tab9 σ rfM) 8)):=joinCal_ok (lv_ok okV lpsV hvV tab9_ok 8)
 refine loopOk_it (N:=NV σ) hF hG okV hcal (lp:=fun _=>none) (fun _ _ _ g hg=>by cases hg) fun s s' ex hgs=>?_
 obtain⟨E1,H1⟩:=s
 unfold g9 at hgs
 replace hgs:=need_some hgs
 obtain⟨hb,hgs⟩:=hgs
 obtain⟨⟨e1,e2,e7,e8,e9,e10,eH⟩,hx,hv⟩:=decC_of hb
 simp only at e1 e2 e7 e8 e9 e10 eH
 subst eH
 simp only [T.val,Option.some.injEq,Prod.mk.injEq] at hgs
 obtain⟨rfl,rfl⟩:=hgs
 refine⟨{M:=MR,fam:=fam9M x,step:=step9 x N,ks:=ks9,pk:=noPk,hpk:=fun d a h=>(by cases h),L:=13,len:=rfl,hGL:=(by show 8<=13;decide),run:=step9_run σ hx N,m:=⟨0,m⟩,k:=x.ops.length+1,m':=⟨x.ops.length,end9 x x.ops.length 0 m⟩,ent:=?_,it:=iter9 hx (by omega) hv,fin:=(by unfold fam9M;rw [hx.no])}⟩
 have he:=enter_only (N:=NV σ) (nt:=138) (s:={E:=E1,H:=hpLw x m m}) (ks:=ks9) (E':=[(1,.v (.c (.vs 8 0 x.no 4 false))),(2,.v (.c (.vs 9 0 x.nt 1 false))),(7,.v (.c (.ptr 11 0))),(8,.v (.c (.ptr 12 0))),(9,.v (.c (.ir .i64 x.n 1 7 x.hn))),(10,.v (.c (.it .i64 ((0:Nat):Int))))]) (l:=[]) (fun a h=>by cases h) (by show 8<=13;decide) fun k hk=>by
  simp only [ks9,List.mem_cons,List.not_mem_nil,or_false] at hk
  rcases hk with rfl | rfl | rfl | rfl | rfl | rfl
  ·exact .inl e1.symm
  ·exact .inl e2.symm
  ·exact .inl e7.symm
  ·exact .inl e8.symm
  ·exact .inl e9.symm
  ·refine .inr (.inl ⟨?_,?_,fun ρ=>?_⟩)
   ·show Sx.look E1 10≠_
    rw [e10];exact fun h=>by cases h
   ·exact plIl 0
   ·show _=(Sx.look E1 10).den ρ
    rw [e10];rfl
 exact he
theorem tk_bnd (x:RfI) (i:Int):0<=tk x i /\ tk x i < 9:=by
 have h:0<=IntKind.wrap .u64 (x.ts.getD (0+i.toNat) kints.dflt).val:=by
  unfold IntKind.wrap
  simp only [IntKind.bits,IntKind.signed,Bool.false_and,Bool.false_eq_true,if_false]
  exact Int.emod_nonneg _ (by decide)
 exact⟨Int.tmod_nonneg _ h,Int.tmod_lt_of_pos _ (by decide)⟩
theorem rest14_val {x:RfI} {i:Int} {N K L:Nat} {n:Int} {m:ParM} (h:RfInv N K L n m) (hK:K+34<=100000) (hL:L+1<=100000):(rest14 rfM x i m).val=some (.normal,fam14 x (IntKind.wrap .i64 (i+1)) (pickM m 0).2 (pickM m 0).2):=by
 obtain⟨a,b,_⟩:=h.pk hK
 have can:∀t:T (Ex×Sx.St AV),(T.need (okN m) (.need (hasB m.threads.length 0) (.need (okPk m 0) t))).val=t.val:=fun t=>(nv h.okN).trans ((nv h.has0).trans (nv a))
 unfold rest14
 refine(nv h.okN).trans ((nv (decC_t (h.qu99 (by omega) hL _))).trans ((can _).trans ?_))
 show (T.ite (Nat.beq (pickM m 0).1.1 0) _ (.need (Nat.beq (pickM m 0).1.1 (ErS+1)) _)).val=_
 rcases b with b | b
 ·refine(ivT (by rw [b];rfl)).trans ((can _).trans ((ivT (by show Nat.beq (pickM m 0).1.1 0=true;rw [b];rfl)).trans (ivF (neqB_f _))))
 ·refine(ivF (by rw [b];rfl)).trans ((nv (by rw [b];rfl)).trans ((can _).trans ((ivF (by show Nat.beq (pickM m 0).1.1 0=false;rw [b];rfl)).trans ((nv (by show Nat.beq (pickM m 0).1.1 (ErS+1)=true;rw [b];rfl)).trans rfl))))
def inv14 (σ:Sg) (x:RfI) (N:Nat) (m:MR):Prop:=m.i<=60 /\ (∃K,K+34 * (60 - m.i)<=100000 /\ RfInv N K 20 x.n m.m) /\ OtherIs σ (σ ErA) (σ 0)
noncomputable def step14 (σ:Sg) (x:RfI) (N:Nat) (m:MR):T (Ex×MR):=.need (decC (inv14 σ x N m)) (.leaf (if m.i < x.ts.length /\ m.i < 60 then(.normal,⟨m.i+1,(pickM m.m 0).2⟩) else(.exit 2,m)))
def fam14M (x:RfI) (m:MR):Sx.St AV:=fam14 x (m.i:Int) m.m m.m
theorem step14_run (σ:Sg) {x:RfI} (hx:x.Ok) (N:Nat) (m:MR) (r:Ex×MR) (h:(step14 σ x N m).val=some r) :
 ((xc (NV σ) (joinCal (lv (NV σ) (tab14 σ rfM) 8)) (fun _=>none) 138 L14 (fam14M x m)).bind (backS 13 138 ks14 noPk)).val=some (r.1,fam14M x r.2):=by
 obtain⟨hb,h⟩:=need_some (h:(T.need _ _).val=_)
 obtain⟨h60,⟨K,hK,hv⟩,ho⟩:=decC_of hb
 obtain⟨i,m⟩:=m
 dsimp only at h60 hK hv
 show ((xc (NV σ) _ _ 138 L14 (fam14 x i m m)).bind _).val=_
 rw [l14R]
 simp only [T.val,Option.some.injEq] at h
 subst h
 by_cases hl:i < x.ts.length /\ i < 60
 ·rw [if_pos hl]
  have hK2:K+34<=100000:=by omega
  have hw:whl14 x i=true:=by
   unfold whl14
   rw [decide_eq_true (show (i:Int) < (x.nt:Int) by rw [hx.nt];omega)]
   exact decide_eq_true (by omega)
  have hin:in14 x i=true:=by
   unfold in14
   rw [decide_eq_true (show 0<=(i:Int) /\ (i:Int) < (x.nt:Int) by rw [hx.nt];omega)]
   exact decide_eq_true (by omega)
  have fin:some (Ex.normal,fam14 x (IntKind.wrap .i64 ((i:Int)+1)) (pickM m 0).2 (pickM m 0).2)=some (Ex.normal,fam14M x ⟨i+1,(pickM m 0).2⟩):=by
   rw [wrapI (by omega)];rfl
  have hrest:=(rest14_val (x:=x) (i:=(i:Int)) hv hK2 (by omega)).trans fin
  refine(ivT hw).trans ((nv hin).trans ?_)
  by_cases hk:tk x i=0
  ·exact(ivF (by rw [hk];rfl)).trans hrest
  ·refine(ivT (by simpa using hk)).trans ((nv hv.okN).trans ((nv (decC_t (hv.pkX hK2 hk))).trans ?_))
   have hb:=tk_bnd x i
   have hlen:=hv.len
   cases hh:hasB m.threads.length (tk x i) with
   | false =>
     have hn:¬tk x i < x.n:=fun e=>by
      have:hasB m.threads.length (tk x i)=true:=hasB_spec.2 ⟨hb.1,by omega⟩
      rw [hh] at this;cases this
     exact(ivT (c:=!false) rfl).trans ((nv (decC_t ho)).trans ((ivF (by rw [decide_eq_false hn];rfl)).trans hrest))
   | true =>
     have hn:tk x i < x.n:=by have:=(hasB_spec.1 hh).2;omega
     exact(ivF (c:=!true) rfl).trans ((nv (decide_eq_true rfl)).trans ((ivF (by rw [decide_eq_true hn];rfl)).trans hrest))
 ·rw [if_neg hl]
  refine ivF ?_
  unfold whl14
  by_cases h1:(i:Int) < (x.nt:Int)
  ·rw [decide_eq_true h1]
   exact decide_eq_false (by rw [hx.nt] at h1;omega)
  ·rw [decide_eq_false h1];rfl
noncomputable def end14:Nat->Nat->ParM->MR
 | 0,i,m=>⟨i,m⟩
 | r+1,i,m=>end14 r (i+1) (pickM m 0).2
theorem iter14 {x:RfI} {N:Nat}:∀{r i:Nat} {m:ParM},i+r=min x.ts.length 60->inv14 σ x N ⟨i,m⟩->iter (step14 σ x N) (r+1) ⟨i,m⟩=some (.exit 2,end14 r i m)
 | 0,i,m,hr,h=>by
   rw [iter,step14,nv (decC_t h)]
   simp only [T.val]
   rw [if_neg (by omega)]
   rfl
 | r+1,i,m,hr,h=>by
   rw [iter,step14,nv (decC_t h)]
   simp only [T.val]
   rw [if_pos (by omega)]
   obtain⟨h1,⟨K,h2,h3⟩,h4⟩:=h
   dsimp only at h1 h2 h3
   exact iter14 (r:=r) (i:=i+1) (by omega) ⟨by show i+1<=60;omega,⟨K+34,by show K+34+34 * (60 - (i+1))<=100000;omega,(h3.pk (by omega)).2.2⟩,h4⟩
def ent14 (x:RfI) (m:ParM) (s:Sx.St AV):Prop:=Sx.look s.E 2=.v (.c (.vs 9 0 x.nt 1 false)) /\ Sx.look s.E 7=.v (.c (.ptr 11 0)) /\ Sx.look s.E 8=.v (.c (.ptr 12 0)) /\ Sx.look s.E 9=.v (.c (.ir .i64 x.n 1 7 x.hn)) /\ Sx.look s.E 11=.v (.c (.il .i64 (Int.ofNat 0))) /\ s.H=hpLw x m m
noncomputable def g14 (x:RfI) (m:ParM) (e:MR) (c:Prop) (s:Sx.St AV):T (Ex×Sx.St AV):=.need (decC (ent14 x m s /\ c)) (.leaf (.exit 2,fam14 x e.i e.m e.m))
theorem g14_ok {N':Env AV} (hF:N'.F=(NV σ).F) (hG:N'.G=(NV σ).G) (x:RfI) (m:ParM) (N:Nat):LoopOk Tryz.prog N' 138 L14 (g14 x m (end14 (min x.ts.length 60) 0 m) (x.Ok /\ inv14 σ x N ⟨0,m⟩)):=by
 have hcal:CalOk Tryz.prog (NV σ) (joinCal (lv (NV σ) (tab14 σ rfM) 8)):=joinCal_ok (lv_ok okV lpsV hvV tab14_ok 8)
 refine loopOk_it (N:=NV σ) hF hG okV hcal (lp:=fun _=>none) (fun _ _ _ g hg=>by cases hg) fun s s' ex hgs=>?_
 obtain⟨E1,H1⟩:=s
 unfold g14 at hgs
 replace hgs:=need_some hgs
 obtain⟨hb,hgs⟩:=hgs
 obtain⟨⟨e2,e7,e8,e9,e11,eH⟩,hx,hv⟩:=decC_of hb
 simp only at e2 e7 e8 e9 e11 eH
 subst eH
 simp only [T.val,Option.some.injEq,Prod.mk.injEq] at hgs
 obtain⟨rfl,rfl⟩:=hgs
 refine⟨{M:=MR,fam:=fam14M x,step:=step14 σ x N,ks:=ks14,pk:=noPk,hpk:=fun d a h=>(by cases h),L:=13,len:=rfl,hGL:=(by show 8<=13;decide),run:=step14_run σ hx N,m:=⟨0,m⟩,k:=min x.ts.length 60+1,m':=end14 (min x.ts.length 60) 0 m,ent:=?_,it:=iter14 (by omega) hv,fin:=rfl}⟩
 have he:=enter_only (N:=NV σ) (nt:=138) (s:={E:=E1,H:=hpLw x m m}) (ks:=ks14) (E':=[(2,.v (.c (.vs 9 0 x.nt 1 false))),(7,.v (.c (.ptr 11 0))),(8,.v (.c (.ptr 12 0))),(9,.v (.c (.ir .i64 x.n 1 7 x.hn))),(11,.v (.c (.it .i64 ((0:Nat):Int))))]) (l:=[]) (fun a h=>by cases h) (by show 8<=13;decide) fun k hk=>by
  simp only [ks14,List.mem_cons,List.not_mem_nil,or_false] at hk
  rcases hk with rfl | rfl | rfl | rfl | rfl
  ·exact .inl e2.symm
  ·exact .inl e7.symm
  ·exact .inl e8.symm
  ·exact .inl e9.symm
  ·refine .inr (.inl ⟨?_,?_,fun ρ=>?_⟩)
   ·show Sx.look E1 11≠_
    rw [e11];exact fun h=>by cases h
   ·exact plIl 0
   ·show _=(Sx.look E1 11).den ρ
    rw [e11];rfl
 exact he
end Go.Proofs.YtcpdipfepeccgaaGreatDoor

namespace Go.Proofs.YtcpdipfepeccgaaGreatDoor
open Go Go.Sx Go.Proofs
set_option maxRecDepth 100000
set_option maxHeartbeats 0
variable {σ:Sg}
theorem born_n (lay:Cfg):1<=(bornC lay).n /\ (bornC lay).n < 7:=by
 have h:0<=IntKind.wrap .u64 lay.n:=by
  unfold IntKind.wrap
  simp only [IntKind.bits,IntKind.signed,Bool.false_and,Bool.false_eq_true,if_false]
  exact Int.emod_nonneg _ (by decide)
 have h1:0<=Int.tmod (IntKind.wrap .u64 lay.n) 6:=Int.tmod_nonneg _ h
 have h2:Int.tmod (IntKind.wrap .u64 lay.n) 6 < 6:=Int.tmod_lt_of_pos _ (by decide)
 show 1<=1+Int.tmod (IntKind.wrap .u64 lay.n) 6 /\ 1+Int.tmod (IntKind.wrap .u64 lay.n) 6 < 7
 omega
def xOf (lay:Cfg) (ops:List O) (no:Nat) (ts:List N1) (nt:Nat):RfI:=⟨lay,ops,no,ts,nt,(bornC lay).n,born_n lay⟩
noncomputable def lpRf (x:RfI) (m e9:ParM) (c9:Prop) (e14:MR) (c14:Prop):Lp:=lpAdd 3 14 (g14 x e9 e14 c14) (lpAdd 3 9 (g9 x m e9 c9) noLp)
theorem lpsRf (x:RfI) (m:ParM) (N N2:Nat):LpsOk Tryz.prog (NVl (lpRf x m (end9 x x.ops.length 0 m) (x.Ok /\ RfInv N 0 0 x.n m) (end14 (min x.ts.length 60) 0 (end9 x x.ops.length 0 m)) (x.Ok /\ inv14 σ x N2 ⟨0,end9 x x.ops.length 0 m⟩)) σ) :=
 lpsAdd (lpsAdd lps0 (fn:=Tryz.f3) (by kernel_rfl) (c:=bodyOf Tryz.f3) (by kernel_rfl) (nt:=138) (by kernel_rfl) (b:=L9) (oneLoop_spec (by kernel_rfl)) (g9_ok (σ:=σ) (N':=NVl noLp σ) rfl rfl x m N))
  (fn:=Tryz.f3) (by kernel_rfl) (c:=bodyOf Tryz.f3) (by kernel_rfl) (nt:=138) (by kernel_rfl) (b:=L14) (oneLoop_spec (by kernel_rfl)) (g14_ok (σ:=σ) (N':=NVl (lpAdd 3 9 (g9 x m (end9 x x.ops.length 0 m) (x.Ok /\ RfInv N 0 0 x.n m)) noLp) σ) rfl rfl x (end9 x x.ops.length 0 m) N2)
def lawArgs (lay:Cfg) (no nt:Nat):List SV:=[.v (.agg (layC lay)),.v (.c (.vs 8 0 no 4 false)),.v (.c (.vs 9 0 nt 1 false))]
noncomputable def runLaw (σ:Sg) (F:RfF) (lay:Cfg) (ops:List O) (no:Nat) (ts:List N1) (nt:Nat) (e9:ParM) (c9:Prop) (e14:MR) (c14:Prop):T (SV×Hp AV) :=
 Q.lv (NVl (lpRf (xOf lay ops no ts nt) (F.nw (bornC lay)) e9 c9 e14 c14) σ) (tabRf σ F) 24 (.fn 3) (lawArgs lay no nt) (hpO allM [.opsA ops,.intsA ts])
def entV9 (x:RfI) (m:ParM):Prop:=SV.v (.c (.vs 8 0 x.no 4 false))=.v (.c (.vs 8 0 x.no 4 false)) /\ SV.v (.c (.vs 9 0 x.nt 1 false))=.v (.c (.vs 9 0 x.nt 1 false)) /\ SV.v (.c (.ptr 11 0))=.v (.c (.ptr 11 0)) /\ SV.v (.c (.ptr 12 0))=.v (.c (.ptr 12 0)) /\ SV.v (.c (.ir .i64 x.n 1 7 x.hn))=.v (.c (.ir .i64 x.n 1 7 x.hn)) /\ SV.v (.c (.il .i64 (Int.ofNat 0)))=.v (.c (.il .i64 (Int.ofNat 0))) /\ hpLw x m m=hpLw x m m
def entV14 (x:RfI) (m:ParM):Prop:=SV.v (.c (.vs 9 0 x.nt 1 false))=.v (.c (.vs 9 0 x.nt 1 false)) /\ SV.v (.c (.ptr 11 0))=.v (.c (.ptr 11 0)) /\ SV.v (.c (.ptr 12 0))=.v (.c (.ptr 12 0)) /\ SV.v (.c (.ir .i64 x.n 1 7 x.hn))=.v (.c (.ir .i64 x.n 1 7 x.hn)) /\ SV.v (.c (.il .i64 (Int.ofNat 0)))=.v (.c (.il .i64 (Int.ofNat 0))) /\ hpLw x m m=hpLw x m m
def okCl (bs:List Bt):Bool:=decide (AV.len (.beats bs)=AV.len (.beats bs) /\ AV.len (.beats bs)<=1000000)
theorem lawR (σ:Sg) (F:RfF) (lay:Cfg) (ops:List O) (no:Nat) (ts:List N1) (nt:Nat) (e9:ParM) (c9:Prop) (e14:MR) (c14:Prop):runLaw σ F lay ops no ts nt e9 c9 e14 c14 =
 .need (F.okn (bornC lay)) (.need (F.okn (bornC lay)) (.ite (decide ((no:Int) > 20)) (.leaf (.v (.c (.bl true)),hpO allM [.opsA ops,.intsA ts]))
  (.need (decC (entV9 (xOf lay ops no ts nt) (F.nw (bornC lay)) /\ c9)) (.need (decC (entV14 (xOf lay ops no ts nt) e9 /\ c14)) (.need (okCl e14.m.beats) (.need (okCl e14.m.beats)
    (.ite ((((AV.len (.beats e14.m.beats):Nat):Int)==((AV.len (.beats e14.m.beats):Nat):Int))==true) (.leaf (.v (.c (.bt (e14.m.plot.steps==e14.m.plot.steps))),hpO allM [.opsA ops,.intsA ts])) (.leaf (.v (.c (.bl false)),hpO allM [.opsA ops,.intsA ts]))))))))):=by kernel_rfl
end Go.Proofs.YtcpdipfepeccgaaGreatDoor

namespace Go.Sx
open Go.ChangeShapes Go.WideShapes Go.RowKit
theorem Quiet.same {W W':World} (h:Quiet W W') {p:MemPlace} (hp:p.block < W.heap.size):W.sameAt W' p:=by
 cases p with
 | cell b off =>
   have:=h.block b hp
   simp only [World.sameAt,World.cell?,this]
 | map b=>exact h.block b hp
theorem Quiet.frozen {W W':World} (h:Quiet W W') (a:Addr) (ha:a.block < W.heap.size):W'.frozen? a=W.frozen? a:=by
 simp only [World.frozen?,h.block a.block ha]
theorem Quiet.kept {W W':World} (h:Quiet W W') (may:MemPlace->Prop):W.keptBut W' may:=by
 refine⟨h.os,h.output,fun i hi=>?_⟩
 rw [h.block i hi]
 cases hx:W.heap[i]? with
 | none=>trivial
 | some o=>cases o<;>simp
section
variable {H:Type} {enc:TypeId×Value->H} {P:Program}
theorem trodAll_stays (hl:laidOutB P=true) {W W':World} {sp':Nat->Bool}:∀{ts:List TypeId} {vs:List Value} {ds:List (DataW H)} {ps:List MemPlace},(∀t∈ts,P.readableRec t=true /\ t < P.types.size) ->
 DataW.TrodAll enc P W 0 (fun _=>true) true ts vs ds ps->(∀p∈ps,W.sameAt W' p)->(∀p∈ps,sp' p.block=true)->DataW.TrodAll enc P W' 0 sp' true ts vs ds ps
 | [],[],[],_,_,h,_,_=>h
 | t::ts,v::vs,d::ds,ps,ht,h,hs,hsp=>by
   obtain⟨p,q,h1,h2,rfl⟩:=h
   have:=ht t (List.mem_cons_self ..)
   refine⟨p,q,WideElems.Trod_stays hl this.1 this.2 h1 (fun x hx=>hs x (List.mem_append_left _ hx)) (fun x hx=>hsp x (List.mem_append_left _ hx)),?_,rfl⟩
   exact trodAll_stays hl (fun x hx=>ht x (List.mem_cons_of_mem _ hx)) h2 (fun x hx=>hs x (List.mem_append_right _ hx)) (fun x hx=>hsp x (List.mem_append_right _ hx))
 | [],[],_::_,_,_,h,_,_=>by simp [DataW.TrodAll] at h
 | [],_::_,_,_,_,h,_,_=>by simp [DataW.TrodAll] at h
 | _::_,[],_,_,_,h,_,_=>by simp [DataW.TrodAll] at h
 | _::_,_::_,[],_,_,h,_,_=>by simp [DataW.TrodAll] at h
theorem post_of_quiet (hl:laidOutB P=true) {f:Func} {s:ChangeSpec} {apart fresh handsOn again:Bool} {W W':World} {args:Array Value} {ds gs:List (DataW H)} {before:List MemPlace} {tb:TypeId}
 (hvars:s.vars=[]) (hpar:∀t∈f.params.toList,P.readableRec t=true /\ t < P.types.size) (hres:f.resultTypes=#[tb]) (htb:P.underlying tb=some .bool)
 (hW:DataW.Whole enc P f.params.toList s.vars apart W args.toList ds gs before)
 (hspec:s.fn H ds={results:=[.lit (.bool true)],args:=ds}) (hq:Quiet W W') :
 s.post enc P f apart fresh handsOn again W args (.bool true) W':=by
 have hW':=hW
 obtain⟨p,q,hA,hV,rfl,hfz,hnd⟩:=hW
 rw [hvars] at hV
 obtain⟨rfl,rfl⟩:=trodVars_none hV
 have hlt:=hW'.lt
 simp only [List.append_nil] at hW' hlt hfz
 have hspec':s.fn H (ds++[])={results:=[.lit (.bool true)],args:=ds}:=by rw [List.append_nil];exact hspec
 have hok:=ok_one (P:=P) (W':=W') (f:=f) (v:=.bool true) hres rfl (okWide_bool_mk htb true)
 have hold:∀p'∈p,(fun b=>decide (b < W.heap.size)) p'.block=true:=fun p' hp=>by simpa using hlt p' hp
 have hargs:∀sp:Nat->Bool,(∀x∈p,sp x.block=true)->DataW.TrodAll enc P W' 0 sp true f.params.toList args.toList (s.fn H (ds++[])).args p:=by
  intro sp hsp
  rw [hspec']
  exact trodAll_stays hl hpar hA (fun x hx=>hq.same (hlt x hx)) hsp
 have hres':∀(b:Nat) (sp:Nat->Bool) (hd:Bool),DataW.TrodAll enc P W' b sp hd f.resultTypes.toList ((Value.bool true).resultList f.resultTypes.size) (s.fn H (ds++[])).results []:=by
  intro b sp hd
  rw [hspec',hres]
  exact⟨[],[],shut_bool htb _,rfl,rfl⟩
 have hvars':∀sp:Nat->Bool,DataW.TrodVars enc P W' sp s.vars (s.fn H (ds++[])).vars []:=by
  intro sp
  rw [hspec',hvars]
  exact rfl
 refine⟨ds,[],p,[],p,[],hW',hres' _ _ _,hargs _ hold,hvars' _,World.keptBut_mono (fun x hx=>⟨hx,Or.inr (by simpa using hx)⟩) (hq.kept _),fun _=>?_⟩
 obtain⟨_,_,_,_,_,hz,hn⟩:=hW'
 refine⟨hok,_,_,([]++p)++[],⟨[]++p,[],trodAll_append (hargs _ (fun _ _=>rfl)) (hres' _ _ _),hvars' _,rfl,?_,?_⟩,?_⟩
 ·intro b off hp
  simp only [List.nil_append,List.append_nil] at hp
  rw [hq.frozen _ (hlt _ hp)]
  exact hfz b off hp
 ·intro ha
  simpa using hnd ha
 ·intro x hx _
  simpa using hx
end
structure SentTy (P:Program) (ti tp te ts:TypeId):Prop where
 hi:∃ms,P.underlying ti=some (.interface ms)
 row:∀u,P.typeName? 3 u=some "*errors.errorString" -> u=tp
 hp:P.underlying tp=some (.pointer te)
 he:∃f:Field,P.underlying te=some (.struct #[f]) /\ f.type=ts /\ f.offset=0
 hs:P.underlying ts=some .string
 hc:P.cellsOf te=1
 hcs:P.cellsOf ts=1
def sent (text:List UInt8):DataW Unit:=.iface "*errors.errorString" (.ptr (.agg [.lit (.string text)]))
end Go.Sx

namespace Go.Sx
open Go.ChangeShapes Go.WideShapes
def flatOk:List FK->List Value->Prop
 | [],[]=>True
 | .bool::ks,.bool _::vs=>flatOk ks vs
 | .int k::ks,.int k' _::vs=>k'=k /\ flatOk ks vs
 | .str::ks,.string _::vs=>flatOk ks vs
 | _,_=>False
theorem flatOk_append:∀{ks ks':List FK} {vs vs':List Value},flatOk ks vs->flatOk ks' vs'->flatOk (ks++ks') (vs++vs')
 | [],_,[],_,_,h'=>h'
 | [],_,_::_,_,h,_=>by simp [flatOk] at h
 | k::_,_,[],_,h,_=>by cases k<;>simp [flatOk] at h
 | k::ks,ks',v::vs,vs',h,h'=>by
   cases k<;>cases v<;>first | exact flatOk_append (ks:=ks) (vs:=vs) h h' | exact⟨h.1,flatOk_append (ks:=ks) (vs:=vs) h.2 h'⟩ | exact absurd h (by simp [flatOk])
theorem cellsOf_size {P:Program} {t:TypeId} {n:Nat} (h:sizeT P t=some n):P.cellsOf t=n:=by
 unfold sizeT at h
 unfold Program.cellsOf
 cases hi:P.info? t with
 | none=>rw [hi] at h;cases h
 | some i=>rw [hi] at h;cases h;rfl
section
variable {H:Type} {enc:TypeId×Value->H} {P:Program} {w:World} {base:Nat} {sp:Nat->Bool} {held:Bool}
theorem flat_fields {rec:TypeId->Option (List FK)} {cs:List Value} {n:Nat}
 (hrec:∀t ks vs x,rec t=some ks->DataW.trod enc P w base sp held n t vs=some x->P.cellsOf t=ks.length->flatOk ks vs) :
 ∀(fs:List Field) (off:Nat) (ks:List FK),flatFs P rec fs off=some ks->(∀f∈fs,∃y,DataW.trod enc P w base sp held n f.type ((cs.drop f.offset).take (P.cellsOf f.type))=some y)->flatOk ks ((cs.drop off).take ks.length)
 | [],off,ks,h,_=>by
   simp only [flatFs,Option.some.injEq] at h
   subst h
   simp [flatOk]
 | f::fs,off,ks,h,hf=>by
   simp only [flatFs] at h
   split at h
   ·cases h
   ·split at h
    ·cases h
    ·rename_i hoff
     have hoff:=(beq_iff _ _).1 hoff
     split at h
     ·cases h
     ·rename_i k1 hk1
      split at h
      ·cases h
      ·rename_i m hm
       split at h
       ·cases h
       ·rename_i hlen
        have hlen:=(beq_iff _ _).1 hlen
        split at h
        ·rename_i l hl
         cases h
         have hc:=cellsOf_size hm
         obtain⟨y,hy⟩:=hf f (List.mem_cons_self ..)
         have h1:=hrec f.type k1 _ y hk1 hy (hc.trans hlen)
         rw [hoff,hc,hlen] at h1
         have h2:=flat_fields hrec fs (off+m) l hl (fun g hg=>hf g (List.mem_cons_of_mem _ hg))
         have e:(cs.drop off).take (k1++l).length=(cs.drop off).take k1.length++(cs.drop (off+m)).take l.length:=by
          rw [List.length_append,List.take_add,List.drop_drop,hlen]
         rw [e]
         exact flatOk_append h1 h2
        ·cases h
theorem trod_flat:∀(d n:Nat) (t:TypeId) (ks:List FK) (cs:List Value) (x:DataW H×List MemPlace),flatT P d t=some ks->DataW.trod enc P w base sp held n t cs=some x->P.cellsOf t=ks.length->flatOk ks cs
 | 0,_,_,_,_,_,h,_,_=>by simp [flatT] at h
 | d+1,n,t,ks,cs,x,h,ht,hc=>by
   simp only [flatT] at h
   split at h
   ·rename_i hu
    cases h
    obtain⟨b,rfl,_⟩:=DataW.trod_bool hu ht
    simp [flatOk]
   ·rename_i k hu
    cases h
    obtain⟨m,rfl,_⟩:=DataW.trod_int hu ht
    simp [flatOk]
   ·rename_i hu
    cases h
    obtain⟨m,rfl,_⟩:=DataW.trod_string hu ht
    simp [flatOk]
   ·rename_i fs hu
    split at h
    ·cases h
    ·obtain⟨xs,m,rfl,_,hl,hxl,hx⟩:=DataW.trod_struct hu ht
     have:=flat_fields (H:=H) (enc:=enc) (w:=w) (base:=base) (sp:=sp) (held:=held) (n:=m) (cs:=cs) (fun t ks vs x h1 h2 h3=>trod_flat d m t ks vs x h1 h2 h3) fs.toList 0 ks h (fun f hf=>by
      obtain⟨i,hi⟩:=List.mem_iff_getElem?.1 hf
      have hi':fs[i]?=some f:=by simpa using hi
      have hlt:i < xs.length:=by rw [hxl];exact(Array.getElem?_eq_some_iff.1 hi').1
      exact⟨xs[i],by rw [hx i f hi',List.getElem?_eq_getElem hlt]⟩)
     rw [List.drop_zero,List.take_of_length_le (by omega)] at this
     exact this
   ·rename_i len e hu
    split at h
    ·rename_i sz hs
     obtain⟨xs,m,rfl,_,hl,hxl,hx⟩:=DataW.trod_array hu ht
     have:=flat_fields (H:=H) (enc:=enc) (w:=w) (base:=base) (sp:=sp) (held:=held) (n:=m) (cs:=cs) (fun t ks vs x h1 h2 h3=>trod_flat d m t ks vs x h1 h2 h3) (arrFs e sz len 0) 0 ks h (fun f hf=>by
      rw [arrFs_eq] at hf
      obtain⟨i,hi,rfl⟩:=List.mem_map.1 hf
      have hi:i < len:=by simpa using List.mem_range'_1.1 hi
      have hlt:i < xs.length:=by omega
      have hx:=hx i hi
      rw [cellsOf_size hs] at hx
      exact⟨xs[i],by simp only [arrFd];rw [cellsOf_size hs,hx,List.getElem?_eq_getElem hlt]⟩)
     rw [List.drop_zero,List.take_of_length_le (by omega)] at this
     exact this
    ·cases h
   ·cases h
end
end Go.Sx
