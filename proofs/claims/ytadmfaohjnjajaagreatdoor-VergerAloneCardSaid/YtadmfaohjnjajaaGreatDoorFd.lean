import Derived.Test.YtadmfaohjnjajaaGreatDoorRzv
import Derived.Test.YtadmfaohjnjajaaGreatDoorSxM
import Derived.WideKeyArgs
import Derived.ChangeSame
import Derived.RowKit
import Derived.RowKit3
import Derived.LaidLaws
import Derived.Deep.DeepHandedRow
import Derived.SevenTiedAt
import Derived.JoinedCond
import Derived.OpenShut
import Derived.Deep.Slices
import Derived.Test.YtadmfaohjnjajaaGreatDoorRd
import Derived.LaidSub
set_option linter.unusedVariables false
set_option linter.unusedSimpArgs false
set_option maxHeartbeats 0
set_option maxRecDepth 100000
noncomputable section
namespace Go.Proofs.YtadmfaohjnjajaaGreatDoor
section
open Go Go.Sx Go.Proofs AH
variable {σ:Sg}
structure GvA where
 OD:Int->O->Bool
 okj:aA->Bool
 XL:aA->O->Bool
 gv:aA->O->aA
 dg:aA->O->Nat
def gvX (G:GvA) (v:aA) (o:O):aA:=⟨(G.gv v o).sort,(G.gv v o).au,(G.gv v o).aP,Int.ofNat (Nat.succ (G.dg v o)),(G.gv v o).call,o,(G.gv v o).cF,(G.gv v o).answer⟩
def ajc (σ:Sg) (G:GvA) (args:List SV) (l:List AV):T (SV×List AV×List AV):=match args,l with
 | [.v (.c (.ptr 7 0)),a],[.rE v]=>match BZ.jm [a],v.aO with
   | some o,.ofNat 0=>.aE (G.okj v) (.ite (!G.OD v.sort o) (.aD (.v (zZ σ QF),[.rE v],[])) (.aE (G.XL v o) (.aD (.v (.c .fL),[.rE (gvX G v o)],[]))))
   | some o,.ofNat (.succ _)=>.aE (G.okj v) (.aD (.v (zZ σ KY),[.rE v],[]))
   | _,_=>.fail "Give"
 | _,_=>.fail "Give"
def Nz:GvA:=⟨dU,fun v=>iI (CO v),fun v o=>iI (EE v o /\ (dx v o).op=o /\ 1<=(dx v o).aO),dx,fun v o=>(dx v o).aO.toNat - 1⟩
theorem gvX_eq {v:aA} {o:O} (h1:(dx v o).op=o) (h2:1<=(dx v o).aO):gvX Nz v o=dx v o:=by
 have e:Int.ofNat (Nat.succ ((dx v o).aO.toNat - 1))=(dx v o).aO:=by show (((dx v o).aO.toNat - 1+1:Nat):Int)=_;omega
 show (⟨(dx v o).sort,(dx v o).au,(dx v o).aP,Int.ofNat (Nat.succ ((dx v o).aO.toNat - 1)),(dx v o).call,o,(dx v o).cF,(dx v o).answer⟩:aA)=dx v o;rw [e];generalize dx v o=w at h1;obtain⟨so,en,ri,dg,cl,op,cF,an⟩:=w;have h1:op=o:=h1;rw [h1]
theorem ajb:cE Tryz.prog (NV σ) 9 (bJ cL mGv (ajc σ Nz)):=by
 refine fun args H v H2 hr=>Sc args H v H2 (Hu (fun args l r h=>?_) hr);unfold ajc at h;split at h
 ·rename_i a v;have key:NA σ [.v (.c (.ptr 7 0)),a] [.rE v]=(match BZ.jm [a] with
   | some o=>.aE (iI (CO v)) (.ite (v.aO != 0) (.aD (.v (zZ σ KY),[.rE v],[])) (.ite (!dU v.sort o) (.aD (.v (zZ σ QF),[.rE v],[])) (.aE (iI (EE v o)) (.aD (.v (.c .fL),[.rE (dx v o)],[])))))
   | none=>.fail "Give"):=rfl
  rw [key];split at h
  ·rename_i o ho hd;obtain⟨h1,h⟩:=aC h;rw [ho];refine(nv h1).trans ((oY (by rw [hd];rfl)).trans ?_);cases hf:dU v.sort o with
   | false=>rw [show Nz.OD v.sort o=false from hf] at h;exact h
   | true =>rw [show Nz.OD v.sort o=true from hf] at h;obtain⟨h2,h⟩:=aC (h:(T.aE _ _).val=_);obtain⟨h3,h4,h5⟩:=fv h2;rw [gvX_eq h4 h5] at h;exact(nv (fh h3)).trans h
  ·rename_i o n ho hd;obtain⟨h1,h⟩:=aC h;rw [ho];exact(nv h1).trans ((oX (by rw [hd];rfl)).trans h)
  ·cases h
 ·cases h
def QX (σ:Sg) (G:GvA):m7:=br 9 (bJ cL mGv (ajc σ G)) (br 15 (bJ cL Ye (xx aIO C5 (fun _=>none) (fun x=>G.OD x.1 x.2))) (br 17 (bJ cL bS opG) (br 13 (bJ cL mSc (ahs σ))
 (br 16 LK (br 10 (bJ cL bS (fS Lf C5 EF (fun _ _=>none) (fun v _=>(Oe v,v)))) b9)))))
theorem V5:dH Tryz.prog (NV σ) (QX σ Nz):=aH ajb (aH Ky (aH am8 (aH ahr (aH YJ (aH Od bp)))))
def Yi (x:qE) (e:Int->ah->aA->aY->GX) (k:Int->ah->aA->aY->Prop):Nat->Option (Sx.St AV->T (Ex×Sx.St AV)):=fun id=>match Nat.beq id 24 with | true=>some (g24 x e k) | false=>none
theorem acw (x:qE) (hx:x.no=x.bY.length) (hl:x.bY.length<=40) (n:Nat) (e:Int):QE Tryz.prog (NV σ) 212 A12 (Yi x (mX x) (c24 n e x)):=fun id b hb g hg=>by
 unfold Yi at hg;split at hg
 ·rename_i h1;have h1:=(aG _ _).1 h1;subst h1;cases hg;have:b=A24:=by
   have h:=cN (id:=24) (l:=cQ A12) (by kernel_rfl) (24,b) hb rfl;rw [show b=jv 24 (cQ A12) from h];have:jv 24 (cQ A12)=A24:=by kernel_rfl
   exact this
  rw [this];exact ajy rfl rfl x hx hl n e
 ·cases hg
def auJ (x:qE) (st i:Int) (p:ah) (v:aA) (c:aY):Prop:=SV.v (.c (.vs 7 0 x.no 4 false))=.v (.c (.vs 7 0 x.no 4 false)) /\ SV.v (.c (.it .i64 st))=.v (.c (.it .i64 st)) /\ SV.v (.c (.ptr 9 0))=.v (.c (.ptr 9 0)) /\ SV.v (.c (.ptr 10 0))=.v (.c (.ptr 10 0)) /\ SV.v (.c (.ptr 11 0))=.v (.c (.ptr 11 0)) /\ SV.v (.c (.it .i64 i))=.v (.c (.it .i64 i)) /\ SV.v (.c (.il .i64 (Int.ofNat 0)))=.v (.c (.il .i64 (Int.ofNat 0))) /\ SV.v (.c (.bl false))=.v (.c (.bl false)) /\ SV.v (.c (.il .i64 (Int.ofNat 0)))=.v (.c (.il .i64 (Int.ofNat 0))) /\ Y2 x p v c (lD x i)=Y2 x p v c (lD x i)
def inB (x:qE) (i:Int) (t:TB):TB:=.aE (decide (0<=i /\ i < (x.no:Int))) (.aE (decide (0+i.toNat < x.bY.length)) t)
def al6 (σ:Sg) (G:GvA) (e:Int->ah->aA->aY->GX) (k:Int->ah->aA->aY->Prop) (x:qE) (s i:Int) (p:ah) (w:aA) (c:aY):TB :=
 .aE (decide (w.aO≠0 /\ w.aO≠4)) (.ite true (inB x i (.ite ((!(w.op.aj==(lD x i).aj&&(w.op.key==(lD x i).key&&(w.op.val==(lD x i).val&&w.op.bI==(lD x i).bI))))==false)
  (inB x i (.aE (G.okj w) (.aE (decide (σ.σ KY=σ.σ 1)) (.aE true (.aE (decide (σ.σ KY=σ.σ 1)) (.aE (iI (auJ x s i p w c /\ k i p w c)) (.ite true (.ite true (.ite (decide (((e i p w c).r:Int) < 1)) (.aD (.ret,zV x s i (e i p w c).p (vz (e i p w c).v) (e i p w c).c)) (.aD (.normal,zV x s (IntKind.wrap .i64 (i+1)) (e i p w c).p (vz (e i p w c).v) (e i p w c).c)))
    (.aD (.ret,zV x s i (e i p w c).p (vz (e i p w c).v) (e i p w c).c))) (.aD (.ret,zV x s i (e i p w c).p (vz (e i p w c).v) (e i p w c).c)))))))))
  (.aD (.ret,zV x s i p w c)))) (.aD (.ret,zV x s i p w c)))
def al7 (σ:Sg) (G:GvA) (e:Int->ah->aA->aY->GX) (k:Int->ah->aA->aY->Prop) (x:qE) (s i:Int) (p:ah) (v:aA) (c:aY):TB :=
 .ite (decide (i < (x.no:Int))) (inB x i (.aE (G.okj v) (.ite (!G.OD v.sort (lD x i))
  (inB x i (.ite (!G.OD s (lD x i)) (.aE (decide (σ.σ QF=σ.σ 0)) (.ite false (.aD (.ret,zV x s i p v c)) (.aD (.normal,zV x s (IntKind.wrap .i64 (i+1)) p v c)))) (.aE false (.aD (.ret,zV x s i p v c)))))
  (.aE (G.XL v (lD x i)) (inB x i (.ite (!G.OD s (lD x i)) (.fail "Is") (al6 σ G e k x s i p (gvX G v (lD x i)) c)))))))
  (.aD (.exit 0,zV x s i p v c))
theorem avc (σ:Sg) (G:GvA) (e:Int->ah->aA->aY->GX) (k:Int->ah->aA->aY->Prop) (x:qE) (s i:Int) (p:ah) (so en:Int) (ri:ax) (cl:Cl) (op:O) (cF:Option dV) (an:An) (c:aY):(xc (NV σ) (bE (lv (NV σ) (QX σ G) 8)) (Yi x e k) 212 A12 (zV x s i p ⟨so,en,ri,0,cl,op,cF,an⟩ c)).bind (ff 12 212 Ue fw) =
 al7 σ G e k x s i p ⟨so,en,ri,0,cl,op,cF,an⟩ c:=by kernel_rfl
end
section
open Go Go.Sx Go.Proofs AH
variable {σ:Sg}
theorem ac9 {s i j:Nat} {c:aY} {h:AH} (hh:As s i c h) (hij:i<=j):As s j c h:=by
 obtain⟨a,b⟩:=hh;refine⟨?_,b⟩;unfold aaI at a ⊢;split at a
 ·exact⟨a.1,abz a.2 hij⟩
 ·exact⟨a.1,abz a.2 hij⟩
 all_goals
  obtain⟨l,a1,a2,a3⟩:=a;exact⟨l,a1,abz a2 hij,a3⟩
theorem acg (c:aY) (o:O) (a:An):(A9 c o a).aT.length<=c.aT.length+1:=by
 have e1:(c.aT++[(⟨o.val⟩:N1)]).length=c.aT.length+1:=by rw [aaP];rfl
 have e2:(c.aT.take (c.aT.length - 1)).length<=c.aT.length+1:=by rw [aga];omega
 have e3:(c.aT.drop 1).length<=c.aT.length+1:=by rw [agb];omega
 unfold A9
 repeat' split
 all_goals first | exact e1▸ab4 _ | exact Nat.le_of_eq e1 | exact e2 | exact e3 | exact Nat.le_succ _
theorem ahT (c:aY) (o:O) (a:An):(A9 c o a).st=c.st:=by
 unfold A9
 repeat' split
 all_goals rfl
theorem Rg:∀{l:List Pr} {k:Nat},Ju l->(∀x∈l,(k:Int)<=x.key /\ x.key < 256)->l.length<=256 - k
 | [],_,_,_=>acX _
 | y::l,k,hs,hr=>by unfold Ju at hs;rw [adF] at hs;have h0:=hr y aaV;have:=Rg (k:=y.key.toNat+1) hs.2 fun x hx=>⟨by have:=hs.1 x hx;omega,(hr x (aaW _ hx)).2⟩;rw [aaQ];omega
theorem ahS {p:List Pr} {k:Int} (h1:Ju p) (h2:aaE p) (h3:0<=k /\ k < 256):QD p k:=⟨h1,h2,by have:=Rg (k:=0) h1 h2;omega,h3⟩
structure SvA (s e:Int) (n i:Nat) (c:aY) (v:aA) (p:ah):Prop where
 so:v.sort=s
 wf:v.WF n 100
 nK:v.nK
 pl:p.WF n
 hd:Hd (s==2) p
 dg:v.aO=0
 st:c.st=s
 vl:c.aT.length<=i
 q:∃N h,RQ e N v.aP /\ EB n (1+3 * (i:Int)) N p h /\ N.length<=i /\ As s.toNat i c h
section
variable {s e:Int} {n i:Nat} {c:aY} {v:aA} {p:ah} {o:O}
theorem ag4 (h:SvA s e n i c v p):SvA s e n (i+1) c v p:=by obtain⟨N,g,a,b,l,d⟩:=h.q;exact⟨h.so,h.wf,h.nK,h.pl,h.hd,h.dg,h.st,Nat.le_succ_of_le h.vl,N,g,a,ou b (by omega),by omega,ac9 d (by omega)⟩
theorem D1 (he:1<=e /\ e<=5) (h:SvA s e n i c v p) (hi:i < 40) (hf:dU s o=true):EE v o /\ (dx v o).op=o /\ QC s c o /\ Vm n e (3+3 * (i:Int)) (i+1) s i c o ⟨0,0,false,p,dx v o,c⟩:=by
 have hf':dU v.sort o=true:=by rw [h.so];exact hf
 obtain⟨s1,s2,s3,s4⟩:=adj (by omega) (by omega) h.wf h.dg hf';obtain⟨N,g,a,b,l,d⟩:=h.q;have hs:=h.wf.kj;have hs1:1<=s /\ s<=5:=by have:=hs.1;have:=hs.2.1;have:=h.so;omega
 have hs:s.toNat=1 \/ s.toNat=2 \/ s.toNat=3 \/ s.toNat=4 \/ s.toNat=5:=by omega
 have js:kQ (QA s i c o) 3900 g ((iE v.sort.toNat o).next ⟨aq,true⟩):=by rw [h.so];exact YE hs (by omega) d (Kz hf)
 have r:=W4 (n:=n) (e:=e) (C:=3+3 * (i:Int)) (R:=i+1) (Q:=QA s i c o) (k:=3900) (v:=v) (o:=o) he (by omega) (by omega) a b (by omega) (by omega) s1.2 js;rw [h.so] at r;have rr:RlN n 7 (dx v o) p:=W3 he a b s1.2 (by rw [h.so];exact P0 hs (Kz hf)) js;refine⟨s1,(IF s1.2).1,⟨hs1,by rw [h.st];exact hf,by have:=h.vl;omega,fun h3=>ahS d.2.1 d.2.2 ((Kz hf).k3 h3).2⟩,⟨⟨acX _,s2,s3,h.pl,h.hd,s4.trans h.so,r⟩,?_,fun _=>rfl,fun hh=>(by cases hh),.inl rr,ab4 _⟩⟩;show false=((dx v o).aO==0);have:=rr.1;simpa using this
theorem D2 {C:Int} (h0:SvA s e n i c v p) (hi:i < 40) (hp:QC s c o) {m:GX} (h:Vm n e (3+3 * (i:Int)) (i+1) s i c o m) (ho:m.ov=true):m.v.aO=0 /\ 1<=m.r /\ SvA s e n (i+1) m.c m.v m.p:=by
 have hd:m.v.aO=0:=by have:=h.ov;rw [ho] at this;simpa using this.symm
 have D:=RN h.lp hd;obtain⟨N,g,a,b,q⟩:=D.q;obtain⟨_,q⟩:=SK hp q;have hn:m.v.aP.notes.length<=i+1:=D.no;have ec:=h.c1 ho;refine⟨hd,?_,h.lp.so,agD h.lp.wf (by omega),h.lp.nK,h.lp.pl,h.lp.hd,hd,?_,?_,N,g,a,ou b (by omega),by rw [<- a.no];exact hn,?_⟩
 ·rcases h.rl with h1 | h1
  ·cases hk:7 - m.k with
   | zero=>rw [hk] at h1;exact h1.elim
   | succ k=>rw [hk] at h1;exact absurd hd h1.1
  ·exact h1
 ·rw [ec,ahT];exact h0.st
 ·rw [ec];exact abz (acg _ _ _) (afu h0.vl)
 ·rw [ec];exact q
end
structure Hg where
 i:Nat
 p:ah
 v:aA
 c:aY
def xO (s e:Int) (n:Nat) (x:qE) (m:Hg):Prop:=m.i<=x.bY.length /\ x.bY.length<=40 /\ SvA s e n m.i m.c m.v m.p
def CN (s:Int) (x:qE) (m:Hg):Hg:=cond (dU s (lD x m.i)) ⟨m.i+1,(mX x m.i m.p (dx m.v (lD x m.i)) m.c).p,(mX x m.i m.p (dx m.v (lD x m.i)) m.c).v,(mX x m.i m.p (dx m.v (lD x m.i)) m.c).c⟩ ⟨m.i+1,m.p,m.v,m.c⟩
def D7 (s e:Int) (n:Nat) (x:qE) (m:Hg):T (Ex×Hg):=.aE (iI (xO s e n x m)) (.aD (if m.i < x.bY.length then(.normal,CN s x m) else(.exit 0,m)))
def NQ (x:qE) (s:Int) (m:Hg):Sx.St AV:=zV x s (m.i:Int) m.p m.v m.c
section
variable {s e:Int} {n:Nat} {x:qE}
theorem Wc (he:1<=e /\ e<=5) {m:Hg} (h:xO s e n x m) (hl:m.i < x.bY.length) (hf:dU s (lD x m.i)=true) :
 EE m.v (lD x m.i) /\ (dx m.v (lD x m.i)).op=lD x m.i /\ (dx m.v (lD x m.i)).WF n 117 /\ (dx m.v (lD x m.i)).aO≠0 /\ c24 n e x m.i m.p (dx m.v (lD x m.i)) m.c /\ (mX x m.i m.p (dx m.v (lD x m.i)) m.c).v.aO=0 /\ 1<=(mX x m.i m.p (dx m.v (lD x m.i)) m.c).r /\ xO s e n x (CN s x m):=by
 obtain⟨h1,h2,h3⟩:=h;obtain⟨a,b,c,d⟩:=D1 he h3 (by omega) hf;obtain⟨_,iv,io⟩:=aiA c (f:=3911) (m:=⟨0,0,false,m.p,dx m.v (lD x m.i),m.c⟩) rfl d;obtain⟨f1,f2,f3⟩:=D2 (C:=0) h3 (by omega) c iv io;refine⟨a,b,d.lp.wf,?_,⟨by omega,by omega,_,_,s,c,d⟩,f1,f2,?_⟩
 ·have:=d.ov;have this:false=((dx m.v (lD x m.i)).aO==0):=this;simpa using this.symm
 ·unfold CN;rw [hf];exact⟨hl,h2,f3⟩
theorem ahR {m:Hg}:(CN s x m).i=m.i+1:=by unfold CN;cases dU s (lD x m.i)<;>rfl
theorem XJ (he:1<=e /\ e<=5) {m:Hg} (h:xO s e n x m) (hl:m.i < x.bY.length):xO s e n x (CN s x m):=by
 cases hf:dU s (lD x m.i) with
 | true=>exact(Wc he h hl hf).2.2.2.2.2.2.2
 | false =>unfold CN;rw [hf];exact⟨hl,h.2.1,ag4 h.2.2⟩
theorem zO {i:Nat} {t:TB} (hx:x.no=x.bY.length) (hl:i < x.bY.length):(inB x i t).val=t.val:=(nv (aaC ⟨by omega,by rw [hx];omega⟩)).trans (nv (aaC (by omega)))
theorem V9 (σ:Sg) (he:1<=e /\ e<=5) (hx:x.no=x.bY.length) {m:Hg} (h:xO s e n x m):(al7 σ Nz (mX x) (c24 n e x) x s m.i m.p m.v m.c).val=some (if m.i < x.bY.length then(.normal,NQ x s (CN s x m)) else(.exit 0,NQ x s m)):=by
 have ew:m.i < x.bY.length->IntKind.wrap .i64 ((m.i:Int)+1)=((m.i+1:Nat):Int):=fun hl=>by have:=h.2.1;rw [uh (by omega)];omega
 by_cases hl:m.i < x.bY.length
 ·rw [if_pos hl];have hk:CO m.v:=h.2.2.wf.kj;refine(oX (aaC (by rw [hx];omega))).trans ((zO hx hl).trans ((nv (fh hk)).trans ?_));show (T.ite (!dU m.v.sort (lD x m.i)) _ _).val=_;rw [h.2.2.so];cases hf:dU s (lD x m.i) with
  | false =>refine(oX rfl).trans ((zO hx hl).trans ((oX (by show (!dU s (lD x m.i))=true;rw [hf];rfl)).trans ((nv (aaC rfl)).trans ((oY rfl).trans ?_))));rw [ew hl];unfold CN;rw [hf];rfl
  | true =>
    obtain⟨g1,g2,g3,g4,g5,g6,g7,g8⟩:=Wc he h hl hf;have g9:1<=(dx m.v (lD x m.i)).aO:=by have:=g3.dg.1;omega
    have d4:=(IF g1.2).2;refine(oY rfl).trans ((nv (fh ⟨g1,g2,g9⟩)).trans ((zO hx hl).trans ((oY (by show (!dU s (lD x m.i))=false;rw [hf];rfl)).trans ?_)));rw [gvX_eq g2 g9];unfold al6;refine(nv (aaC ⟨g4,d4⟩)).trans ((oX rfl).trans ((zO hx hl).trans ((oX ?_).trans ((zO hx hl).trans ((nv (fh g3.kj)).trans ((nv (aaC rfl)).trans ((nv rfl).trans ((nv (aaC rfl)).trans ((nv (fh ⟨⟨rfl,rfl,rfl,rfl,rfl,rfl,rfl,rfl,rfl,rfl⟩,g5⟩)).trans ((oX rfl).trans ((oX rfl).trans ((oY (aaK (by omega))).trans ?_))))))))))))
    ·rw [g2];simp
    ·rw [ew hl,vz_eq g6];unfold CN;rw [hf];rfl
 ·rw [if_neg hl];exact oY (aaK (by rw [hx];omega))
theorem O7 (σ:Sg) (he:1<=e /\ e<=5) (hx:x.no=x.bY.length) (m:Hg) (r:Ex×Hg) (h:(D7 s e n x m).val=some r) :
 ((xc (NV σ) (bE (lv (NV σ) (QX σ Nz) 8)) (Yi x (mX x) (c24 n e x)) 212 A12 (NQ x s m)).bind (ff 12 212 Ue fw)).val=some (r.1,NQ x s r.2):=by
 obtain⟨hb,h⟩:=aC (h:(T.aE _ _).val=_);have hv:=fv hb;cases h;have e1:=V9 σ he hx hv;obtain⟨i,p,v,c⟩:=m;obtain⟨so,en,ri,dg,cl,op,cF,an⟩:=v;have hd:dg=0:=hv.2.2.dg;subst hd;show ((xc (NV σ) _ _ 212 A12 (zV x s i p ⟨so,en,ri,0,cl,op,cF,an⟩ c)).bind _).val=_;rw [avc];refine e1.trans ?_;split<;>rfl
def HD (s:Int) (x:qE):Nat->Hg->Hg
 | 0,m=>m
 | f+1,m=>HD s x f (CN s x m)
theorem PM (he:1<=e /\ e<=5):∀{f:Nat} {m:Hg},m.i+f=x.bY.length->xO s e n x m->dK (D7 s e n x) (f+1) m=some (.exit 0,HD s x f m) /\ xO s e n x (HD s x f m)
 | 0,m,hk,h=>by rw [dK,D7,nv (fh h)];simp only [T.val];rw [if_neg (by omega)];exact⟨rfl,h⟩
 | f+1,m,hk,h=>by rw [dK,D7,nv (fh h)];simp only [T.val];rw [if_pos (by omega)];exact PM he (f:=f) (m:=CN s x m) (by rw [ahR];omega) (XJ he h (by omega))
end
def aiF:SV->Option Int
 | .v (.c x)=>kL x
 | _=>none
theorem Ni {v:SV} {n:Int} (h:aiF v=some n):v≠.lU /\ ∀ρ,(SV.v (.c (.it .i64 n))).ay ρ=v.ay ρ:=by
 unfold aiF at h;split at h
 ·exact⟨fun e=>(by cases e),fun ρ=>(b6 h ρ).symm⟩
 ·cases h
def apw (x:qE) (s:Int) (p:ah) (v:aA) (c:aY) (t:Sx.St AV):Prop:=Sx.aJ t.E 1=.v (.c (.vs 7 0 x.no 4 false)) /\ aiF (Sx.aJ t.E 5)=some s /\ Sx.aJ t.E 6=.v (.c (.ptr 9 0)) /\ Sx.aJ t.E 7=.v (.c (.ptr 10 0)) /\ Sx.aJ t.E 9=.v (.c (.ptr 11 0)) /\ Sx.aJ t.E 11=.v (.c (.il .i64 (Int.ofNat 0))) /\ t.H=Uo x p v c
def g12 (x:qE) (s:Int) (p:ah) (v:aA) (c:aY) (m:Hg) (q:Prop) (t:Sx.St AV):T (Ex×Sx.St AV):=.aE (iI (apw x s p v c t /\ q)) (.aD (.exit 0,zV x s m.i m.p m.v m.c))
theorem ajz {N':eI AV} (hF:N'.F=(NV σ).F) (hG:N'.G=(NV σ).G) {s e:Int} {n:Nat} {x:qE} (he:1<=e /\ e<=5) (hx:x.no=x.bY.length) (p:ah) (v:aA) (c:aY):gr Tryz.prog N' 212 A12 (g12 x s p v c (HD s x x.bY.length ⟨0,p,v,c⟩) (xO s e n x ⟨0,p,v,c⟩)):=by
 have cR:gZ Tryz.prog (NV σ) (bE (lv (NV σ) (QX σ Nz) 8)):=dt (mQ sJ uD K7 V5 8);by_cases hl:x.bY.length<=40
 ·refine eY (N:=NV σ) hF hG sJ cR (lp:=Yi x (mX x) (c24 n e x)) (acw x hx hl n e) fun s' s2 ex cM=>?_;obtain⟨E1,H1⟩:=s';unfold g12 at cM
  replace cM:=aC cM
  obtain⟨hb,cM⟩:=cM;obtain⟨⟨e1,e5,e6,e7,e9,Ss,eH⟩,hv⟩:=fv hb;simp only at e1 e5 e6 e7 e9 Ss eH;subst eH;cases cM;refine⟨{M:=Hg,tX:=NQ x s,step:=D7 s e n x,ks:=Ue,pk:=fw,Aw:=fun d a h=>(by cases h),L:=12,len:=rfl,GV:=(by show 7<=12;decide),run:=O7 σ he hx,m:=⟨0,p,v,c⟩,k:=x.bY.length+1,m':=HD s x x.bY.length ⟨0,p,v,c⟩,Ld:=?_,it:=(PM he (m:=⟨0,p,v,c⟩) (by show 0+_=_;omega) hv).1,fin:=rfl}⟩;have Kt:=jz (N:=NV σ) (nt:=212) (s:={E:=E1,H:=Uo x p v c}) (ks:=Ue) (E':=evA x s ((0:Nat):Int)) (l:=[]) (fun a h=>by cases h) (by show 7<=12;decide) fun k hk=>by
   simp only [Ue,aaO,aaR,or_false] at hk;rcases hk with rfl | rfl | rfl | rfl | rfl | rfl
   ·exact .inl e1.symm
   ·exact .inr (.inl ⟨(Ni e5).1,tu s,(Ni e5).2⟩)
   ·exact .inl e6.symm
   ·exact .inl e7.symm
   ·exact .inl e9.symm
   ·refine .inr (.inl ⟨?_,?_,fun ρ=>?_⟩)
    ·show Sx.aJ E1 11≠_;rw [Ss];exact fun h=>by cases h
    ·exact tu 0
    ·show _=(Sx.aJ E1 11).ay ρ;rw [Ss];rfl
  exact Kt
 ·intro L s' s2 ex cM;exact absurd (fv (aC cM).1).2.2.1 hl
end
section
open Go Go.Sx Go.Proofs AH
variable {σ:Sg}
def T.cut {α:Type}:T α->T α
 | .aD a=>.aD a
 | .ite b t e=>match b with | true=>T.cut t | false=>T.cut e
 | .aE b t=>.aE b (T.cut t)
 | .fail s=>.fail s
theorem T.DB {α:Type}:∀t:T α,(T.cut t).val=t.val
 | .aD _=>rfl
 | .ite true t _=>T.DB t
 | .ite false _ e=>T.DB e
 | .aE true t=>T.DB t
 | .aE false _=>rfl
 | .fail _=>rfl
def ag9 (σ:Sg) (F:U4) (args:List SV) (l:List AV):T (SV×List AV×List AV):=match args,l with
 | [.v (.c (.ptr 7 0)),.v (.c (.ptr 8 0))],[.rE v,.gi p]=>.ite (v.aO==0) (.aD (.iW [Q1,zZ σ KY],[.rE v,.gi p],[])) (.aE (F.qM v p) (.aD (.iW [Wm (F.sr v p),.c .fL],[.rE (F.sv v p),.gi (F.sp v p)],[])))
 | _,_=>.fail "Step"
theorem abt:cE Tryz.prog (NV σ) 11 (bJ cL Yd (ag9 σ CH)):=BB Q2 fun args l r h=>by
 unfold ag9 at h;split at h
 ·rename_i v p;simp only [LO];cases hd:(v.aO==0) with
  | true =>
    rw [hd] at h;have hd:v.aO=0:=by simpa using hd
    rw [oX (by rw [hd];rfl)];exact h
  | false =>
    rw [hd] at h;have hd:v.aO≠0:=by simpa using hd
    obtain⟨h1,h⟩:=aC (h:(T.aE _ _).val=_);obtain⟨k1,k2,k3,k4⟩:=fv h1;rw [oY (by simpa using k1),nv (aaC k2),oX (aaC k3),nv (fh k4)];exact h
 ·cases h
structure AwQ where
 XK:Int->Int->Bool
 okk:aA->Bool
 XL:aA->O->Bool
 qM:aA->ah->Bool
def awF (q:AwQ):U4:={CH with XK:=q.XK,okk:=q.okk,XL:=q.XL,qM:=q.qM}
def mAw:List Bool:=mkM 6
def V2 (σ:Sg) (F:U4):m7:=br 7 (bJ cL mLd (RV F.XK F.ld)) (br 8 (bJ cL bS (qO aI5 EF (fun x=>some (!(F.Ax x))) F.mv)) (br 9 (bJ cL mGv (adm σ F)) (br 11 (bJ cL Yd (ag9 σ F))
 (br 10 (bJ cL bS (fS Lf C5 EF (fun _ _=>none) (fun v _=>(Oe v,v)))) (br 16 LK b9)))))
theorem V0:dH Tryz.prog (NV σ) (V2 σ CH):=aH MY (aH Hl (aH aje (aH abt (aH Od (aH YJ bp)))))
def Vk:O:=⟨2,0,0,0⟩
def awP:ah:=MX 1 3
def awV:aA:=qc (1,2,0,1,2)
def awW:aA:=qc (1,3,0,1,2)
def aeg:GX:=⟨0,0,false,awP,dx awV Vk,⟨1,[],[]⟩⟩
def CY:Nat->GX
 | 0=>⟨0,0,false,(Ry Vk aeg).p,dx awW Vk,(Ry Vk aeg).c⟩
 | k+1=>Ry Vk (CY k)
theorem aj3 (σ:Sg) (q:AwQ):T.cut (kG σ (V2 σ (awF q)) 6 mAw [] []) =
 .aE (q.XK 1 3) (.aE true (.aE true (.aE (q.okk awV) (.aE (q.XL awV Vk) (.aE (q.qM aeg.v aeg.p) (.aE (q.okk awW) (.aE (q.XL awW Vk) (.aE (q.qM (CY 0).v (CY 0).p) (.aE (q.qM (CY 1).v (CY 1).p) (.aE (q.qM (CY 2).v (CY 2).p) (.aE (q.qM (CY 3).v (CY 3).p)
  (.aE (q.qM (CY 4).v (CY 4).p) (.aE (q.qM (CY 5).v (CY 5).p) (.aE (decide (σ.σ KY=σ.σ KY)) (.aE (q.okk (CY 6).v) (.aE (decide (σ.σ QF=σ.σ QF)) (.aD (.v (.c (.bt true)),[],[])))))))))))))))))):=by kernel_rfl
theorem T1 (p:ah):(p.aV pO).2.dX=p.dX:=by show (ah.alloc {p with steps:=di p.steps} 0).2.dX=p.dX;unfold ah.alloc;split<;>rfl
theorem MV {f1 f2:Int} {w1 w2:W->W} (p:ah) (h1:f1.toNat≠24) (h2:f2.toNat≠24):(Ck f1 f2 w1 w2 p).read 0 24=p.read 0 24:=by unfold ah.read;rw [if_pos rfl,if_pos rfl];show (((p.aV pO).2.dX.set f1.toNat _).set f2.toNat _).getD 24 _=p.dX.getD 24 _;rw [ac7,List.getElem?_set_ne h2,List.getElem?_set_ne h1,T1,<- ac7]
theorem Yw (s k:Nat):(rK s (jR k)).read 0 24=dZ 1:=by
 have h0:(jR k).read 0 24=dZ 1:=rfl;unfold rK;split
 ·rw [MV _ (by decide) (by decide)];exact h0
 ·rw [MV _ (by decide) (by decide)];exact h0
 ·exact h0
theorem acK (s k:Nat):(rK s (jR k)).fault=none:=by
 have nw:∀p:ah,(p.aV pO).2.fault=p.fault:=fun p=>by show (ah.alloc {p with steps:=di p.steps} 0).2.fault=p.fault;unfold ah.alloc;split<;>rfl
 unfold rK;split
 ·exact nw (jR k)
 ·exact nw (jR k)
 ·rfl
theorem aof {s:Nat} {x:Int} {h:AH} (hi:aeA s 0 h):As s 0 ⟨x,[],[]⟩ h:=by
 refine⟨?_,List.Pairwise.nil,fun x hx=>by cases hx⟩;have nl:∀{α:Type} {l:List α},l.length<=0->l=[]:=fun h=>List.eq_nil_of_length_eq_zero (Nat.le_zero.1 h);unfold aeA at hi;unfold aaI;split at hi
 ·obtain⟨l,a,b⟩:=hi;rw [nl b] at a;exact⟨a,ab4 _⟩
 ·obtain⟨l,a,b⟩:=hi;rw [nl b] at a;exact⟨a,ab4 _⟩
 ·obtain⟨l,a,b⟩:=hi;rw [nl b] at a;exact⟨[],a,ab4 _,fun k v _ _=>⟨fun h=>(by cases h),fun h=>(by cases h)⟩⟩
 ·obtain⟨l,a,b⟩:=hi;refine⟨l,a,b,fun k v _ _=>⟨fun h=>?_,fun h=>(by cases h)⟩⟩;obtain⟨x,hx,e,_⟩:=tK.1 h;have e:x.k=jc k:=e;have:x∈l.filter fun x=>x.k % 2==1:=af2.2 ⟨hx,by rw [e,Dl];rfl⟩;rw [nl b] at this;cases this
 ·obtain⟨l,a,b⟩:=hi;rw [nl b] at a;have fin:∃L,jX h L /\ L.length<=0 /\ Rep id (sv L) []:=⟨[],a,ab4 _,fun k v _ _=>⟨fun h=>(by cases h),fun h=>(by cases h)⟩⟩;split<;>first | exact fin | (exfalso;rename_i h1 h2 h3 h4;first | exact h1 rfl | exact h2 rfl | exact h3 rfl | exact h4 rfl)
theorem Ht {s e k no:Int} (hs:1<=s /\ s<=5) (he:1<=e /\ e<=5) (hk:1<=k /\ k<=1024):SvA s e k.toNat 0 ⟨s,[],[]⟩ (qc (s,e,0,1,no)) (MX s k):=by obtain⟨w,hd,⟨h,A,hi⟩,_⟩:=RU (k:=k.toNat) (by omega) (by omega) (s:=s.toNat) (by omega);obtain⟨w1,w2⟩:=H8 (n:=(k.toNat:Nat)) (by omega) (s:=s) (e:=e) (me:=0) (th:=1) (no:=no) hs he (by decide) (by decide);rw [show ((s.toNat:Nat):Int)=s by omega] at hd;have hc:(MX s k).read 0 24=dZ 1:=Yw s.toNat k.toNat;exact⟨rfl,aA.WF.mono w1 (by decide),w2,w,hd,rfl,rfl,ab4 _,[],h,⟨rfl,rfl,rfl,rfl⟩,⟨w,A,by rw [hc];decide,by rw [hc];decide,(fun x hx=>by cases hx),List.nodup_nil,acK _ _⟩,ab4 _,aof hi⟩
theorem abq {s e e' no:Int} {n i:Nat} {c:aY} {v:aA} {p:ah} (hn:1<=n) (h:SvA s e n i c v p) (hs:1<=s /\ s<=5) (he:1<=e' /\ e'<=5):SvA s e' n i c (qc (s,e',0,1,no)) p:=by obtain⟨w1,w2⟩:=H8 (n:=n) (by omega) (s:=s) (e:=e') (me:=0) (th:=1) (no:=no) hs he (by decide) (by decide);obtain⟨N,g,a,b,l,d⟩:=h.q;exact⟨rfl,aA.WF.mono w1 (by decide),w2,h.pl,h.hd,rfl,h.st,h.vl,[],g,⟨rfl,rfl,rfl,rfl⟩,⟨b.wf,b.ab,b.c1,b.c2,(fun x hx=>by cases hx),List.nodup_nil,b.fl⟩,acX _,d⟩
theorem aj2 (σ:Sg):(kG σ (V2 σ CH) 6 mAw [] []).val=some (.v (.c (.bt true)),[],[]):=by
 have A:SvA 1 2 3 0 ⟨1,[],[]⟩ awV awP:=Ht (s:=1) (e:=2) (k:=3) (no:=2) (by decide) (by decide) (by decide);have kj:=A.wf.kj;obtain⟨a1,_,a3,a4⟩:=D1 (o:=Vk) (by decide) A (by decide) (by kernel_rfl);obtain⟨b1,_,_,_,b5⟩:=vB a3 a4 rfl;obtain⟨_,_,B⟩:=D2 (C:=0) A (by decide) a3 b5 (by kernel_rfl);have W:SvA 1 3 3 1 (CY 0).c awW (CY 0).p:=abq (by decide) B (by decide) (by decide);have kw:=W.wf.kj;obtain⟨w1,_,w3,w4⟩:=D1 (o:=Vk) (by decide) W (by decide) (by kernel_rfl);have M0:Vm 3 3 6 2 1 1 (CY 0).c Vk (CY 0):=w4;have st:∀{k:Nat},Vm 3 3 6 2 1 1 (CY 0).c Vk (CY k)->(CY k).ov=false->CH.qM (CY k).v (CY k).p=true /\ Vm 3 3 6 2 1 1 (CY 0).c Vk (CY (k+1)):=fun {k} h ho=>by obtain⟨c1,_,_,_,c5⟩:=vB w3 h ho;exact⟨c1,c5⟩
 obtain⟨s0,M1⟩:=st M0 (by kernel_rfl);obtain⟨s1,M2⟩:=st M1 (by kernel_rfl);obtain⟨s2,M3⟩:=st M2 (by kernel_rfl);obtain⟨s3,M4⟩:=st M3 (by kernel_rfl);obtain⟨s4,M5⟩:=st M4 (by kernel_rfl);obtain⟨s5,M6⟩:=st M5 (by kernel_rfl);obtain⟨_,_,E⟩:=D2 (C:=0) W (by decide) w3 M6 (by kernel_rfl);rw [<- T.DB];refine(congrArg T.val (aj3 σ ⟨CH.XK,CH.okk,CH.XL,CH.qM⟩)).trans ?_;exact(nv rfl).trans ((nv rfl).trans ((nv rfl).trans ((nv (fh ⟨kj,rfl⟩)).trans ((nv (fh a1)).trans ((nv b1).trans ((nv (fh ⟨kw,rfl⟩)).trans ((nv (fh w1)).trans ((nv s0).trans ((nv s1).trans ((nv s2).trans ((nv s3).trans ((nv s4).trans ((nv s5).trans ((nv (aaC rfl)).trans ((nv (fh ⟨E.wf.kj,E.dg⟩)).trans ((nv (aaC rfl)).trans rfl))))))))))))))))
theorem VO {tab:m7} (ht:dH Tryz.prog (NV σ) tab) {f:FuncId} {M:List Bool} (hM:7=M.length) (h:(kG σ tab f M [] []).val=some (.v (.c (.bt true)),[],[])):cE Tryz.prog (NV σ) f (bJ cL M QR):=by
 refine hZ dL hM fun args l v l' nw h' hl bZ=>?_;unfold QR at h';split at h'
 ·simp only [T.val,aaf,aaB] at h';obtain⟨rfl,rfl,rfl⟩:=h';exact rA (wK ht hM (fun x hx=>by cases hx) h).1 (fun c hc n hn=>by simp [V1.cells] at hc;subst hc;cases hn) fun ρ=>rfl
 ·simp [T.val] at h'
theorem aaj:cE Tryz.prog (NV σ) 6 (bJ cL mAw QR):=VO V0 (ju _) (aj2 σ)
end
end Go.Proofs.YtadmfaohjnjajaaGreatDoor

namespace Go.Sx
section
open Go.ChangeShapes Go.WideShapes Go.RowKit
theorem wm.rF {W W':World} (h:wm W W') {p:MemPlace} (hp:p.block < W.heap.size):W.sameAt W' p:=by
 cases p with
 | cell b off =>have:=h.block b hp;simp only [World.sameAt,World.cell?,this]
 | map b=>exact h.block b hp
theorem wm.mf {W W':World} (h:wm W W') (a:Addr) (ha:a.block < W.heap.size):W'.frozen? a=W.frozen? a:=by simp only [World.frozen?,h.block a.block ha]
theorem wm.aR {W W':World} (h:wm W W') (may:MemPlace->Prop):W.keptBut W' may:=by
 refine⟨h.os,h.output,fun i hi=>?_⟩;rw [h.block i hi];cases hx:W.heap[i]? with
 | none=>trivial
 | some o=>cases o<;>simp
section
variable {H:Type} {enc:TypeId×Value->H} {P:Program}
theorem xE (hl:laidOutB P=true) {W W':World} {sp':Nat->Bool}:∀{ts:List TypeId} {vs:List Value} {ds:List (DataW H)} {ps:List MemPlace},(∀t∈ts,P.readableRec t=true /\ t < P.types.size) ->
 DataW.TrodAll enc P W 0 (fun _=>true) true ts vs ds ps->(∀p∈ps,W.sameAt W' p)->(∀p∈ps,sp' p.block=true)->DataW.TrodAll enc P W' 0 sp' true ts vs ds ps
 | [],[],[],_,_,h,_,_=>h
 | t::ts,v::vs,d::ds,ps,ht,h,hs,hsp=>by obtain⟨p,q,h1,h2,rfl⟩:=h;have:=ht t (aaV ..);refine⟨p,q,WideElems.Trod_stays hl this.1 this.2 h1 (fun x hx=>hs x (List.mem_append_left _ hx)) (fun x hx=>hsp x (List.mem_append_left _ hx)),?_,rfl⟩;exact xE hl (fun x hx=>ht x (aaW _ hx)) h2 (fun x hx=>hs x (List.mem_append_right _ hx)) (fun x hx=>hsp x (List.mem_append_right _ hx))
 | [],[],_::_,_,_,h,_,_=>by simp [DataW.TrodAll] at h
 | [],_::_,_,_,_,h,_,_=>by simp [DataW.TrodAll] at h
 | _::_,[],_,_,_,h,_,_=>by simp [DataW.TrodAll] at h
 | _::_,_::_,[],_,_,h,_,_=>by simp [DataW.TrodAll] at h
theorem G4 (hl:laidOutB P=true) {f:Func} {s:ChangeSpec} {apart fresh handsOn again:Bool} {W W':World} {args:Array Value} {ds gs:List (DataW H)} {before:List MemPlace} {tb:TypeId}
 (afP:s.vars=[]) (ato:∀t∈f.params.toList,P.readableRec t=true /\ t < P.types.size) (ac4:f.resultTypes=#[tb]) (htb:P.underlying tb=some .bool)
 (hW:DataW.Whole enc P f.params.toList s.vars apart W args.toList ds gs before)
 (an8:s.fn H ds={results:=[.lit (.bool true)],args:=ds}) (hq:wm W W') :
 s.post enc P f apart fresh handsOn again W args (.bool true) W':=by
 have hW':=hW;obtain⟨p,q,hA,hV,rfl,hfz,jQ⟩:=hW;rw [afP] at hV;obtain⟨rfl,rfl⟩:=trodVars_none hV;have hlt:=hW'.lt;simp only [aeF] at hW' hlt hfz;have PR:s.fn H (ds++[])={results:=[.lit (.bool true)],args:=ds}:=by rw [aeF];exact an8
 have pf:=ok_one (P:=P) (W':=W') (f:=f) (v:=.bool true) ac4 rfl (okWide_bool_mk htb true);have hold:∀p'∈p,(fun b=>decide (b < W.heap.size)) p'.block=true:=fun p' hp=>by simpa using hlt p' hp
 have bZ:∀sp:Nat->Bool,(∀x∈p,sp x.block=true)->DataW.TrodAll enc P W' 0 sp true f.params.toList args.toList (s.fn H (ds++[])).args p:=by intro sp hsp;rw [PR];exact xE hl ato hA (fun x hx=>hq.rF (hlt x hx)) hsp
 have afR:∀(b:Nat) (sp:Nat->Bool) (hd:Bool),DataW.TrodAll enc P W' b sp hd f.resultTypes.toList ((Value.bool true).resultList f.resultTypes.size) (s.fn H (ds++[])).results []:=by intro b sp hd;rw [PR,ac4];exact⟨[],[],shut_bool htb _,rfl,rfl⟩
 have YV:∀sp:Nat->Bool,DataW.TrodVars enc P W' sp s.vars (s.fn H (ds++[])).vars []:=by intro sp;rw [PR,afP];exact rfl
 refine⟨ds,[],p,[],p,[],hW',afR _ _ _,bZ _ hold,YV _,World.keptBut_mono (fun x hx=>⟨hx,Or.inr (by simpa using hx)⟩) (hq.aR _),fun _=>?_⟩;obtain⟨_,_,_,_,_,hz,hn⟩:=hW';refine⟨pf,_,_,([]++p)++[],⟨[]++p,[],trodAll_append (bZ _ (fun _ _=>rfl)) (afR _ _ _),YV _,rfl,?_,?_⟩,?_⟩
 ·intro b off hp;simp only [acB,aeF] at hp;rw [hq.mf _ (hlt _ hp)];exact hfz b off hp
 ·intro ha;simpa using jQ ha
 ·intro x hx _;simpa using hx
end
structure aaD (P:Program) (ti tp te ts:TypeId):Prop where
 hi:∃ms,P.underlying ti=some (.interface ms)
 row:∀u,P.typeName? 3 u=some "*errors.errorString" -> u=tp
 hp:P.underlying tp=some (.pointer te)
 he:∃f:Field,P.underlying te=some (.struct #[f]) /\ f.type=ts /\ f.offset=0
 hs:P.underlying ts=some .string
 hc:P.cellsOf te=1
 hcs:P.cellsOf ts=1
def gH (text:List UInt8):DataW Unit:=.iface "*errors.errorString" (.ptr (.agg [.lit (.string text)]))
end
section
open Go.ChangeShapes Go.WideShapes
def gQ:List FK->List Value->Prop
 | [],[]=>True
 | .bool::ks,.bool _::vs=>gQ ks vs
 | .int k::ks,.int k' _::vs=>k'=k /\ gQ ks vs
 | .OW::ks,.string _::vs=>gQ ks vs
 | _,_=>False
theorem rN:∀{ks ks':List FK} {vs U9:List Value},gQ ks vs->gQ ks' U9->gQ (ks++ks') (vs++U9)
 | [],_,[],_,_,h'=>h'
 | [],_,_::_,_,h,_=>by simp [gQ] at h
 | k::_,_,[],_,h,_=>by cases k<;>simp [gQ] at h
 | k::ks,ks',v::vs,U9,h,h'=>by cases k<;>cases v<;>first | exact rN (ks:=ks) (vs:=vs) h h' | exact⟨h.1,rN (ks:=ks) (vs:=vs) h.2 h'⟩ | exact absurd h (by simp [gQ])
theorem uc {P:Program} {t:TypeId} {n:Nat} (h:oD P t=some n):P.cellsOf t=n:=by
 unfold oD at h;unfold Program.cellsOf;cases hi:P.info? t with
 | none=>rw [hi] at h;cases h
 | some i=>rw [hi] at h;cases h;rfl
section
variable {H:Type} {enc:TypeId×Value->H} {P:Program} {w:World} {base:Nat} {sp:Nat->Bool} {held:Bool}
theorem vK {rec:TypeId->Option (List FK)} {cs:List Value} {n:Nat}
 (ac5:∀t ks vs x,rec t=some ks->DataW.trod enc P w base sp held n t vs=some x->P.cellsOf t=ks.length->gQ ks vs) :
 ∀(fs:List Field) (off:Nat) (ks:List FK),tW P rec fs off=some ks->(∀f∈fs,∃y,DataW.trod enc P w base sp held n f.type ((cs.drop f.offset).take (P.cellsOf f.type))=some y)->gQ ks ((cs.drop off).take ks.length)
 | [],off,ks,h,_=>by simp only [tW,aaf] at h;subst h;simp [gQ]
 | f::fs,off,ks,h,hf=>by
   simp only [tW] at h;split at h
   ·cases h
   ·split at h
    ·cases h
    ·rename_i PU;have PU:=(aG _ _).1 PU;split at h
     ·cases h
     ·rename_i k1 hk1;split at h
      ·cases h
      ·rename_i m hm;split at h
       ·cases h
       ·rename_i hlen;have hlen:=(aG _ _).1 hlen;split at h
        ·rename_i l hl;cases h;have hc:=uc hm;obtain⟨y,hy⟩:=hf f (aaV ..);have h1:=ac5 f.type k1 _ y hk1 hy (hc.trans hlen);rw [PU,hc,hlen] at h1;have h2:=vK ac5 fs (off+m) l hl (fun g hg=>hf g (aaW _ hg));have e:(cs.drop off).take (k1++l).length=(cs.drop off).take k1.length++(cs.drop (off+m)).take l.length:=by rw [aaP,List.take_add,List.drop_drop,hlen]
         rw [e];exact rN h1 h2
        ·cases h
theorem wD:∀(d n:Nat) (t:TypeId) (ks:List FK) (cs:List Value) (x:DataW H×List MemPlace),pw P d t=some ks->DataW.trod enc P w base sp held n t cs=some x->P.cellsOf t=ks.length->gQ ks cs
 | 0,_,_,_,_,_,h,_,_=>by simp [pw] at h
 | d+1,n,t,ks,cs,x,h,ht,hc=>by
   simp only [pw] at h;split at h
   ·rename_i hu;cases h;obtain⟨b,rfl,_⟩:=DataW.trod_bool hu ht;simp [gQ]
   ·rename_i k hu;cases h;obtain⟨m,rfl,_⟩:=DataW.trod_int hu ht;simp [gQ]
   ·rename_i hu;cases h;obtain⟨m,rfl,_⟩:=DataW.trod_string hu ht;simp [gQ]
   ·rename_i fs hu;split at h
    ·cases h
    ·obtain⟨xs,m,rfl,_,hl,hxl,hx⟩:=DataW.trod_struct hu ht;have:=vK (H:=H) (enc:=enc) (w:=w) (base:=base) (sp:=sp) (held:=held) (n:=m) (cs:=cs) (fun t ks vs x h1 h2 h3=>wD d m t ks vs x h1 h2 h3) fs.toList 0 ks h (fun f hf=>by
      obtain⟨i,hi⟩:=adQ.1 hf;have hi':fs[i]?=some f:=by simpa using hi
      have hlt:i < xs.length:=by rw [hxl];exact(ada.1 hi').1
      exact⟨xs[i],by rw [hx i f hi',aaN hlt]⟩)
     rw [List.drop_zero,List.take_of_length_le (by omega)] at this;exact this
   ·rename_i len e hu;split at h
    ·rename_i sz hs;obtain⟨xs,m,rfl,_,hl,hxl,hx⟩:=DataW.trod_array hu ht;have:=vK (H:=H) (enc:=enc) (w:=w) (base:=base) (sp:=sp) (held:=held) (n:=m) (cs:=cs) (fun t ks vs x h1 h2 h3=>wD d m t ks vs x h1 h2 h3) (Jp e sz len 0) 0 ks h (fun f hf=>by
      rw [arrFs_eq] at hf;obtain⟨i,hi,rfl⟩:=ac0.1 hf;have hi:i < len:=by simpa using List.mem_range'_1.1 hi
      have hlt:i < xs.length:=by omega
      have hx:=hx i hi;rw [uc hs] at hx;exact⟨xs[i],by simp only [SM];rw [uc hs,hx,aaN hlt]⟩)
     rw [List.drop_zero,List.take_of_length_le (by omega)] at this;exact this
    ·cases h
   ·cases h
end
end
end Go.Sx

namespace Go.Proofs.YtadmfaohjnjajaaGreatDoor
open Go Go.Sx Go.Proofs Go.ChangeShapes Go.WideShapes
section
variable {P:Program} {W:World}
theorem WW {ti tp te ts:TypeId} (S:aaD P ti tp te ts):∀{l:List (String×List UInt8)} {gs:List Nat} {ps:List MemPlace},
 l.map (fun x=>P.globalNamed x.1)=gs.map some->(∀g∈gs,(P.globals[g]?).map (·.type)=some ti)->gs.Nodup ->
 DataW.LaidVars P W (l.map fun x=>(x.1,gH x.2)) ps->ps.Nodup->(∀b off,MemPlace.cell b off∈ps->(∃c t,W.heap[b]?=some (.cells c t (0,0))) /\ ∀u v,W.cell? ⟨b,off,none⟩=some (.iface u v)->Value.okWide P W .any 0 u v) ->
 ∃ad:Nat->Addr,(∀i∈gs,∀j∈gs,i≠j->ad i≠ad j) /\ ∀i∈gs,MemPlace.cell (ad i).block (ad i).off∈ps /\ (∃s,W.cell? (ad i)=some (.string s)) /\ ∃t,W.heap[i]?=some (.cells #[.iface tp (.pointer (some (ad i)))] t (0,0))
 | [],[],_,_,_,_,_,_,_=>⟨fun _=>default,(fun i h=>by cases h),fun i h=>by cases h⟩
 | [],_::_,_,h,_,_,_,_,_=>by simp at h
 | _::_,[],_,h,_,_,_,_,_=>by simp at h
 | (n,text)::l,g::gs,ps,hn,ht,hgn,h,jQ,hr=>by
   simp only [aaU,List.cons.injEq] at hn;obtain⟨g',t,cs,fuel,p,q,hg,hty,hv,hd,hq,rfl⟩:=h;obtain rfl:=afT (hn.1.symm.trans hg);obtain rfl:=afT ((ht g (aaV ..)).symm.trans hty);obtain⟨l0⟩:=cs;obtain⟨ms,hi⟩:=S.hi;obtain⟨f,he,hft,Vi⟩:=S.he;have ok0:∀u v,l0=[.iface u v]->Value.okWide P W .any 0 u v:=fun u v e=>by subst e;exact(hr g 0 (by simp [MemPlace.row])).2 u v (by simpa using World.var?_cell hg hv 0)
   obtain⟨a,s,rfl,xR,hs0,hz0,rfl⟩:=errorString_of_trod hi S.row S.hp he hft Vi S.hs S.hc S.hcs hd ok0;have aok:=afN.1 jQ;have aou:=ads.1 hgn;obtain⟨ad,h1,h2⟩:=WW S hn.2 (fun x hx=>ht x (aaW _ hx)) aou.2 hq aok.2.1 (fun b off hb=>hr b off (List.mem_append_right _ hb));have self:MemPlace.cell a.block a.off∈MemPlace.row ⟨g,0,none⟩ 1++MemPlace.row a 1:=List.mem_append_right _ (by simp [MemPlace.row]);have isg:∀i∈gs,i≠g:=fun i hi e=>aou.1 (e▸hi);have apart:∀i∈gs,ad i≠a:=fun i hi e=>by have:=(h2 i hi).1;rw [e] at this;exact aok.2.2 _ self _ this rfl
   refine⟨fun i=>if i=g then a else ad i,fun i hi j hj hij=>?_,fun i hi=>?_⟩
   ·rcases aaO.1 hi with rfl | hi2
    ·rcases aaO.1 hj with rfl | hj
     ·exact absurd rfl hij
     ·simp only [if_pos rfl,if_neg (isg j hj)];exact fun e=>apart j hj e.symm
    ·rcases aaO.1 hj with ej | hj
     ·subst ej;simp only [if_pos rfl,if_neg (isg i hi2)];exact apart i hi2
     ·simp only [if_neg (isg i hi2),if_neg (isg j hj)];exact h1 i hi2 j hj hij
   ·rcases aaO.1 hi with rfl | hi
    ·simp only [if_pos rfl];refine⟨List.mem_append_left _ self,⟨s,xR⟩,?_⟩;obtain⟨c,t,hb⟩:=(hr i 0 (by simp [MemPlace.row])).1;refine⟨t,?_⟩;simp only [World.var?,hg,Option.bind_some,hb] at hv;rw [hb];simpa using hv
    ·simp only [if_neg (isg i hi)];obtain⟨g1,g2,g3⟩:=h2 i hi;exact⟨List.mem_append_right _ g1,g2,g3⟩
end
def zg (W:World) (ad:Nat->Addr):Sg:=⟨ad,fun k=>if k < 7 then none else W.heap[k]?⟩
theorem WT (W:World) (ad:Nat->Addr):(zg W ad).has W:=fun k o h=>by
 unfold zg at h;simp only at h;split at h
 ·cases h
 ·exact h
theorem WD {W:World} {r:Reach} {b0:Nat} {t e:TypeId} {v:Value} (ht:Tryz.prog.underlying t=some (.slice e)) (lO:Value.okWide Tryz.prog W r b0 t v):v=.slice none 0 0 \/ ∃b o len cap,v=.slice (some ⟨b,o,none⟩) len cap /\ len<=cap:=by
 unfold Value.okWide at lO;rw [ht] at lO;unfold Cell.okWide at lO;rw [ht] at lO;dsimp only at lO;unfold Cell.ok at lO;rw [ht] at lO;cases v with
 | slice a len cap =>
   cases a with
   | none =>
     cases len with
     | zero =>
       cases cap with
       | zero=>exact .inl rfl
       | succ=>exact lO.elim
     | succ=>exact lO.elim
   | some a =>obtain⟨b,o,s⟩:=a;obtain⟨h1,_,_,h2,_⟩:=lO;simp only at h2;subst h2;exact .inr ⟨b,o,len,cap,rfl,h1⟩
 | _=>exact lO.elim
theorem TV {α:Type} [Inhabited α] (K:AK α) {H:Type} {enc:TypeId×Value->H} {W:World} {base:Nat} {sp:Nat->Bool} {held:Bool} {t e:TypeId} {ks:List FK} (ht:Tryz.prog.underlying t=some (.slice e)) (hc:Tryz.prog.cellsOf e=K.es) (hfl:pw Tryz.prog 12 e=some ks) (hks:ks.length=K.es)
 (atS:∀cs,gQ ks cs->∃a:α,cs=aF Nm.id (K.enc a)) (vD:∀(a:α) (j:Nat) (t:TypeId) (x:Value),(aF Nm.id (K.enc a))[j]?≠some (.iface t x)) {r:Reach} {b0:Nat} {v:Value} {d:DataW H} {ps:List MemPlace}
 (lO:Value.okWide Tryz.prog W r b0 t v) (hd:DataW.Trod enc Tryz.prog W base sp held t v d ps) {ad:Nat->Addr} (hs:∀k,k < 7->∃te ty p z,W.heap[k]?=some (.cells #[.iface te p] ty z)) :
 ∃(lc:Sx.m9) (l:List α),v=cH lc 0 l.length K.es /\ adx (zg W ad) K l lc (fun _=>False):=by
 obtain⟨fu,hfu⟩:=hd;rcases WD ht lO with rfl | ⟨b,o,len,cap,rfl,hlc⟩
 ·exact⟨⟨0,0,0⟩,[],rfl,fun k h=>h,fun w _=>⟨acX _,fun j v h=>(by simp [AK.aT] at h)⟩⟩
 ·rcases Deep.open_slice ht hfu with⟨h0,_⟩ | ⟨a,aim,ay0,m,n,D,Pl,hcs,hb,hl,hm,hmm,hx,hel⟩
  ·cases h0
  ·cases hcs;have each:∀i,i < len->∃x:α,∀k,k < K.es->W.cell? ((⟨b,o,none⟩:Addr).add (i * K.es+k))=(aF Nm.id (K.enc x))[k]?:=fun i hi=>by obtain⟨cs',h1,h2⟩:=hel i (by rw [hmm];split<;>omega);have hf:=wD 12 _ _ ks _ _ hfl h2 (by rw [hc,hks]);obtain⟨x,hx⟩:=atS cs' hf;obtain⟨_,_,h5⟩:=World.cells?_some h1;refine⟨x,fun k hk=>?_⟩;have:=h5 k (by rw [hc];exact hk);rw [Deep.add_add,hc] at this;rw [this,hx]
   obtain⟨f,hf⟩:=Deep.choose_lt each;refine⟨⟨b,o,cap+1⟩,(List.range len).map f,?_,fun k h=>h,fun w hw=>⟨?_,fun j v hj=>?_⟩⟩
   ·rw [vsDen_eq,if_neg (fun h=>by cases h.2)];simp
   ·rw [AK.jZ];simp only [af1,List.length_range,Nat.add_sub_cancel];exact ac2 _ hlc
   ·have hjl:j < len * K.es:=by have:=(aaS.1 hj).1;rw [AK.jZ] at this;simpa using this
    have kM:0 < K.es:=Nat.pos_of_ne_zero fun h=>by rw [h] at hjl;omega
    have hi:j / K.es < len:=(Nat.div_lt_iff_lt_mul kM).2 hjl;have hk:j % K.es < K.es:=Nat.mod_lt _ kM;have ej:j=(j / K.es) * K.es+j % K.es:=by rw [Nat.mul_comm];exact(Nat.div_add_mod _ _).symm
    have hg:=K.yY ((List.range len).map f) (j / K.es) (j % K.es) (by simpa using hi) hk;rw [<- ej,hj] at hg;have hfi:((List.range len).map f).getD (j / K.es) K.bK=f (j / K.es):=by simp [List.getD,hi]
    rw [hfi] at hg;have hW:=hf _ hi _ hk;rw [<- ej,<- hg] at hW;have hb3:¬b < 7:=fun h3=>by
     obtain⟨te,ty,p,z,hh⟩:=hs b h3;have eb:((⟨b,o,none⟩:Addr).add j).block=b:=by unfold Addr.add;split<;>rfl
     unfold World.cell? at hW;rw [eb,hh] at hW;simp only at hW;split at hW
     ·cases hW
     ·rcases Nat.eq_zero_or_pos ((⟨b,o,none⟩:Addr).add j).off with h0 | h0
      ·rw [h0] at hW;have hW:some (Value.iface te p)=some v:=hW;cases hW;exact vD _ _ _ _ hg.symm
      ·rw [Array.getElem?_eq_none (show 1<=_ from h0)] at hW;cases hW
    have hR:(zg W ad).R b=W.heap[b]?:=if_neg hb3;have eb:((⟨b,o,none⟩:Addr).add j).block=b:=by unfold Addr.add;split<;>rfl
    show w.cell? ((⟨b,o,none⟩:Addr).add j)=some v;cases hh:W.heap[b]? with
    | none =>unfold World.cell? at hW;rw [eb,hh] at hW;cases hW
    | some ob =>have:=hw b ob (by rw [hR,hh]);rw [<- hW];unfold World.cell?;rw [eb,hh,this]
def X0 (L:List (Sx.m9×AV)):Nm:=⟨fun n=>if n < 7 then⟨n,0,0⟩ else(L.map Prod.fst).getD (n - 7) ⟨0,0,0⟩,fun n k=>n < 7 /\ k=n⟩
theorem Mw (L:List (Sx.m9×AV)) {n:Nat} (h:n < 7):(X0 L).L n=⟨n,0,0⟩:=if_pos h
theorem ahG {σ:Sg} {lp:Lp} {f:FuncId} {args:List SV} {L:List (Sx.m9×AV)} {v:SV} {l':List AV} {W:World} (h:rT Tryz.prog (iu lp σ) f args (iQ Al (L.map Prod.snd)) v (iQ Al l')) (hv:∀ρ:Nm,v.ay ρ=.bool true)
 (hq:∀x∈L,∀w,σ.has w->(F6 σ).q x.2 x.1 (fun _=>False) w) (hs:σ.has W) (hR:∀k,k < 7->σ.R k=none)
 (hg:∀n,n < 7->W.heap[n]?=some (.cells #[.iface 229 (.pointer (some (σ n)))] 29 (0,0))) :
 Calls Tryz.prog f (args.map (SV.ay (X0 L))).toArray W fun e w'=>e=.returned (.bool true) /\ wm W w':=by
 have aom:∀n,Al[n]?=some true↔n < 7:=fun n=>by unfold Al;rw [afU];by_cases h:n < 7<;>simp [h]
 have get:∀n c,af (iQ Al (L.map Prod.snd)) n=some c->(n < 7 /\ c=.bN (.gH n)) \/ ∃x,L[n - 7]?=some x /\ 7<=n /\ c=.bN x.2:=fun n c h=>by
  unfold iQ at h;rw [bA,ij] at h;split at h
  ·obtain⟨h1,h2⟩:=(nH _ _ _ _ _).1 h;exact .inl ⟨(aom n).1 h1,by rw [h2,aby]⟩
  ·rename_i hn;obtain⟨a,h1,h2⟩:=(eW _ _ _).1 h;rw [aeG,aaT] at h1;obtain⟨x,h1,h3⟩:=h1;exact .inr ⟨x,h1,Nat.le_of_not_lt hn,by rw [h2,h3]⟩
 have fp:∀n c k,af (iQ Al (L.map Prod.snd)) n=some c->c.fp (X0 L) n k->n < 7 /\ k=n:=fun n c k h hk=>by
  rcases get n c h with⟨h1,rfl⟩ | ⟨x,h1,h2,rfl⟩
  ·have hk:n < 7 /\ k=n:=hk;exact⟨h1,hk.2⟩
  ·have hk:n < 7 /\ k=n:=hk;omega
 have hO:gF (iu lp σ) (X0 L) (iQ Al (L.map Prod.snd)) W:=by
  refine⟨⟨fun n c h=>?_,fun n m c d uv h h' k hk eh=>?_,fun g GU=>?_⟩,hs,fun n c k h hk=>?_⟩
  ·rcases get n c h with⟨h1,rfl⟩ | ⟨x,h1,h2,rfl⟩
   ·have e:(X0 L).L n=⟨n,0,0⟩:=Mw L (by omega);refine(u0 (N:=iu lp σ) (σ:=σ) rfl rfl _ _ _).2 ⟨fun k=>?_,?_⟩
    ·show (n < 7 /\ k=n)↔k=((X0 L).L n).b;rw [e];exact⟨fun hh=>hh.2,fun hh=>⟨by omega,hh⟩⟩
    ·rw [e];exact hg n h1
   ·have hm:x∈L:=aca h1;have e:(X0 L).L n=x.1:=by show (if n < 7 then _ else _)=_;rw [if_neg (by omega)];simp [List.getD,h1]
    have eS:(X0 L).S n=fun _=>False:=funext fun k=>propext ⟨fun hh=>by have hh:n < 7 /\ k=n:=hh;omega,fun hh=>hh.elim⟩;show (F6 σ).q x.2 ((X0 L).L n) ((X0 L).S n) W;rw [e,eS];exact hq x hm W hs
  ·obtain⟨a1,a2⟩:=fp n c k h hk;obtain⟨b1,b2⟩:=fp m d k h' eh;exact uv (a2.symm.trans b2)
  ·show ((X0 L).L g).b=g;rw [Mw L GU]
  ·obtain⟨a1,a2⟩:=fp n c k h hk;subst a2;exact hR k a1
 refine(h.2.2 _ W hO).mono ?_;rintro e w' ⟨ρ',rfl,Ny,hE⟩;refine⟨by rw [hv ρ'],⟨fun k hk=>?_,hE.os,hE.tape,hE.output,hE.size⟩⟩;by_cases e0:k < 7
 ·have eh:af (iQ Al l') k=some (.bN (.gH k)):=by unfold iQ;rw [bA,ij,if_pos (by rw [show Al.length=7 from List.length_replicate];exact e0)];exact(nH _ _ _ _ _).2 ⟨(aom k).2 e0,by rw [aby]⟩
  have hq':=(u0 (N:=iu lp σ) (σ:=σ) rfl rfl _ _ _).1 (Ny.q k _ eh);have hr0:ρ' k=k:=Ny.rU k (by show k < 7;omega);have this:w'.heap[ρ' k]?=some (.cells #[.iface 229 (.pointer (some (σ k)))] 29 (0,0)):=hq'.2;rw [hr0] at this;rw [this,hg k e0]
 ·refine hE.mW k hk fun n c h hf=>?_;obtain⟨a1,a2⟩:=fp n c k h hf;omega
theorem ajP (cs:List Value) (h:gQ [.int .i64,.int .i64,.int .i64,.int .i64] cs):∃a:O,cs=aF Nm.id (CR.enc a):=by
 match cs,h with
 | [.int _ a,.int _ b,.int _ c,.int _ d],h =>obtain⟨rfl,rfl,rfl,rfl,_⟩:=h;exact⟨⟨a,b,c,d⟩,rfl⟩
theorem ang (a:O) (j:Nat) (t:TypeId) (x:Value):(aF Nm.id (CR.enc a))[j]?≠some (.iface t x):=fun h=>by rcases j with _ | _ | _ | _ | j<;>cases h
section
def KX (σ:Sg) (a b:Addr):Prop:=a≠b /\ (∃c t,σ.R a.block=some (.cells c t (0,0))) /\ ∃c t,σ.R b.block=some (.cells c t (0,0))
theorem TS {W:World} {ad:Nat->Addr} (hg:∀n,n < 7->W.heap[n]?=some (.cells #[.iface 229 (.pointer (some (ad n)))] 29 (0,0))) {a:Addr} (hs:∃s,W.cell? a=some (.string s)):¬a.block < 7:=fun h3=>by
 obtain⟨s,hs⟩:=hs;have hh:=hg _ h3;unfold World.cell? at hs;rw [hh] at hs;simp only at hs;split at hs
 ·cases hs
 ·rcases Nat.eq_zero_or_pos a.off with h0 | h0
  ·rw [h0] at hs;have hs:some (Value.iface 229 (.pointer (some (ad a.block))))=some (Value.string s):=hs;cases hs
  ·rw [Array.getElem?_eq_none (show 1<=_ from h0)] at hs;cases hs
theorem XG {W:World} {ad:Nat->Addr} {ps:List MemPlace} (hg:∀n,n < 7->W.heap[n]?=some (.cells #[.iface 229 (.pointer (some (ad n)))] 29 (0,0))) {a b:Addr} (h1:MemPlace.cell a.block a.off∈ps) (h2:MemPlace.cell b.block b.off∈ps)
 (s1:∃s,W.cell? a=some (.string s)) (s2:∃s,W.cell? b=some (.string s)) (dE:a≠b) (hr:∀b off,MemPlace.cell b off∈ps->∃c t,W.heap[b]?=some (.cells c t (0,0))):KX (zg W ad) a b:=by
 have hR:∀c:Addr,(∃s,W.cell? c=some (.string s))->(zg W ad).R c.block=W.heap[c.block]?:=fun c hc=>if_neg (TS hg hc);exact⟨dE,by rw [hR a s1];exact hr _ _ h1,by rw [hR b s2];exact hr _ _ h2⟩
