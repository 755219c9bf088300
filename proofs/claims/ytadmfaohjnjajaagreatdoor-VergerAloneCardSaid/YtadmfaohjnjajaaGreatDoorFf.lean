import Derived.Test.YtadmfaohjnjajaaGreatDoorFd
set_option linter.unusedVariables false
set_option linter.unusedSimpArgs false
set_option maxHeartbeats 0
set_option maxRecDepth 100000
noncomputable section
namespace Go.Proofs.YtadmfaohjnjajaaGreatDoor
open Go Go.Sx Go.Proofs AH
variable {σ:Sg}
def U1 (s:Int):Bool:=ll (decide (s < 1)) (decide (s > 5))
theorem adT (σ:Sg) (s:Int):(kG σ b9 14 bS (aI.enc s) []).map (sW Pv)=.ite (U1 s) (.fail "load") (.aE true (.aD (some ⟨s,[],[]⟩))):=by kernel_rfl
theorem UL:cE Tryz.prog (NV σ) 14 (bJ cL bS (qO aI Pv (fun s=>some (!(U1 s))) (fun s=>⟨s,[],[]⟩))) :=
 qX bp rfl fun s h=>⟨aI.enc s,rfl,fun _=>rfl,by
  have h:(!(U1 s))=true:=h;rw [adT];cases hb:U1 s with
  | true=>rw [hb] at h;cases h
  | false=>rfl⟩
def aff (F:U4):m7:=br 6 (bJ cL mAw QR) (br 7 (bJ cL mLd (RV F.XK F.ld)) (br 8 (bJ cL bS (qO aI5 EF (fun x=>some (!(F.Ax x))) F.mv))
 (br 14 (bJ cL bS (qO aI Pv (fun s=>some (!(U1 s))) (fun s=>⟨s,[],[]⟩))) (br 19 (bJ cL bS ajC) b9))))
theorem V3:dH Tryz.prog (NV σ) (aff CH):=aH aaj (aH MY (aH Hl (aH UL (aH ajB bp))))
def sI (k s:Int):Int:=1+Int.tmod (IntKind.wrap .u64 s) k
def TK (F:U4) (x:qE):ah:=F.ld (sI 5 x.a0) (sI 90 x.a3)
def zq (x:qE):Int×Int×Int×Int×Int:=(sI 5 x.a0,sI 5 x.a1,0,1,sI 9 x.a2)
def c0 (x:qE):aY:=⟨sI 5 x.a0,[],[]⟩
def anG (x:qE) (p:ah) (v:aA) (m:Hg) (c:Prop):Lp:=lK 5 12 (g12 x (sI 5 x.a0) p v (c0 x) m c) jE
def W8 (σ:Sg) (F:U4) (x:qE) (m:Hg) (c:Prop):T (SV×Hp AV) :=
 Q.lv (iu (anG x (TK F x) (F.mv (zq x)) m c) σ) (aff F) 24 (.fn 5) [.v (.agg (afH x)),.v (.c (.vs 7 0 x.no 4 false))] (iQ Al [.J3 x.bY])
def auF (x:qE) (s:Int) (p:ah) (v:aA) (c:aY):Prop:=SV.v (.c (.vs 7 0 x.no 4 false))=.v (.c (.vs 7 0 x.no 4 false)) /\ some s=some s /\ SV.v (.c (.ptr 9 0))=.v (.c (.ptr 9 0)) /\ SV.v (.c (.ptr 10 0))=.v (.c (.ptr 10 0)) /\ SV.v (.c (.ptr 11 0))=.v (.c (.ptr 11 0)) /\ SV.v (.c (.il .i64 (Int.ofNat 0)))=.v (.c (.il .i64 (Int.ofNat 0))) /\ Uo x p v c=Uo x p v c
theorem vaR (σ:Sg) (F:U4) (x:qE) (m:Hg) (c:Prop):W8 σ F x m c=.ite (decide ((x.no:Int) > 40)) (.aD (.v (.c (.bl true)),iQ Al [.J3 x.bY]))
 (.aE (F.XK (sI 5 x.a0) (sI 90 x.a3)) (.aE (!F.Ax (zq x)) (.aE (!U1 (sI 5 x.a0)) (.aE (iI (auF x (sI 5 x.a0) (TK F x) (F.mv (zq x)) (c0 x) /\ c)) (.aE (match m.p.fault with | none=>true | some _=>false) (.aD (.v (.c (.bl true)),iQ Al [.J3 x.bY]))))))):=by kernel_rfl
theorem Mq {k:Int} (hk:0 < k) (s:Int):1<=sI k s /\ sI k s<=k:=by
 have h:0<=IntKind.wrap .u64 s:=by unfold IntKind.wrap;simp only [IntKind.bits,IntKind.signed,Bool.false_and,Bool.false_eq_true,if_false];exact Int.emod_nonneg _ (by decide)
 have h1:0<=Int.tmod (IntKind.wrap .u64 s) k:=Int.tmod_nonneg _ h;have h2:Int.tmod (IntKind.wrap .u64 s) k < k:=Int.tmod_lt_of_pos _ hk;unfold sI;omega
def XF (x:qE):Hg:=HD (sI 5 x.a0) x x.bY.length ⟨0,TK CH x,qc (zq x),c0 x⟩
def YL (x:qE):Prop:=xO (sI 5 x.a0) (sI 5 x.a1) (sI 90 x.a3).toNat x ⟨0,TK CH x,qc (zq x),c0 x⟩
theorem agQ (σ:Sg) (x:qE) (hx:x.no=x.bY.length):(W8 σ CH x (XF x) (YL x)).val=some (.v (.c (.bl true)),iQ Al [.J3 x.bY]):=by
 rw [vaR,hx];have b0:=Mq (by decide:(0:Int) < 5) x.a0;have b1:=Mq (by decide:(0:Int) < 5) x.a1;have b2:=Mq (by decide:(0:Int) < 9) x.a2;have b3:=Mq (by decide:(0:Int) < 90) x.a3;by_cases h40:x.bY.length<=40
 ·have hI:YL x:=⟨acX _,h40,Ht b0 b1 ⟨b3.1,by omega⟩⟩;obtain⟨N,g,_,E,_⟩:=(PM b1 (f:=x.bY.length) (aby _) hI).2.2.2.q;have hf:(XF x).p.fault=none:=E.fl;refine(oY (aaK (by omega))).trans ((nv (aaC ⟨b0.1,b0.2,b3.1,by omega⟩)).trans ((nv (by show (!Gj (zq x))=true;unfold zq;rw [aah b0 b1 (by decide) (by omega) (by decide)];rfl)).trans ((nv ?_).trans ((nv (fh ⟨⟨rfl,rfl,rfl,rfl,rfl,rfl,rfl⟩,hI⟩)).trans ((nv (by rw [hf])).trans rfl)))));show (!ll (decide (sI 5 x.a0 < 1)) (decide (sI 5 x.a0 > 5)))=true;rw [aaK (by omega),aaK (by omega)];rfl
 ·exact(oX (aaC (by omega))).trans rfl
theorem anr (x:qE) (hx:x.no=x.bY.length):fO Tryz.prog (iu (anG x (TK CH x) (CH.mv (zq x)) (XF x) (YL x)) σ) :=
 lu nO (fn:=Tryz.f5) (by kernel_rfl) (c:=eG Tryz.f5) (by kernel_rfl) (nt:=212) (by kernel_rfl) (b:=A12) (cN (by kernel_rfl)) (ajz (σ:=σ) (N':=iu jE σ) rfl rfl (Mq (by decide:(0:Int) < 5) x.a1) hx (TK CH x) (qc (zq x)) (c0 x))
theorem yV (a0 a1 a2 a3:Int) (lc1:Sx.m9) (l1:List O) (ad:Nat->Addr) (W:World)
 (hq1:adx (zg W ad) CR l1 lc1 (fun _=>False))
 (hg:∀n,n < 7->W.heap[n]?=some (.cells #[.iface 229 (.pointer (some (ad n)))] 29 (0,0))) (ho:KX (zg W ad) (ad QF) (ad KY)) :
 Calls Tryz.prog 5 #[.agg #[.int .i64 a0,.int .i64 a1,.int .i64 a2,.int .i64 a3],cH lc1 0 l1.length 4] W fun e w'=>e=.returned (.bool true) /\ wm W w':=by
 have hv:=agQ (zg W ad) ⟨a0,a1,a2,a3,l1,l1.length⟩ rfl;unfold W8 at hv;rw [Q.lv_eq] at hv;have hC:=(adu (σ:=zg W ad) (anr (σ:=zg W ad) ⟨a0,a1,a2,a3,l1,l1.length⟩ rfl) (CJ V3) 24 5).ctr hv (qx.1 (by kernel_rfl)) ⟨jH.1 (by kernel_rfl),trivial⟩;have hJ:=ahG (L:=[(lc1,.J3 l1)]) (W:=W) (l':=[.J3 l1]) hC (fun ρ=>rfl) (fun x hx w hw=>?_) (WT W ad) (fun k hk=>if_pos hk) hg
 ·exact hJ
 ·simp only [aaO,aaR,or_false] at hx;rcases hx with rfl;exact(u0 (N:=NV (zg W ad)) (σ:=zg W ad) rfl rfl _ _ _).2 hq1
