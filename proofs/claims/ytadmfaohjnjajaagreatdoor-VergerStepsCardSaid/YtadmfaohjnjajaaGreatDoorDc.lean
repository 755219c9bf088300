import Derived.Test.YtadmfaohjnjajaaGreatDoorCa
import Derived.Test.YtadmfaohjnjajaaGreatDoorRd
set_option linter.unusedVariables false
set_option linter.unusedSimpArgs false
set_option maxHeartbeats 0
set_option maxRecDepth 100000
noncomputable section
namespace Go.Proofs.YtadmfaohjnjajaaGreatDoor
section
open Go Go.Sx Go.Proofs AH
section
variable {n:Nat} {e C:Int} {N:List Nt} {L k:Nat} {K:cr->AH->Prop} {m:au} {p:ai} {h:AH} {x:cr} {c:Cl}
theorem nT {Q:au->ai->Prop} {M:au} (hs:M.step≠0) (ha:M.acc=⟨1,0,0,24,ao,ao⟩) (E:EB n C N p h) (go:EB n C N p.cq h->dI n Q k (bV M ⟨p.read 0 24,true⟩) p.cq):dI n Q (k+1) M p :=
 iy hs (by rw [ha];exact qb fun e=>pB e) fun _=>go (iW E)
theorem pW {Q:au->ai->Prop} {M:au} {f:Int} {v:W} (hs:M.step≠0) (ha:M.acc=⟨2,0,0,f,ao,v⟩) (f1:18<=f) (f2:f < 85) (f3:f≠24) (E:EB n C N p h) (go:EB n C N (p.cq.fE 0 f v) h->(p.cq.fE 0 f v).read 0 24=p.read 0 24->dI n Q k (bV M ⟨ao,true⟩) (p.cq.fE 0 f v)):dI n Q (k+1) M p :=
 iy hs (by rw [ha];exact wx fun e=>pB e) fun w=>go (QF E f1 f2 f3 w) (Ys E f1 f2 f3)
theorem anh (I:RQ e N m) (he:1<=e /\ e<=5) (E:EB n C N p h) (hl:N.length<=L) (hk:c.aj=8) (hw:h.Wp c K):dI n (Fin n e C L K) 2 (aX m c) p:=by
 have J:=oa (c:=c) I
 unfold Wp at hw
 rw [if_neg (by omega),if_neg (by omega),if_neg (by omega),if_neg (by omega),if_pos hk] at hw
 obtain⟨k0,k1⟩:=hw
 have fin:∀{M:au} {p:ai} {b:Int} {o:W},RQ e N M->M.step=1->M.acc=⟨4,0,0,0,ao,o⟩->EB n C N p h->dI n (Fin n e C L K) 1 M p:=fun {M p b o} R hs ha E=>by
  have ea:p.aU M.acc=p.cq.alloc o.bS:=by rw [ha];rfl
  rcases Ya E o.bS with q | ⟨s,g,s1,fr,q1,q2⟩
  ·refine iy (by rw [hs];decide) (ea.trans q) fun w=>?_
   rw [tk1 hs]
   exact eh R (iW E) hl k0
  ·refine iy (x:=⟨⟨s,g,0,0,false⟩,true⟩) (p':=(p.cq.alloc o.bS).2) (by rw [hs];decide) (ea.trans (by rw [<- q1])) fun w=>?_
   rw [tk1 hs]
   exact eh R (q2 w) hl (k1 s g s1 fr)
 have a:m.ax=3 \/ m.ax=5->dI n (Fin n e C L K) 2 (aX m c) p:=fun h35=>by
  rw [ase hk h35]
  refine nT (by show (8:Int)≠0;decide) rfl E fun E1=>?_
  rw [tk8 rfl]
  exact fin (b:=0) ⟨J.en,J.me,J.th,J.no⟩ rfl rfl E1
 have b:m.ax=1 \/ m.ax=2 \/ m.ax=4->dI n (Fin n e C L K) 2 (aX m c) p:=fun arx=>by
  rw [asd hk arx]
  exact jf (fun _ _ h=>h) (by decide:1<=2) (fin (b:=0) ⟨J.en,J.me,J.th,J.no⟩ rfl rfl E)
 have:=I.en
 rcases Ov he with h | h | h | h | h
 ·exact b (by omega)
 ·exact b (by omega)
 ·exact a (by omega)
 ·exact b (by omega)
 ·exact a (by omega)
theorem xR {Q:au->ai->Prop} {M:au} {a:Ad} (hs:M.step≠0) (ha:M.acc=⟨1,a.s,a.g,a.f,ao,ao⟩) (hv:h.bG a) (E:EB n C N p h) (go:EB n C N p.cq h->dI n Q k (bV M ⟨h.rd a,true⟩) p.cq):dI n Q (k+1) M p :=
 iy (x:=⟨h.rd a,true⟩) (p':=p.cq) hs (by rw [ha];exact(qb (l5 E.ab hv)).trans (by rw [Bk E.ab hv])) fun _=>go (iW E)
theorem XZ (w:W):eqW w w=true:=by unfold eqW;simp
theorem af4 {v:Int} (h:1<=v):isZero (dX v)=false:=by
 unfold isZero dX
 simp
 omega
structure Q0 (e:Int) (N:List Nt) (c:Cl) (s:Int) (a:oU) (M:au):Prop extends RQ e N M where
 st:M.step=s
 ac:M.acc=a
 cl:M.call=c
def Od (a:Ad):oU:=⟨1,a.s,a.g,a.f,ao,ao⟩
theorem apU {M:au} (P:Q0 2 N c 5 (Od c.cW) M) (E:EB n C N p h) (hl:N.length<=L) (v:h.bG c.cW) (q:K ⟨h.rd c.cW,true⟩ h) (hg:M.holds.get c.i=dv (h.rd c.cW)):dI n (Fin n 2 C L K) (k+1) M p:=by
 refine xR (by rw [P.st];decide) P.ac v E fun E1=>?_
 rw [ajJ P.st P.en,P.cl]
 dsimp only
 rw [hg,XZ]
 cases (h.rd c.cW).af==0<;>exact eh P.toRQ E1 hl q
theorem apV {M:au} (P:Q0 2 N c 5 (Od c.cW) M) (E:EB n C N p h) (hl:N.length<=L) (v:h.bG c.cW) (q:K ⟨h.rd c.cW,true⟩ h) (hi:0<=c.i /\ c.i < 9):dI n (Fin n 2 C L K) (k+3) M p:=by
 refine xR (by rw [P.st];decide) P.ac v E fun E1=>?_
 rw [ajJ P.st P.en,P.cl,P.me]
 dsimp only
 cases gC (!((h.rd c.cW).af==0)) (!eqW (H9.get M.holds c.i) (dv (h.rd c.cW))) with
 | false=>exact eh P.toRQ E1 hl q
 | true =>
   refine pW (by show (7:Int)≠0;decide) rfl (by omega) (by omega) (by omega) E1 fun E2 _=>?_
   rw [tk7 rfl]
   exact apU ⟨⟨P.en,rfl,P.th,P.no⟩,rfl,rfl,rfl⟩ E2 hl v q (aev _ _ hi.1 hi.2)
theorem apR {M:au} (P:Q0 3 N c 6 (Od kG) M) (E:EB n C N p h) (hl:N.length<=L) (q:K ⟨M.word,true⟩ h) (hg:M.holds.get c.i=dX (p.read 0 24).bS):dI n (Fin n 3 C L K) (k+1) M p:=by
 refine nT (by rw [P.st];decide) P.ac E fun E1=>?_
 rw [ajI P.st P.en,P.cl]
 dsimp only
 rw [hg,af4 E.c1]
 rw [show ((dX (p.read 0 24).bS).bS==(p.read 0 24).bS)=true by simp [dX]]
 exact eh P.toRQ E1 hl q
theorem apS {M:au} (P:Q0 3 N c 5 (Od c.cW) M) (E:EB n C N p h) (hl:N.length<=L) (v:h.bG c.cW) (q:K ⟨h.rd c.cW,true⟩ h) (hg:M.holds.get c.i=dX (p.read 0 24).bS):dI n (Fin n 3 C L K) (k+2) M p:=by
 refine xR (by rw [P.st];decide) P.ac v E fun E1=>?_
 rw [ZL P.st (.inl P.en)]
 exact apR ⟨⟨P.en,P.me,P.th,P.no⟩,rfl,rfl,P.cl⟩ E1 hl q hg
theorem apQ {M:au} (P:Q0 3 N c 6 (Od kG) M) (E:EB n C N p h) (hl:N.length<=L) (v:h.bG c.cW) (q:K ⟨h.rd c.cW,true⟩ h) (hw:M.word=h.rd c.cW) (hi:0<=c.i /\ c.i < 9):dI n (Fin n 3 C L K) 4 M p:=by
 refine nT (by rw [P.st];decide) P.ac E fun E2=>?_
 rw [ajI P.st P.en,P.cl,P.me]
 dsimp only
 cases gC (!isZero (H9.get M.holds c.i)) ((H9.get M.holds c.i).bS==(p.read 0 24).bS) with
 | true=>exact eh P.toRQ E2 hl (by rw [hw];exact q)
 | false =>
   refine pW (by show (7:Int)≠0;decide) rfl (by omega) (by omega) (by omega) E2 fun E3 hc=>?_
   rw [tk7 rfl]
   refine apS (k:=0) ⟨⟨P.en,rfl,P.th,P.no⟩,rfl,rfl,rfl⟩ E3 hl v q ?_
   show (H9.put M.holds c.i (dX (p.read 0 24).bS)).get c.i=_
   rw [aev _ _ hi.1 hi.2,hc];rfl
theorem apT {M:au} (P:Q0 3 N c 5 (Od c.cW) M) (E:EB n C N p h) (hl:N.length<=L) (v:h.bG c.cW) (q:K ⟨h.rd c.cW,true⟩ h) (hi:0<=c.i /\ c.i < 9):dI n (Fin n 3 C L K) 5 M p:=by
 refine xR (by rw [P.st];decide) P.ac v E fun E1=>?_
 rw [ZL P.st (.inl P.en)]
 exact apQ ⟨⟨P.en,P.me,P.th,P.no⟩,rfl,rfl,P.cl⟩ E1 hl v q rfl hi
theorem apO {M:au} (P:Q0 5 N c 6 (Od kG) M) (E:EB n C N p h) (hl:N.length<=L) (q:K ⟨M.word,true⟩ h) (hg:M.span.is=true /\ M.span.Jy=(p.read 0 24).bS):dI n (Fin n 5 C L K) (k+1) M p:=by
 refine nT (by rw [P.st];decide) P.ac E fun E1=>?_
 rw [ajH P.st P.en]
 dsimp only
 rw [hg.1,hg.2,show ((p.read 0 24).bS==(p.read 0 24).bS)=true by simp]
 exact eh P.toRQ E1 hl q
theorem akR {M:au} (P:Q0 5 N c 5 (Od c.cW) M) (E:EB n C N p h) (hl:N.length<=L) (v:h.bG c.cW) (q:K ⟨h.rd c.cW,true⟩ h) (hg:M.span.is=true /\ M.span.Jy=(p.read 0 24).bS):dI n (Fin n 5 C L K) (k+2) M p:=by
 refine xR (by rw [P.st];decide) P.ac v E fun E1=>?_
 rw [ZL P.st (.inr P.en)]
 exact apO ⟨⟨P.en,P.me,P.th,P.no⟩,rfl,rfl,P.cl⟩ E1 hl q hg
theorem apN {M:au} (P:Q0 5 N c 6 (Od kG) M) (E:EB n C N p h) (hl:N.length<=L) (v:h.bG c.cW) (q:K ⟨h.rd c.cW,true⟩ h) (hw:M.word=h.rd c.cW):dI n (Fin n 5 C L K) 4 M p:=by
 refine nT (by rw [P.st];decide) P.ac E fun E2=>?_
 rw [ajH P.st P.en,P.me]
 dsimp only
 cases gC M.span.is (M.span.Jy==(p.read 0 24).bS) with
 | true=>exact eh P.toRQ E2 hl (by rw [hw];exact q)
 | false =>
   cases M.span.is with
   | true =>
     refine pW (by show (7:Int)≠0;decide) rfl (by decide) (by decide) (by decide) E2 fun E3 hc=>?_
     rw [tk7 rfl]
     exact akR (k:=0) ⟨⟨P.en,rfl,P.th,P.no⟩,rfl,by show Od M.call.cW=_;rw [P.cl],P.cl⟩ E3 hl v q ⟨rfl,(congrArg W.bS hc).symm⟩
   | false =>
     refine pW (by show (7:Int)≠0;decide) rfl (by decide) (by decide) (by decide) E2 fun E3 hc=>?_
     rw [tk7 rfl]
     exact akR (k:=0) ⟨⟨P.en,rfl,P.th,P.no⟩,rfl,by show Od M.call.cW=_;rw [P.cl],P.cl⟩ E3 hl v q ⟨rfl,(congrArg W.bS hc).symm⟩
theorem apP {M:au} (P:Q0 5 N c 5 (Od c.cW) M) (E:EB n C N p h) (hl:N.length<=L) (v:h.bG c.cW) (q:K ⟨h.rd c.cW,true⟩ h):dI n (Fin n 5 C L K) 5 M p:=by
 refine xR (by rw [P.st];decide) P.ac v E fun E1=>?_
 rw [ZL P.st (.inr P.en)]
 exact apN ⟨⟨P.en,P.me,P.th,P.no⟩,rfl,rfl,P.cl⟩ E1 hl v q rfl
theorem anj (I:RQ e N m) (he:1<=e /\ e<=5) (E:EB n C N p h) (hl:N.length<=L) (hk:c.aj=6) (hi:0<=c.i /\ c.i < 9) (hw:h.Wp c K):dI n (Fin n e C L K) 5 (aX m c) p:=by
 have J:=oa (c:=c) I
 unfold Wp at hw
 rw [if_pos (.inr hk)] at hw
 obtain⟨v,q⟩:=hw
 rw [bg6 hk]
 have P:Q0 e N c 5 (Od c.cW) (dY 5 c.cW (bX c (dz m))).m:=⟨⟨J.en,J.me,J.th,J.no⟩,rfl,rfl,rfl⟩
 generalize (dY 5 c.cW (bX c (dz m))).m=M at P
 have h14:e=1 \/ e=4->dI n (Fin n e C L K) 5 M p:=fun h14=>by
  refine xR (by rw [P.st];decide) P.ac v E fun E1=>?_
  rw [apc P.st (by rw [P.en];exact h14)]
  exact eh P.toRQ E1 hl q
 rcases Ov he with rfl | rfl | rfl | rfl | rfl
 ·exact h14 (.inl rfl)
 ·exact apV (k:=2) P E hl v q hi
 ·exact apT P E hl v q hi
 ·exact h14 (.inr rfl)
 ·exact apP P E hl v q
theorem anl (I:RQ e N m) (he:1<=e /\ e<=5) (E:EB n C N p h) (hl:N.length<=L) (hk:c.aj=1) (q:K ⟨ao,true⟩ h):dI n (Fin n e C L K) 2 (aX m c) p:=by
 have J:=oa (c:=c) I
 have a:m.ax=4 \/ m.ax=5->dI n (Fin n e C L K) 2 (aX m c) p:=fun h45=>by
  rw [asi hk h45]
  refine nT (by show (3:Int)≠0;decide) rfl E fun E1=>?_
  rw [tk3 rfl,show (dY 3 kG (bX c (dz m))).m.me=0 from I.me]
  refine pW (by show (2:Int)≠0;decide) rfl (by decide) (by decide) (by decide) E1 fun E2 _=>?_
  rw [tk2 rfl]
  exact eh ⟨J.en,rfl,J.th,J.no⟩ E2 hl q
 have b:m.ax=1 \/ m.ax=2 \/ m.ax=3->dI n (Fin n e C L K) 2 (aX m c) p:=fun ary=>by
  rw [ash hk ary]
  exact eh J E hl q
 have:=I.en
 rcases Ov he with h | h | h | h | h
 ·exact b (by omega)
 ·exact b (by omega)
 ·exact b (by omega)
 ·exact a (by omega)
 ·exact a (by omega)
theorem OK:∀{k:Nat} {j:Int} {M:au} {p:ai} {r:RT},r.m=M->RQ e N M->(e=2 \/ e=3)->EB n C N p h->N.length<=L->K ⟨ao,true⟩ h->0<=j->j+k=9->dI n (Fin n e C L K) k (qp cond NN RT.m r k j) p
 | 0,j,M,p,r,hr,R,he,E,hl,q,j0,jk=>by
   subst hr
   exact eh (m:=r.m) R E hl q
 | k+1,j,M,p,r,hr,R,he,E,hl,q,j0,jk=>by
   subst hr
   show dI n _ _ (cond (!isZero (H9.get r.m.holds j)) (uf NN RT.m 4 j ao {r with m:={r.m with index:=j}}) (qp cond NN RT.m r k (j+1))) _
   cases !isZero (H9.get r.m.holds j) with
   | false=>exact jf (fun _ _ h=>h) (by omega) (OK rfl R he E hl q (by omega) (by omega))
   | true =>
     show dI n _ _ (fA 4 ⟨2,0,0,25+r.m.me * 9+j,ao,ao⟩ {r with m:={r.m with index:=j,holds:=H9.put r.m.holds j ao}}).m _
     rw [R.me]
     refine pW (by show (4:Int)≠0;decide) rfl (by omega) (by omega) (by omega) E fun E1 _=>?_
     rw [tk4 rfl]
     have ei:(j+1).toNat=9 - k:=by omega
     show dI n _ k (m9 cond NN RT.m (j+1).toNat _) _
     unfold m9
     rw [if_neg (by show ¬(r.m.ax=4 \/ r.m.ax=5);rw [R.en];omega),if_pos (by show r.m.ax=2 \/ r.m.ax=3;rw [R.en];exact he),show 9 - (j+1).toNat=k by omega]
     exact OK rfl ⟨R.en,R.me,R.th,R.no⟩ he E1 hl q (by omega) (by omega)
theorem ank (I:RQ e N m) (he:1<=e /\ e<=5) (E:EB n C N p h) (hl:N.length<=L) (hk:c.aj=2) (q:K ⟨ao,true⟩ h):dI n (Fin n e C L K) 9 (aX m c) p:=by
 have J:=oa (c:=c) I
 rw [bg2 hk]
 unfold m9
 by_cases h45:(bX c (dz m)).m.ax=4 \/ (bX c (dz m)).m.ax=5
 ·rw [if_pos h45]
  show dI n _ _ (cond (!NG m.span) (fA 2 ⟨2,0,0,79+m.me,ao,ao⟩ {bX c (dz m) with m:={(bX c (dz m)).m with span:=⟨false,0,0⟩}}).m (dt ⟨ao,true⟩ (bX c (dz m))).m) _
  cases !NG m.span with
  | false=>exact eh J E hl q
  | true =>
    rw [I.me]
    refine pW (by show (2:Int)≠0;decide) rfl (by decide) (by decide) (by decide) E fun E1 _=>?_
    rw [tk2 rfl]
    exact eh ⟨J.en,J.me,J.th,J.no⟩ E1 hl q
 ·rw [if_neg h45]
  by_cases h23:(bX c (dz m)).m.ax=2 \/ (bX c (dz m)).m.ax=3
  ·rw [if_pos h23]
   exact OK (k:=9) rfl J (by have:=J.en;omega) E hl q (by decide) (by decide)
  ·rw [if_neg h23]
   exact eh J E hl q
end
end
section
open Go Go.Sx Go.Proofs AH
section
variable {n:Nat} {e C:Int} {N:List Nt} {L k:Nat} {K:cr->AH->Prop} {m:au} {p:ai} {h:AH} {x:cr} {c:Cl}
theorem o8 (E:EB n C N p h) {C':Int} (hc:C<=C'):EB n C' N p h:=⟨E.wf,E.ab,E.c1,Int.le_trans E.c2 hc,E.ns,E.nd,E.fl⟩
theorem Mj:∀{D N:List Nt} {r:RT} {p:ai},RQ e N r.m->r.m.aP=D->r.ld=D.length->(∀x∈D,x∈N)->(D.map Nt.af).Nodup->EB n C N p h->N.length<=L->K ⟨ao,true⟩ h->dI n (Fin n e C L K) D.length (rD r) p
 | [],N,r,p,R,hd,hl,hD,hn,E,hL,q=>by
   have e0:rD r=(dt ⟨ao,true⟩ r).m:=by unfold rD oO;rw [hl];rfl
   rw [e0]
   exact uV rfl ⟨N,h,⟨R.en,R.me,R.th,R.no⟩,E,hL,q⟩
 | y::D,N,r,p,R,hd,hl,hD,hn,E,hL,q=>by
   have e0:rD r=(fA 16 ⟨5,0,0,0,pD y,ao⟩ r).m:=by
    unfold rD oO
    rw [hl,hd,show ((((y::D).length:Nat):Int)==0)=false by rw [abn];simp only [beq_eq_false_iff_ne];omega]
    rfl
   rw [e0]
   obtain⟨i0,i1,i2⟩:=LM (hD y abw)
   have ex:N=N.take (eY y N).toNat++y::N.drop ((eY y N).toNat+1):=by
    have du:(eY y N).toNat < N.length:=by omega
    have hy:N[(eY y N).toNat]=y:=by
     rw [adX,abj du] at i2;exact i2
    conv=>lhs;rw [<- agU (eY y N).toNat N,List.drop_eq_getElem_cons du,hy]
   generalize hN':N.take (eY y N).toNat++N.drop ((eY y N).toNat+1)=N'
   have sub:N'.Sublist N:=by
    rw [<- hN',ex]
    simp only [<- ex]
    exact(List.Sublist.refl _).append (List.sublist_cons_self _ _) |>.trans (by rw [<- ex];exact List.Sublist.refl _)
   have ny:y.af ∉ N'.map Nt.af:=by
    have nd:=E.nd
    rw [ex,aen,abv,agd,aem] at nd
    obtain⟨_,⟨n1,_⟩,n2⟩:=nd
    rw [<- hN',aen,aec]
    rintro (hm | hm)
    ·exact n2 _ hm _ abw rfl
    ·exact n1 hm
   rw [abv,aem] at hn
   refine iy (k:=D.length) (x:=(p.aU ⟨5,0,0,0,pD y,ao⟩).1) (p':=(p.aU ⟨5,0,0,0,pD y,ao⟩).2) (by show (16:Int)≠0;decide) rfl fun w=>?_
   have E1:=abZ E (hD y abw) sub ny w
   have e1:bV (fA 16 ⟨5,0,0,0,pD y,ao⟩ r).m (p.aU ⟨5,0,0,0,pD y,ao⟩).1=Ez (fA 16 ⟨5,0,0,0,pD y,ao⟩ r).m:=by
    unfold bV
    rw [if_neg (by show ¬(16:Int)=13;decide),if_neg (by show ¬(16:Int)=15;decide),if_pos (show (fA 16 ⟨5,0,0,0,pD y,ao⟩ r).m.step=16 from rfl)]
   rw [e1]
   unfold Ez
   have en:(fA 16 ⟨5,0,0,0,pD y,ao⟩ r).m.notes=N:=R.no
   have ed:(fA 16 ⟨5,0,0,0,pD y,ao⟩ r).m.aP=y::D:=hd
   rw [en,ed,show (y::D).getD 0 bj.bR=y from rfl,hN']
   refine Mj (D:=D) (N:=N') ⟨R.en,R.me,R.th,rfl⟩ rfl rfl (fun z hz=>?_) hn.2 E1 (abL sub.length_le hL) q
   have hz2:=hD z (aby _ hz)
   rw [ex] at hz2
   rw [<- hN']
   simp only [aec,abk] at hz2 ⊢
   rcases hz2 with hz2 | rfl | hz2
   ·exact .inl hz2
   ·exact absurd (ad9 (f:=Nt.af) hz) hn.1
   ·exact .inr hz2
theorem Yc (m:au):(ER m).Sublist m.notes:=by
 unfold ER fr1 fr2 fr3 fr4 gO
 split
 ·exact aeW
 ·split
  ·exact aeW
  ·split<;>exact aeW
theorem EK (R:RQ e N m) (E:EB n C N p h) (hL:N.length<=L) (q:K ⟨ao,true⟩ h):dI n (Fin n e C L K) N.length (kL m) p:=by
 have s:=Yc m
 rw [R.no] at s
 unfold kL
 exact jf (fun _ _ h=>h) s.length_le (Mj (D:=ER m) (N:=N) ⟨R.en,R.me,R.th,R.no⟩ rfl rfl (fun x hx=>s.subset hx) (E.nd.sublist (s.map _)) E hL q)
theorem EL {Q:au->ai->Prop} {M:au} {f:Int} (hs:M.step≠0) (ha:M.acc=⟨1,0,0,f,ao,ao⟩) (E:EB n C N p h) (go:EB n C N p.cq h->dI n Q k (bV M ⟨p.read 0 f,true⟩) p.cq):dI n Q (k+1) M p :=
 iy (x:=⟨p.read 0 f,true⟩) (p':=p.cq) hs (by rw [ha];exact qb fun e=>pB e) fun _=>go (iW E)
theorem afk (hs:m.step=13):bV m x=D8 (IntKind.wrap .i64 (m.index+1)) (ko x.w (dz m)) (if m.ax=4 then cond (B7 m.clock.bS ((m.seen++[x.w]).map pT)) (fA 14 ⟨3,0,0,24,m.clock,fx m.clock 1⟩ (ko x.w (dz m))).m (dY 15 kG (ko x.w (dz m))).m else kL (ko x.w (dz m)).m):=by unfold bV;rw [if_pos hs]
theorem JK (he:e=2 \/ e=3):∀{k:Nat} {i:Int} {M:au} {p:ai} {f:Int},0<=i->i+k=8->RQ e N M->M.step=13->M.index=i->M.acc=⟨1,0,0,f,ao,ao⟩->EB n C N p h->N.length<=L->K ⟨ao,true⟩ h->dI n (Fin n e C L K) (k+1+N.length) M p
 | k,i,M,p,f,i0,ik,R,hs,hi,ha,E,hL,q=>by
   rw [show k+1+N.length=(k+N.length)+1 by omega]
   refine EL (by rw [hs];decide) ha E fun E1=>?_
   rw [afk hs,hi,if_neg (by rw [R.en];omega),show IntKind.wrap .i64 (i+1)=i+1 from ma (by omega)]
   unfold D8 kO
   rw [if_pos (by show M.ax=2 \/ M.ax=3;rw [R.en];exact he),show IntKind.wrap .i64 ((ko (p.read 0 f) (dz M)).m.cR * 9)=9 by show IntKind.wrap .i64 (M.cR * 9)=9;rw [R.th];decide]
   cases k with
   | zero =>
     rw [aaS (by omega:i+1>=9)]
     exact jf (fun _ _ h=>h) (by omega) (EK ⟨R.en,R.me,R.th,R.no⟩ E1 hL q)
   | succ k =>
     rw [aaZ (by omega:¬i+1>=9)]
     exact JK he (k:=k) (i:=i+1) (by omega) (by omega) ⟨R.en,R.me,R.th,R.no⟩ rfl rfl rfl E1 hL q
theorem apf (hs:m.step=14):bV m x=(dY 15 kG (dz m)).m:=by unfold bV kE;simp [oc,hs]<;>rfl
theorem ajK (hs:m.step=15):bV m x=kL {m with clock:=x.w}:=by unfold bV;simp [hs]
theorem apg (hs:m.step=12):bV m x=kO cond NN RT.m 0 {dz m with m:={m with clock:=x.w}} {m with clock:=x.w}:=by unfold bV kE;simp [oc,hs]<;>rfl
theorem QD {Q:au->ai->Prop} {M:au} {w:W} (hs:M.step≠0) (ha:M.acc=⟨3,0,0,24,w,fx w 1⟩) (E:EB n C N p h) (w1:1<=w.bS) (w2:w.bS<=C) (hC:C<=1000000) (go:∀x p',EB n (C+1) N p' h->dI n Q k (bV M x) p'):dI n Q (k+1) M p:=by
 have ea:=Fq (m:=p) (s:=0) (g:=0) (f:=24) (o:=w) (w:=fx w 1) fun e=>pB e
 have hw:(fx w 1).bS=w.bS+1:=by show IntKind.wrap .i64 (w.bS+1)=_;exact ma (by omega)
 cases hc:kM (p.read 0 24) w with
 | true=>rw [hc] at ea;exact iy hs (by rw [ha];exact ea) fun wf=>go _ _ (X9 E (by omega) (by omega) wf)
 | false=>rw [hc] at ea;exact iy hs (by rw [ha];exact ea) fun wf=>go _ _ (o8 (iW E) (by omega))
theorem Mi {r:RT} (R:RQ e N r.m) (he:1<=e /\ e<=5) (E:EB n C N p h) (hC:C<=1000000) (hL:N.length<=L) (q:K ⟨ao,true⟩ h):dI n (Fin n e (C+1) L K) (9+N.length) (sV cond NN RT.m r) p:=by
 have E0:=o8 E (show C<=C+1 by omega)
 unfold sV
 rcases Ov he with rfl | rfl | rfl | rfl | rfl
 ·rw [if_pos R.en]
  exact uV rfl ⟨N,h,⟨R.en,R.me,R.th,R.no⟩,E0,hL,q⟩
 ·rw [if_neg (by rw [R.en];decide),if_neg (by rw [R.en];decide)]
  unfold kO
  rw [if_pos (by rw [R.en];decide),R.th]
  exact JK (.inl rfl) (k:=8) (i:=0) (by decide) (by decide) ⟨R.en,R.me,R.th,R.no⟩ rfl rfl rfl E0 hL q
 ·rw [if_neg (by rw [R.en];decide),if_neg (by rw [R.en];decide)]
  unfold kO
  rw [if_pos (by rw [R.en];decide),R.th]
  exact JK (.inr rfl) (k:=8) (i:=0) (by decide) (by decide) ⟨R.en,R.me,R.th,R.no⟩ rfl rfl rfl E0 hL q
 ·rw [if_neg (by rw [R.en];decide),if_pos R.en,show 9+N.length=(8+N.length)+1 by omega]
  refine nT (by show (12:Int)≠0;decide) rfl E fun E1=>?_
  rw [apg rfl]
  unfold kO
  rw [if_neg (by show ¬(r.m.ax=2 \/ r.m.ax=3);rw [R.en];decide),show decide ((0:Int)>=(dY 12 kG r).m.cR)=false by show decide ((0:Int)>=r.m.cR)=false;rw [R.th];rfl]
  show dI n _ (8+N.length) (fA 13 ⟨1,0,0,79+0,ao,ao⟩ _).m _
  rw [show 8+N.length=(7+N.length)+1 by omega]
  refine EL (by show (13:Int)≠0;decide) rfl E1 fun E2=>?_
  rw [afk rfl]
  unfold D8 kO
  rw [if_neg (by show ¬(r.m.ax=2 \/ r.m.ax=3);rw [R.en];decide)]
  have again:∀{M:au} {p:ai} {j:Nat},N.length+1<=j->RQ 4 N M->M.step=15->M.acc=⟨1,0,0,24,ao,ao⟩->EB n (C+1) N p h->dI n (Fin n 4 (C+1) L K) j M p:=fun {M p j} hj S hs ha E=>by
   refine jf (fun _ _ h=>h) hj (nT (by rw [hs];decide) ha E fun E1=>?_)
   rw [ajK hs]
   exact EK ⟨S.en,S.me,S.th,S.no⟩ E1 hL q
  show dI n _ _ (cond (decide ((0:Int)+1>=r.m.cR)) (if r.m.ax=4 then cond (B7 (p.read 0 24).bS _) (fA 14 ⟨3,0,0,24,p.read 0 24,fx (p.read 0 24) 1⟩ _).m (dY 15 kG _).m else _) _) _
  rw [R.th,if_pos R.en]
  show dI n _ _ (cond (B7 (p.read 0 24).bS _) _ _) _
  cases B7 (p.read 0 24).bS _ with
  | true =>
    refine jf (fun _ _ h=>h) (by omega:(N.length+1)+1<=_) (QD (by show (14:Int)≠0;decide) rfl E2 E.c1 E.c2 hC fun x p' E3=>?_)
    rw [apf rfl]
    exact again (abV _) ⟨R.en,R.me,R.th,R.no⟩ rfl rfl E3
  | false=>exact again (by omega) ⟨R.en,R.me,R.th,R.no⟩ rfl rfl (o8 E2 (by omega))
 ·rw [if_neg (by rw [R.en];decide),if_neg (by rw [R.en];decide)]
  unfold kO
  rw [if_neg (by rw [R.en];decide),R.th]
  show dI n _ (9+N.length) (fA 13 ⟨1,0,0,79+0,ao,ao⟩ _).m _
  rw [show 9+N.length=(8+N.length)+1 by omega]
  refine EL (by show (13:Int)≠0;decide) rfl E0 fun E2=>?_
  rw [afk rfl]
  unfold D8 kO
  rw [if_neg (by show ¬(r.m.ax=2 \/ r.m.ax=3);rw [R.en];decide)]
  show dI n _ _ (cond (decide ((0:Int)+1>=r.m.cR)) (if r.m.ax=4 then _ else kL _) _) _
  rw [R.th,if_neg (by rw [R.en];decide)]
  show dI n _ _ (kL _) _
  exact jf (fun _ _ h=>h) (by omega) (EK ⟨R.en,R.me,R.th,R.no⟩ E2 hL q)
end
end
section
open Go Go.Sx Go.Proofs AH
section
variable {n:Nat} {e C:Int} {N:List Nt} {L k:Nat} {K:cr->AH->Prop} {m:au} {p:ai} {h:AH} {x:cr} {c:Cl}
theorem anK (hk:c.aj=10) (he:m.ax=2):aX m c=lI cond NN RT.m (Dy 0 0 (bX c (dz m))):=by unfold aX fz;simp [hk,bX,dz,he]<;>rfl
theorem anJ (hk:c.aj=10) (he:m.ax=4):aX m c=(dY 10 kG (bX c (dz m))).m:=by unfold aX fz jA;simp [hk,bX,dz,he]<;>rfl
theorem aeK (hk:c.aj=10) (he:m.ax=3 \/ m.ax=5):aX m c=(dY 9 ⟨c.cU.af,c.cU.gen,9⟩ (bX c (dz m))).m:=by unfold aX fz jA;rcases he with he | he<;>simp [hk,bX,dz,he]<;>rfl
theorem anI (hk:c.aj=10) (he:m.ax=1):aX m c=(dt ⟨ao,true⟩ (bX c (dz m))).m:=by unfold aX fz jA jM;simp [hk,bX,dz,he]<;>rfl
theorem asj (hk:c.aj=11) (he:1<=m.ax /\ m.ax<=5):aX m c=sV cond NN RT.m (bX c (dz m)):=by
 unfold aX fz jA sV jM
 rcases Ov he with he | he | he | he | he<;>simp [hk,bX,dz,he]<;>rfl
theorem tk9 (hs:m.step=9):bV m x=(dY 10 kG {dz m with m:={m with word:=x.w}}).m:=by unfold bV kE;simp [oc,hs]<;>rfl
theorem ajM (hs:m.step=10) (he:m.ax=3 \/ m.ax=5):bV m x=(fA 11 ⟨3,0,0,24,x.w,fx x.w 1⟩ (Dy m.word.bS x.w.bS {dz m with m:={m with clock:=x.w}})).m:=by unfold bV kE;rcases he with he | he<;>simp [oc,hs,he]<;>rfl
theorem ajL (hs:m.step=10) (he:m.ax=4):bV m x=lI cond NN RT.m (Dy m.word.bS x.w.bS {dz m with m:={m with clock:=x.w}}):=by unfold bV kE;simp [oc,hs,he]<;>rfl
theorem aph (hs:m.step=11):bV m x=lI cond NN RT.m (dz m):=by unfold bV kE;simp [oc,hs]<;>rfl
theorem AX {r:RT} (R:RQ e N r.m) (he:1<=e /\ e<=5) (E:EB n C N p h) (hC:C<=1000000) (hL:N.length<=L) (q:K ⟨ao,true⟩ h):dI n (Fin n e (C+1) L K) (9+N.length) (lI cond NN RT.m r) p:=by
 unfold lI
 cases decide ((r.ln:Int)>=r.m.most) with
 | true=>exact Mi R he E hC hL q
 | false=>exact uV rfl ⟨N,h,⟨R.en,R.me,R.th,R.no⟩,o8 E (by omega),hL,q⟩
theorem r35 (he:e=3 \/ e=5) (I:RQ e N m) (E:EB n C N p h) (hC:C<=900000) (hl:N.length+1<=L) (s1:1<=c.cU.af) (sl:h.lv c.cU.af c.cU.gen) (q:K ⟨ao,true⟩ (h.JM c.cU.af)):dI n (Fin n e (C+2) L K) (13+N.length) (dY 9 ⟨c.cU.af,c.cU.gen,9⟩ (bX c (dz m))).m p:=by
 have J:=oa (c:=c) I
 have P:Q0 e N c 9 ⟨1,c.cU.af,c.cU.gen,9,ao,ao⟩ (dY 9 ⟨c.cU.af,c.cU.gen,9⟩ (bX c (dz m))).m:=⟨⟨J.en,J.me,J.th,J.no⟩,rfl,rfl,rfl⟩
 generalize (dY 9 ⟨c.cU.af,c.cU.gen,9⟩ (bX c (dz m))).m=M at P
 have hs:∀e,p.kK c.cU.af c.cU.gen e=none:=fun e=>by
  obtain⟨q1,q2,q3⟩:=E.ab.lv _ _ s1 sl
  unfold ai.kK
  rw [if_neg (by omega),if_neg (by rw [q2];decide),if_pos q3]
 rw [show 13+N.length=(12+N.length)+1 by omega]
 refine iy (x:=⟨p.read c.cU.af 9,true⟩) (p':=p.cq) (by rw [P.st];decide) (by rw [P.ac];exact qb hs) fun _=>?_
 have E1:=iW E
 rw [tk9 P.st]
 have P2:Q0 e N c 10 (Od kG) (dY 10 kG {dz M with m:={M with word:=p.read c.cU.af 9}}).m:=⟨⟨P.en,P.me,P.th,P.no⟩,rfl,rfl,P.cl⟩
 generalize (dY 10 kG {dz M with m:={M with word:=p.read c.cU.af 9}}).m=M2 at P2
 rw [show 12+N.length=(11+N.length)+1 by omega]
 refine nT (by rw [P2.st];decide) P2.ac E1 fun E2=>?_
 rw [ajM P2.st (by rw [P2.en];exact he)]
 generalize hx:(⟨c.cU.af,c.cU.gen,0,0,false,M2.word.bS,(p.cq.read 0 24).bS⟩:Nt)=x
 have E3:=JL (x:=x) E2 (by rw [<- hx];exact s1) (by rw [<- hx];exact sl)
 have R3:RQ e (N++[x]) (fA 11 ⟨3,0,0,24,p.cq.read 0 24,fx (p.cq.read 0 24) 1⟩ (Dy M2.word.bS (p.cq.read 0 24).bS {dz M2 with m:={M2 with clock:=p.cq.read 0 24}})).m:=⟨P2.en,P2.me,P2.th,by
  show M2.notes++[⟨M2.call.cU.af,M2.call.cU.gen,0,0,false,M2.word.bS,(p.cq.read 0 24).bS⟩]=_
  rw [P2.no,P2.cl,hx]⟩
 rw [show 11+N.length=(10+N.length)+1 by omega]
 refine QD (N:=N++[x]) (h:=h.JM c.cU.af) (C:=C) (by show (11:Int)≠0;decide) rfl (by have:=E3;rw [<- hx] at this ⊢;exact this) E1.c1 E1.c2 (by omega) fun y p' E4=>?_
 rw [aph rfl]
 have nl:(N++[x]).length=N.length+1:=by simp
 refine jf (fun m p ⟨N,h,a,b,c,d⟩=>⟨N,h,a,o8 b (by omega),c,d⟩) (by rw [nl];omega:9+(N++[x]).length<=_) (AX (C:=C+1) (N:=N++[x]) ⟨R3.en,R3.me,R3.th,R3.no⟩ (by omega) E4 (by omega) (by rw [nl];exact hl) q)
theorem ahF (I:RQ e N m) (he:1<=e /\ e<=5) (E:EB n C N p h) (hC:C<=900000) (hl:N.length+1<=L) (hk:c.aj=10) (hw:h.Wp c K):dI n (Fin n e (C+2) L K) (13+N.length) (aX m c) p:=by
 have J:=oa (c:=c) I
 unfold Wp at hw
 rw [if_neg (by omega),if_neg (by omega),if_neg (by omega),if_neg (by omega),if_neg (by omega),if_pos (.inr hk)] at hw
 obtain⟨s1,sl,q⟩:=hw
 have nl:∀{x:Nt},(N++[x]).length=N.length+1:=fun {x}=>by simp
 have mono:∀{j:Nat} {M:au} {p:ai},j<=13+N.length->dI n (Fin n e (C+1) L K) j M p->dI n (Fin n e (C+2) L K) (13+N.length) M p:=fun hj hh=>jf (fun m p ⟨N,h,a,b,c,d⟩=>⟨N,h,a,o8 b (by omega),c,d⟩) hj hh
 have en:=I.en
 rcases Ov he with rfl | rfl | rfl | rfl | rfl
 ·rw [anI hk en]
  refine eh J ⟨E.wf,Ft E.ab,E.c1,Int.le_trans E.c2 (by omega),fun x hx=>?_,E.nd,E.fl⟩ (by omega) q
  obtain⟨a,b,d,f⟩:=E.ns x hx
  exact⟨a,b,d,fun g' q=>f g' q.2⟩
 ·rw [anK hk en]
  have E1:=JL (x:=⟨c.cU.af,c.cU.gen,0,0,false,0,0⟩) E s1 sl
  exact mono (by rw [nl];omega) (AX (N:=N++[⟨c.cU.af,c.cU.gen,0,0,false,0,0⟩]) ⟨J.en,J.me,J.th,by show m.notes++_=_;rw [I.no];rfl⟩ he E1 (by omega) (by rw [nl];exact hl) q)
 ·rw [aeK hk (.inl en)]
  exact r35 (.inl rfl) I E hC hl s1 sl q
 ·rw [anJ hk en,show 13+N.length=(12+N.length)+1 by omega]
  have P:Q0 4 N c 10 (Od kG) (dY 10 kG (bX c (dz m))).m:=⟨⟨J.en,J.me,J.th,J.no⟩,rfl,rfl,rfl⟩
  generalize (dY 10 kG (bX c (dz m))).m=M at P
  refine nT (by rw [P.st];decide) P.ac E fun E0=>?_
  rw [ajL P.st P.en]
  have E1:=JL (x:=⟨c.cU.af,c.cU.gen,0,0,false,M.word.bS,(p.read 0 24).bS⟩) E0 s1 sl
  refine jf (fun m p ⟨N,h,a,b,c,d⟩=>⟨N,h,a,o8 b (by omega),c,d⟩) (by rw [nl];omega:9+(N++[(⟨c.cU.af,c.cU.gen,0,0,false,M.word.bS,(p.read 0 24).bS⟩:Nt)]).length<=_) (AX (N:=N++[⟨c.cU.af,c.cU.gen,0,0,false,M.word.bS,(p.read 0 24).bS⟩]) ⟨P.en,P.me,P.th,?_⟩ he E1 (by omega) (by rw [nl];exact hl) q)
  show M.notes++[⟨M.call.cU.af,M.call.cU.gen,0,0,false,M.word.bS,(p.read 0 24).bS⟩]=_
  rw [P.no,P.cl]
 ·rw [aeK hk (.inr en)]
  exact r35 (.inr rfl) I E hC hl s1 sl q
theorem afZ {i j:Int} (h:uw i j):0<=i /\ i < 9:=by unfold uw at h;omega
theorem X6 (I:RQ e N m) (he:1<=e /\ e<=5) (E:EB n C N p h) (hk:yN c) (h10:c.aj≠10) (hw:h.Wp c K):dI n (Fin n e C N.length K) (tq c.aj) (aX m c) p:=by
 by_cases k1:c.aj=3 \/ c.aj=4 \/ c.aj=5 \/ c.aj=9
 ·rw [show tq c.aj=1 by unfold tq;rw [if_neg (by omega),if_neg (by omega),if_neg (by omega)]]
  exact abX I E (abV _) k1 hw
 by_cases k6:c.aj=6
 ·rw [show tq c.aj=5 by rw [k6];rfl]
  refine anj I he E (abV _) k6 ?_ hw
  unfold yN at hk
  omega
 by_cases k7:c.aj=7
 ·rw [show tq c.aj=1 by rw [k7];rfl]
  refine ani I he E (abV _) k7 ?_ hw
  unfold yN at hk
  rcases hk with h | h | h | h | h | h | h | h | h | h | h
  all_goals first | exact afZ h.2 | omega
 by_cases k8:c.aj=8
 ·rw [show tq c.aj=2 by rw [k8];rfl]
  exact anh I he E (abV _) k8 hw
 exfalso
 unfold Wp at hw
 rw [if_neg (by omega),if_neg (by omega),if_neg (by omega),if_neg (by omega),if_neg (by omega),if_neg (by omega)] at hw
 exact hw
end
end
section
open Go Go.Sx Go.Proofs AH
def Y6 (n:Nat) (Q:az->ai->Prop):Nat->az->ai->Prop
 | 0,v,p=>v.bh=0 /\ Q v p
 | k+1,v,p=>(v.bh=0 /\ Q v p) \/ (v.bh≠0 /\ (tz (jH v p)=true->(gU v p).2.2.WF n->Y6 n Q k (gU v p).2.1 (gU v p).2.2))
section
variable {n:Nat} {Q:az->ai->Prop}
theorem UE {k:Nat} {v:az} {p:ai} (hd:v.bh=0) (q:Q v p):Y6 n Q k v p:=by
 cases k with
 | zero=>exact⟨hd,q⟩
 | succ k=>exact .inl ⟨hd,q⟩
theorem yt {Q':az->ai->Prop} (hQ:∀v p,Q v p->Q' v p):∀{k k':Nat} {v:az} {p:ai},k<=k'->Y6 n Q k v p->Y6 n Q' k' v p
 | 0,_,_,_,_,hh=>UE hh.1 (hQ _ _ hh.2)
 | k+1,0,_,_,hle,_=>by omega
 | k+1,k'+1,v,p,hle,hh=>by
   rcases hh with⟨a,b⟩ | ⟨a,b⟩
   ·exact .inl ⟨a,hQ _ _ b⟩
   ·exact .inr ⟨a,fun o w=>yt hQ (by omega) (b o w)⟩
theorem step_eq (v:az) (p:ai):(gU v p).2=(kH (jH v p),(p.aU (jB v.aQ).1).2):=by
 unfold gU qn qD
 have c:∀{b:Bool} {x y:Ch×az×ai} {q:az×ai},x.2=q->y.2=q->(cond b x y).2=q:=fun {b x y q} h1 h2=>by cases b<;>assumption
 repeat' first | exact rfl | apply c
theorem Sh {k:Nat} {v:az} (hd:v.bh≠0):∀{j:Nat} {m:au} {p:ai},dI n (fun m' p'=>∀g v',eJ cF g {v with aQ:=m'}=some (.exit 0,v')->Y6 n Q k v' p') j m p ->
 ∀g v',eJ cF g {v with aQ:=m}=some (.exit 0,v')->Y6 n Q (j+k) v' p
 | 0,m,p,hh,g,v',Eu=>yt (fun _ _ h=>h) (by omega) (hh.2 g v' Eu)
 | j+1,m,p,hh,g,v',Eu=>by
   rcases hh with⟨hs,hq⟩ | ⟨hs,hq⟩
   ·exact yt (fun _ _ h=>h) (by omega) (hq g v' Eu)
   ·have hb:iq m=true:=by unfold iq;simpa using hs
    have e:=vM Eu (by
     unfold cF eT
     rw [show ((({v with aQ:=m}:az).bh != 0)==true)=true by simpa using hd,show iq ({v with aQ:=m}:az).aQ=true from hb];rfl)
    subst e
    have ea:(jB m).1=m.acc:=by unfold jB;rw [hb];rfl
    have es:jH {v with aQ:=m} p={v with aQ:=bV m (p.aU m.acc).1}:=by
     unfold jH
     show {v with aQ:=bV m (p.aU (jB m).1).1}=_
     rw [ea]
    rw [show j+1+k=(j+k)+1 by omega]
    refine .inr ⟨hd,fun ho hw=>?_⟩
    have e2:=step_eq {v with aQ:=m} p
    have e3:(gU {v with aQ:=m} p).2.2=(p.aU m.acc).2:=by rw [e2];show (p.aU (jB m).1).2=_;rw [ea]
    have e4:(gU {v with aQ:=m} p).2.1=kH (jH {v with aQ:=m} p):=by rw [e2]
    rw [e3] at hw ⊢
    rw [e4]
    have Ca:=pq ho
    rw [es] at Ca ⊢
    exact Sh hd (hq hw) _ _ Ca
end
structure Dn (n:Nat) (e C:Int) (R:Nat) (s:Int) (Q:An->AH->Prop) (v:az) (p:ai):Prop where
 so:v.sort=s
 no:v.aQ.notes.length<=R
 q:∃N h,RQ e N v.aQ /\ EB n C N p h /\ Q v.answer h
section
variable {n:Nat} {e C:Int} {N:List Nt} {R:Nat} {s:Int} {Q:An->AH->Prop}
theorem Sv {g:Nat} {v:az} {y:Ex×az} (h:eJ cF g v=some y):∃r,(cF v).val=some r:=by
 cases g with
 | zero=>cases h
 | succ g =>
   simp only [eJ] at h
   split at h
   ·rename_i m hm;exact⟨_,hm⟩
   ·rename_i i m hm;exact⟨_,hm⟩
   ·rename_i m hm;exact⟨_,hm⟩
   ·cases h
theorem YE {m:au} (h:m.step=0):iq m=false:=by unfold iq;rw [h];rfl
theorem aeN {v v':az} {g:Nat} (hd:v.bh=3 \/ v.bh=4) (hs:v.aQ.step=0) (Eu:eJ cF g v=some (.exit 0,v')):v'={v with bh:=0}:=by
 obtain⟨g',h'⟩:=nA (v1:={v with bh:=0}) Eu fun r hr=>by
  unfold cF eT at hr
  rw [YE hs] at hr
  rcases hd with hd | hd<;>rw [hd] at hr<;>(cases hr;rfl)
 exact vM h' (by unfold cF eT;rfl)
theorem anM {v v':az} {g:Nat} {j:dU} (hd:v.bh=1 \/ v.bh=2) (hs:v.aQ.step=0) (hj:v.cC=some j) (Eu:eJ cF g v=some (.exit 0,v')) :
 ((j.next v.aQ.bz).1.aj=12 /\ ∃g',eJ cF g' {v with answer:=(j.next v.aQ.bz).1.p9,bh:=3,call:=fU,aQ:=aX v.aQ fU,cC:=some (j.next v.aQ.bz).2}=some (.exit 0,v')) \/
 ((j.next v.aQ.bz).1.aj≠12 /\ FW v.aQ (j.next v.aQ.bz).1=true /\ ∃g',eJ cF g' {v with bh:=2,call:=(j.next v.aQ.bz).1,aQ:=aX v.aQ (j.next v.aQ.bz).1,cC:=some (j.next v.aQ.bz).2}=some (.exit 0,v')):=by
 have hr:(cF v).val=(tN j.ok (fX tI tN Gr Ge v (j.next v.aQ.bz))).val:=by
  unfold cF eT
  rw [hj,YE hs]
  rcases hd with hd | hd<;>rw [hd]<;>rfl
 generalize j.next v.aQ.bz=r at hr ⊢
 by_cases hk:r.1.aj=12
 ·refine .inl ⟨hk,nA Eu fun y hy=>?_⟩
  rw [hr] at hy
  obtain⟨_,hy⟩:=aD hy
  unfold fX at hy
  rw [show (r.1.aj != 12)=false by simp [hk]] at hy
  obtain⟨_,hy⟩:=aD (hy:(T.aJ _ _).val=_)
  cases hy;rfl
 ·have hk2:(r.1.aj != 12)=true:=by simpa using hk
  refine .inr ⟨hk,?_,nA Eu fun y hy=>?_⟩
  ·obtain⟨y,hy⟩:=Sv Eu
   rw [hr] at hy
   obtain⟨_,hy⟩:=aD hy
   unfold fX at hy
   rw [hk2] at hy
   obtain⟨ok,hy⟩:=aD (hy:(T.aJ _ _).val=_)
   exact ok
  ·rw [hr] at hy
   obtain⟨_,hy⟩:=aD hy
   unfold fX at hy
   rw [hk2] at hy
   obtain⟨_,hy⟩:=aD (hy:(T.aJ _ _).val=_)
   cases hy;rfl
theorem RF {v:az} {p:ai} {h:AH} {m:au} (he:1<=e /\ e<=5) (hd:v.bh=3) (hs:v.sort=s) (I:RQ e N m) (E:EB n C N p h) (hR:N.length<=R) (q:Q v.answer h) {g:Nat} {v':az}
 (Eu:eJ cF g {v with aQ:=aX m fU}=some (.exit 0,v')):Y6 n (Dn n e C R s Q) 9 v' p:=by
 have h9:=ank (K:=fun x g=>g=h) (c:=fU) (L:=R) I he E hR rfl rfl
 refine Sh (k:=0) (v:=v) (by rw [hd];decide) (j:=9) (vZ (fun m' p' Ql hq=>?_) h9) g v' Eu
 intro g' v2 Ca
 obtain⟨N',h',I',E',hl,rfl⟩:=hq
 have e:=aeN (v:={v with aQ:=m'}) (.inl hd) Ql Ca
 subst e
 exact⟨rfl,hs,by show m'.notes.length<=R;rw [I'.no];exact hl,N',h',⟨I'.en,I'.me,I'.th,I'.no⟩,E',q⟩
theorem IU (he:1<=e /\ e<=5) (hR:R<=80) (hC:C<=900000):∀{f k:Nat} {b:Bool} {N:List Nt} {D:Int} {v v':az} {p:ai} {h:AH} {j:dU} {g:Nat},oT dU.next Q b f k h (j.next v.aQ.bz)->(v.bh=1 \/ v.bh=2)->v.sort=s->v.cC=some j->RQ e N v.aQ->v.aQ.step=0->EB n D N p h ->
 N.length+(cond b 1 0)<=R->D+(cond b 2 0)<=C->eJ cF g v=some (.exit 0,v')->Y6 n (Dn n e C R s Q) (k+9) v' p
 | 0,_,_,_,_,_,_,_,_,_,_,hh,_,_,_,_,_,_,_,_,_=>hh.elim
 | f+1,k,b,N,D,v,v',p,h,j,g,hh,hd,hs,hj,I,uO,E,hl,hD,Eu=>by
   have hN:N.length<=R:=by omega
   have hDC:D<=C:=by cases b<;>simp only [cond] at hD<;>omega
   rcases anM hd uO hj Eu with⟨k12,g',abx⟩ | ⟨k12,ok,g',abx⟩
   ·rcases hh with⟨_,q⟩ | ⟨_,⟨_,hw⟩ | ⟨_,_,hw⟩⟩
    ·exact yt (fun _ _ h=>h) (by omega) (RF (v:={v with answer:=(j.next v.aQ.bz).1.p9,bh:=3,call:=fU,cC:=some (j.next v.aQ.bz).2}) he rfl hs I (o8 E hDC) hN q abx)
    ·have:=Cj hw;simp [k12] at this
    ·have:=Cj hw;simp [k12] at this
   ·have Zh:yN (j.next v.aQ.bz).1:=(aaV (ok:decide _=true)).2.2
    generalize hr:j.next v.aQ.bz=r at *
    rcases hh with⟨e,_⟩ | ⟨hw,⟨h10,hK⟩ | ⟨h10,hb,hK⟩⟩
    ·exact absurd e k12
    ·have hc:=X6 I he E Zh h10 hK
     rw [show k+9=tq r.1.aj+(k - tq r.1.aj+9) by omega]
     refine Sh (v:={v with bh:=2,call:=r.1,cC:=some r.2}) (by show (2:Int)≠0;decide) (vZ (fun m' p' Ql hq=>?_) hc) g' v' abx
     intro g2 v2 Ca
     obtain⟨N',h',I',E',AM,q⟩:=hq
     exact IU he hR hC (v:={v with bh:=2,call:=r.1,cC:=some r.2,aQ:=m'}) q (.inr rfl) hs rfl I' Ql E' (by omega) hD Ca
    ·subst hb
     have Jw:N.length+1<=R:=hl
     have hD2:D+2<=C:=hD
     have hc:=ahF (L:=N.length+1) I he E (by omega) (abV _) h10 hK
     have asS:tq r.1.aj=100:=by rw [h10];rfl
     rw [show k+9=100+(k - tq r.1.aj+9) by omega]
     refine Sh (v:={v with bh:=2,call:=r.1,cC:=some r.2}) (by show (2:Int)≠0;decide) (vZ (fun m' p' Ql hq=>?_) (jf (fun _ _ h=>h) (by omega:13+N.length<=100) hc)) g' v' abx
     intro g2 v2 Ca
     obtain⟨N',h',I',E',AM,q⟩:=hq
     exact IU he hR hC (v:={v with bh:=2,call:=r.1,cC:=some r.2,aQ:=m'}) q (.inr rfl) hs rfl I' Ql E' (by show N'.length+0<=R;omega) (by show D+2+0<=C;omega) Ca
end
end
section
open Go Go.Sx Go.Proofs AH
variable {σ:Sg} {lp:Lp}
def u0:Cl:=⟨11,gX,ao,ao,0,0,⟨0,0⟩⟩
def IQ (bg:au->Cl->au) (v:az):az:={v with aQ:=bg v.aQ u0,bh:=4,call:=u0,op:=⟨0,0,0,0⟩,cC:=none,answer:=⟨0,0⟩}
def adu (σ:Sg) (G:CO) (F:xi):mK:=bA 55 (bP cJ bL (fZ Kb J2 gW (fun _ _=>none) (fun m _=>(iq m,m))))
 (bA 54 (bP cJ bL (fZ aCl B0 gW (fun m c=>some (G.Tv m c)) (fun m c=>((),G.bg m c))))
 (bA 29 (Q4 σ (bP cJ bL (G5 2 Kb FX (fun v _=>some (F.nr v)) fun v _=>(.ji [],tD F 0 v,[])))) ca))
def mSc:List Bool:=mkM 13
def Br (σ:Sg) (G:CO) (F:xi) (v:az):T (Option (SV×az)):=(Bs jr σ (adu σ G F) 13 mSc [.v (.c (.ptr 7 0))] [iD v] (fP AV.len qg (az.wr v))).map ab6
def KL (σ:Sg) (G:CO) (nr:az->Bool) (ad:az->az) (v:az):T (Option (SV×az)):=tI (v.bh != 0) (tN true (Qr σ v TD)) (tN (G.Tv v.aQ u0) (tN true (tN (nr (IQ G.bg v)) (tN true (Qq (ad (IQ G.bg v)))))))
theorem apA (σ:Sg) (G:CO) (F:xi) (v:az):Br σ G F {v with cC:=none}=KL σ G F.nr (tD F 0) {v with cC:=none}:=by kernel_rfl
theorem apz (σ:Sg) (G:CO) (F:xi) (v:az) (j:dr):Br σ G F {v with cC:=some (.dZ j)}=KL σ G F.nr (tD F 0) {v with cC:=some (.dZ j)}:=by kernel_rfl
theorem apy (σ:Sg) (G:CO) (F:xi) (v:az) (j:cY):Br σ G F {v with cC:=some (.dH j)}=KL σ G F.nr (tD F 0) {v with cC:=some (.dH j)}:=by kernel_rfl
theorem apx (σ:Sg) (G:CO) (F:xi) (v:az) (j:cM):Br σ G F {v with cC:=some (.lit j)}=KL σ G F.nr (tD F 0) {v with cC:=some (.lit j)}:=by kernel_rfl
theorem apw (σ:Sg) (G:CO) (F:xi) (v:az) (j:bW):Br σ G F {v with cC:=some (.ph j)}=KL σ G F.nr (tD F 0) {v with cC:=some (.ph j)}:=by kernel_rfl
theorem apv (σ:Sg) (G:CO) (F:xi) (v:az) (j:cd):Br σ G F {v with cC:=some (.oM j)}=KL σ G F.nr (tD F 0) {v with cC:=some (.oM j)}:=by kernel_rfl
theorem Z7 (σ:Sg) (G:CO) (F:xi) (v:az):Br σ G F v=KL σ G F.nr (tD F 0) v:=by
 obtain⟨so,en,ri,dg,cl,op,cC,an⟩:=v
 rcases cC with _ | ⟨j | j | j | j | j⟩
 ·exact apA σ G F ⟨so,en,ri,dg,cl,op,none,an⟩
 ·exact apz σ G F ⟨so,en,ri,dg,cl,op,none,an⟩ j
 ·exact apy σ G F ⟨so,en,ri,dg,cl,op,none,an⟩ j
 ·exact apx σ G F ⟨so,en,ri,dg,cl,op,none,an⟩ j
 ·exact apw σ G F ⟨so,en,ri,dg,cl,op,none,an⟩ j
 ·exact apv σ G F ⟨so,en,ri,dg,cl,op,none,an⟩ j
def rz (v:az):az:=kH (IQ aX v)
def DI (v:az):Prop:=v.bh=0 /\ FW v.aQ u0=true /\ tz (IQ aX v)=true
def Vc (qI:az->Bool) (sc:az->az) (args:List SV) (l:List AV):T (SV×List AV×List AV):=match args,l with
 | [.v (.c (.ptr 7 0))],[.tu v]=>.aJ (qI v) (.aE (.v (.c .fL),[.tu (sc v)],[]))
 | _,_=>.fail "Scan"
theorem Uk:dB Tryz.prog (NV σ) (adu σ JC (oN 0)):=aK vG (aK Fa (aK (aeM 0) bn))
theorem Z9:cD Tryz.prog (NV σ) 13 (bP cJ mSc (Vc (fun v=>iI (DI v)) rz)):=by
 refine gH dE (jC _) fun args l x l' nw h hl bM=>?_
 unfold Vc at h
 split at h
 ·rename_i v
  obtain⟨h1,h⟩:=aD h
  obtain⟨hd,hb,ha⟩:=gJ h1
  cases h
  have ho:(oN 0).nr (IQ aX v)=true:=by
   show (match tz (IQ aX v) with | true=>Nat.beq (cZ (IQ aX v)) 0 | false=>false)=true
   rw [ha];rfl
  have hv:(Br σ JC (oN 0) v).val=some (some (.v (.c .fL),rz v)):=by
   rw [Z7]
   unfold KL
   rw [hd]
   refine(nv hb).trans ((nv rfl).trans ((nv ho).trans ((nv rfl).trans ?_)))
   show some (some (SV.v (V1.c Cell.fL),tD _ _ _))=_
   rw [show JC.bg=aX from rfl,adK_eq ho];rfl
  obtain⟨y,g1,g2⟩:=dp hv
  rw [HW g2] at g1
  exact sK (ub ou (B3 Uk) (jC _) (a:=iD v) (K:=fP AV.len qg (az.wr v)) ⟨_,rfl⟩ (fun L S w hq=>(sW (N:=hP jr σ) rfl (by exact rfl) rfl L S w).1 hq) bM g1).1
 ·cases h
theorem Z8 {n:Int} (h0:0<=n) {K:Nat} {v:az} (hK:K+17<=100000) (h:v.WF n K) (hb:v.bh=0):DI v /\ (rz v).WF n (K+17) /\ (rz v).ml /\ (rz v).sort=v.sort:=by
 obtain⟨ob,rr⟩:=zw (c:=u0) h0 h.aQ (h.Xc hb) (.inr (.inr (.inr rfl))) (by omega)
 have hw:(IQ aX v).WF n (K+1) :=
  ⟨⟨h.kj.1,h.kj.2.1,.inl rfl⟩,⟨by show (0:Int)<=4;decide,by show (4:Int)<=4;decide⟩,rr.wf,rr.on,fun e=>absurd (show (4:Int)=0 from e) (by decide),fun e=>absurd (show (4:Int)=1 \/ (4:Int)=2 from e) (by decide)⟩
 obtain⟨a1,a2,a3,a4⟩:=O2 h0 (K:=K+1) (by omega) hw
 exact⟨⟨hb,ob,a1⟩,a2,a3,a4⟩
section
variable {n:Nat} {e C:Int} {N:List Nt} {R:Nat} {Q:An->AH->Prop}
theorem Vf {k:Nat} {v:az} {p:ai} {h:AH} {o:O} {D:Int} (he:1<=e /\ e<=5) (hR:R<=80) (hC:C<=900000) (I:RQ e N v.aQ) (E:EB n D N p h) (hl:N.length+1<=R) (hD:D+2<=C) (oI:tz (Ga aX v.sort.toNat v o)=true)
 (hj:lg Q k h ((uF v.sort.toNat o).next ⟨ao,true⟩)):Y6 n (Dn n e C R v.sort Q) (k+11) (xb v o) p:=by
 have h1:=anl (K:=fun x g=>x=⟨ao,true⟩ /\ g=h) (c:=nV) (L:=N.length) I he E (abV _) rfl ⟨rfl,rfl⟩
 rw [show k+11=2+(k+9) by omega]
 refine Sh (v:={v with bh:=1,call:=nV,op:=o,cC:=some (uF v.sort.toNat o),answer:=⟨0,0⟩}) (by show (1:Int)≠0;decide) (vZ (fun m' p' Ql hq=>?_) h1) _ _ (pq oI)
 intro g2 v2 Ca
 obtain⟨N',h',I',E',AM,q1,rfl⟩:=hq
 exact IU he hR hC (v:={v with bh:=1,call:=nV,op:=o,cC:=some (uF v.sort.toNat o),answer:=⟨0,0⟩,aQ:=m'}) (b:=true) (by show oT _ _ _ _ _ _ ((uF v.sort.toNat o).next m'.bz);rw [q1];exact hj) (.inl rfl) rfl rfl I' Ql E' (by show N'.length+1<=R;omega) hD Ca
theorem Ve {v:az} {p:ai} {h:AH} {D:Int} (he:1<=e /\ e<=5) (I:RQ e N v.aQ) (E:EB n D N p h) (hl:N.length<=R) (hD:D<=900000) (oI:tz (IQ aX v)=true) (q:Q ⟨0,0⟩ h):Y6 n (Dn n e (D+1) R v.sort Q) (9+N.length) (rz v) p:=by
 have h1:=Mi (K:=fun x g=>g=h) (r:=bX u0 (dz v.aQ)) (L:=R) ⟨I.en,I.me,I.th,I.no⟩ he E (by omega) hl rfl
 rw [<- asj rfl (by rw [I.en];exact he)] at h1
 refine Sh (k:=0) (v:={v with bh:=4,call:=u0,op:=⟨0,0,0,0⟩,cC:=none,answer:=⟨0,0⟩}) (by show (4:Int)≠0;decide) (vZ (fun m' p' Ql hq=>?_) h1) _ _ (pq oI)
 intro g2 v2 Ca
 obtain⟨N',h',I',E',AM,rfl⟩:=hq
 have e:=aeN (v:={v with bh:=4,call:=u0,op:=⟨0,0,0,0⟩,cC:=none,answer:=⟨0,0⟩,aQ:=m'}) (.inr rfl) Ql Ca
 subst e
 exact⟨rfl,rfl,by show m'.notes.length<=R;rw [I'.no];exact AM,N',h',⟨I'.en,I'.me,I'.th,I'.no⟩,E',q⟩
end
end
section
open Go Go.Sx Go.Proofs
def zE (f:Int) (w:W):oU:=⟨2,0,0,f,ao,w⟩
def pg:oU:=⟨4,0,0,0,ao,ao⟩
section
variable {β:Type} (I:Bool->β->β->β) (N:Bool->β->β) (fl:β)
def aa7 (f1 f2:Int) (w1 w2:W->W) (p:ai) (k:ai->β):β :=
 let r:=p.aU pg
 N (decide p.Ok) (I true (I (!r.1.ok) fl (N (decide r.2.Ok) (I (decide (r.2.bG (zE f1 (w1 r.1.w)))) (N (decide (r.2.aU (zE f1 (w1 r.1.w))).2.Ok)
   (I (decide ((r.2.aU (zE f1 (w1 r.1.w))).2.bG (zE f2 (w2 r.1.w)))) (k ((r.2.aU (zE f1 (w1 r.1.w))).2.aU (zE f2 (w2 r.1.w))).2) fl)) fl))) fl)
def agv (s:Nat) (p:ai) (k:ai->β):β:=match s with
 | 2=>aa7 I N fl 0 1 dv dv p k
 | 4=>aa7 I N fl 8 16 dv (fun _=>dX 1) p k
 | _=>k p
end
end
section
open Go Go.Sx Go.Proofs
theorem A4:∀{k:Nat} {x:N1},x∈tf k->1<=x.val /\ x.val<=(k:Int)
 | 0,x,h=>by cases h
 | k+1,x,h=>by
   rcases abk.1 h with rfl | h
   ·exact⟨by show 1<=((k+1:Nat):Int);omega,aef _⟩
   ·have:=A4 h;omega
theorem Mn:∀(k:Nat),((tf k).map N1.val).Nodup
 | 0=>List.nodup_nil
 | k+1=>by
   refine aem.2 ⟨fun h=>?_,Mn k⟩
   obtain⟨y,hy,e⟩:=adK.1 h
   have:=A4 hy
   have e:y.val=((k+1:Nat):Int):=e
   omega
theorem afF {k:Nat} {i:Nat}:(List.replicate k Tq).getD i gq.bR=Tq \/ (List.replicate k Tq).getD i gq.bR=gq.bR:=by
 rw [adX,agN]
 split
 ·exact .inl rfl
 ·exact .inr rfl
theorem xx {k:Nat} (hk:k<=1024):(nQ k).WF k:=by
 have hz:gD k ao:=aR (by omega)
 refine⟨hk,rfl,List.length_replicate,fun w hw=>?_,fun s hs=>?_,fun s hs w hw=>?_,fun x hx=>A4 hx,fun x hx=>?_,Mn k⟩
 ·rw [agY (show w∈List.replicate 85 ao from hw)];exact hz
 ·rw [agY (show s∈List.replicate k Tq from hs)];rfl
 ·rw [agY (show s∈List.replicate k Tq from hs)] at hw
  simp only [Tq,abk,abo,or_false] at hw
  rcases hw with rfl | rfl | rfl | rfl | rfl | rfl | rfl | rfl | rfl | rfl<;>exact hz
 ·show ((List.replicate k Tq).getD _ gq.bR).used=false
  rcases afF (k:=k) (i:=(x.val - 1).toNat) with h | h<;>rw [h]<;>rfl
theorem acK (p:ai) (f:Int) (w:W):p.aU (zE f w)=(⟨ao,true⟩,{p with steps:=cX p.steps,dO:=p.dO.set f.toNat w}):=rfl
theorem vw {n:Nat} {p:ai} (h:p.WF n) {f:Int} {w:W} (h0:0<=f) (h1:f < 85):p.bG (zE f w):=by
 show (if (2:Int)=1 \/ (2:Int)=2 \/ (2:Int)=3 then p.xJ 0 0 f else _)
 rw [if_pos (by decide)]
 unfold ai.xJ
 rw [if_pos rfl,h.lb]
 exact⟨rfl,h0,h1⟩
theorem IJ {n:Nat} {p:ai} (h:p.WF n) {f:Int} {w:W} (h0:0<=f) (h1:f < 85) (hw:gD n w):(p.aU (zE f w)).2.WF n :=
 (Bi (hd:=false) h (fun e=>by cases e) (vw h h0 h1) hw fun e=>by cases e).wf
theorem QX {n:Nat} {p:ai} (h:p.WF n) (hf:p.free.length≠0):(p.aU pg).1.ok=true /\ 1<=(p.aU pg).1.w.af /\ gD n (p.aU pg).1.w /\ (p.aU pg).2.WF n:=by
 have hv:p.bG pg:=by
  show (if (4:Int)=1 \/ (4:Int)=2 \/ (4:Int)=3 then _ else if (4:Int)=4 then True else _)
  rw [if_neg (by decide),if_pos rfl];trivial
 have ha:=Bi (hd:=false) h (fun e=>by cases e) hv (aR (by omega)) fun e=>by cases e
 have oI:(p.aU pg).1.ok=true:=by
  show (ai.alloc {p with steps:=cX p.steps} 0).1.ok=true
  unfold ai.alloc
  rw [if_neg (show ¬({p with steps:=cX p.steps}:ai).free.length=0 from hf)]
 exact⟨oI,ha.al rfl oI,ha.w,ha.wf⟩
theorem YL {s e i n no:Int} (hs:1<=s /\ s<=5) (he:1<=e /\ e<=5) (hn:1<=n /\ n<=6) (tC:1<=no /\ no<=64) (hi:0<=i /\ i < n):Fe (s,e,i,n,no)=false:=by
 unfold Fe zx
 dsimp only
 rw [aaZ (show ¬s < 1 by omega),aaZ (show ¬s > 5 by omega),aaZ (show ¬e < 1 by omega),aaZ (show ¬e > 5 by omega),aaZ (show ¬n < 1 by omega),aaZ (show ¬n > 6 by omega),
  aaZ (show ¬i < 0 by omega),aaZ (show ¬i>=n by omega),aaZ (show ¬no < 1 by omega),aaZ (show ¬no > 64 by omega)]
 rfl
