import Derived.Test.YtadmfaohjnjajaaGreatDoorCa
set_option linter.unusedVariables false
set_option linter.unusedSimpArgs false
set_option maxHeartbeats 0
set_option maxRecDepth 100000
noncomputable section
namespace Go.Proofs.YtadmfaohjnjajaaGreatDoor
section
open Go Go.Sx Go.Proofs AH
section
variable {n:Nat} {e C:Int} {N:List Nt} {L k:Nat} {K:cJ->AH->Prop} {m:ax} {p:ah} {h:AH} {x:cJ} {c:Cl}
theorem ou (E:EB n C N p h) {C':Int} (hc:C<=C'):EB n C' N p h:=⟨E.wf,E.ab,E.c1,Int.le_trans E.c2 hc,E.ns,E.nd,E.fl⟩
theorem NU:∀{D N:List Nt} {r:RT} {p:ah},RQ e N r.m->r.m.aS=D->r.ld=D.length->(∀x∈D,x∈N)->(D.map Nt.ae).Nodup->EB n C N p h->N.length<=L->K ⟨aq,true⟩ h->dF n (Fin n e C L K) D.length (sF r) p
 | [],N,r,p,R,hd,hl,hD,hn,E,hL,q=>by
   have e0:sF r=(dA ⟨aq,true⟩ r).m:=by unfold sF pq;rw [hl];rfl
   rw [e0];exact vP rfl ⟨N,h,⟨R.en,R.me,R.th,R.no⟩,E,hL,q⟩
 | y::D,N,r,p,R,hd,hl,hD,hn,E,hL,q=>by
   have e0:sF r=(fF 16 ⟨5,0,0,0,p7 y,aq⟩ r).m:=by unfold sF pq;rw [hl,hd,show ((((y::D).length:Nat):Int)==0)=false by rw [aaQ];simp only [beq_eq_false_iff_ne];omega];rfl
   rw [e0];obtain⟨i0,i1,i2⟩:=Nh (hD y aaV);have ex:N=N.take (fz y N).toNat++y::N.drop ((fz y N).toNat+1):=by
    have hlt:(fz y N).toNat < N.length:=by omega
    have hy:N[(fz y N).toNat]=y:=by rw [ac7,aaN hlt] at i2;exact i2
    conv=>lhs;rw [<- af9 (fz y N).toNat N,List.drop_eq_getElem_cons hlt,hy]
   generalize hN':N.take (fz y N).toNat++N.drop ((fz y N).toNat+1)=N';have sub:N'.Sublist N:=by rw [<- hN',ex];simp only [<- ex];exact(List.Sublist.refl _).append (List.sublist_cons_self _ _) |>.trans (by rw [<- ex];exact List.Sublist.refl _)
   have ny:y.ae ∉ N'.map Nt.ae:=by
    have nd:=E.nd;rw [ex,adA,aaU,afN,ads] at nd;obtain⟨_,⟨n1,_⟩,n2⟩:=nd;rw [<- hN',adA,adg];rintro (hm | hm)
    ·exact n2 _ hm _ aaV rfl
    ·exact n1 hm
   rw [aaU,ads] at hn;refine iS (k:=D.length) (x:=(p.aV ⟨5,0,0,0,p7 y,aq⟩).1) (p':=(p.aV ⟨5,0,0,0,p7 y,aq⟩).2) (by show (16:Int)≠0;decide) rfl fun w=>?_;have E1:=adE E (hD y aaV) sub ny w;have e1:bX (fF 16 ⟨5,0,0,0,p7 y,aq⟩ r).m (p.aV ⟨5,0,0,0,p7 y,aq⟩).1=FE (fF 16 ⟨5,0,0,0,p7 y,aq⟩ r).m:=by unfold bX;rw [if_neg (by show ¬(16:Int)=13;decide),if_neg (by show ¬(16:Int)=15;decide),if_pos (show (fF 16 ⟨5,0,0,0,p7 y,aq⟩ r).m.step=16 from rfl)]
   rw [e1];unfold FE;have en:(fF 16 ⟨5,0,0,0,p7 y,aq⟩ r).m.notes=N:=R.no;have ed:(fF 16 ⟨5,0,0,0,p7 y,aq⟩ r).m.aS=y::D:=hd;rw [en,ed,show (y::D).getD 0 bx.bK=y from rfl,hN'];refine NU (D:=D) (N:=N') ⟨R.en,R.me,R.th,rfl⟩ rfl rfl (fun z hz=>?_) hn.2 E1 (abz sub.length_le hL) q;have hz2:=hD z (aaW _ hz);rw [ex] at hz2;rw [<- hN'];simp only [adg,aaO] at hz2 ⊢;rcases hz2 with hz2 | rfl | hz2
   ·exact .inl hz2
   ·exact absurd (adf (f:=Nt.ae) hz) hn.1
   ·exact .inr hz2
theorem ZI (m:ax):(FV m).Sublist m.notes:=by
 unfold FV fr1 fr2 fr3 fr4 ib;split
 ·exact afr
 ·split
  ·exact afr
  ·split<;>exact afr
theorem FQ (R:RQ e N m) (E:EB n C N p h) (hL:N.length<=L) (q:K ⟨aq,true⟩ h):dF n (Fin n e C L K) N.length (lF m) p:=by have s:=ZI m;rw [R.no] at s;unfold lF;exact jG (fun _ _ h=>h) s.length_le (NU (D:=FV m) (N:=N) ⟨R.en,R.me,R.th,R.no⟩ rfl rfl (fun x hx=>s.subset hx) (E.nd.sublist (s.map _)) E hL q)
theorem FR {Q:ax->ah->Prop} {M:ax} {f:Int} (hs:M.step≠0) (ha:M.acc=⟨1,0,0,f,aq,aq⟩) (E:EB n C N p h) (go:EB n C N p.cI h->dF n Q k (bX M ⟨p.read 0 f,true⟩) p.cI):dF n Q (k+1) M p :=
 iS (x:=⟨p.read 0 f,true⟩) (p':=p.cI) hs (by rw [ha];exact qD fun e=>pZ e) fun _=>go (jA E)
theorem ag2 (hs:m.step=13):bX m x=Fe (IntKind.wrap .i64 (m.index+1)) (kT x.w (dI m)) (if m.au=4 then cond (CQ m.clock.bU ((m.seen++[x.w]).map ql)) (fF 14 ⟨3,0,0,24,m.clock,fH m.clock 1⟩ (kT x.w (dI m))).m (eo 15 lz (kT x.w (dI m))).m else lF (kT x.w (dI m)).m):=by unfold bX;rw [if_pos hs]
theorem KH (he:e=2 \/ e=3):∀{k:Nat} {i:Int} {M:ax} {p:ah} {f:Int},0<=i->i+k=8->RQ e N M->M.step=13->M.index=i->M.acc=⟨1,0,0,f,aq,aq⟩->EB n C N p h->N.length<=L->K ⟨aq,true⟩ h->dF n (Fin n e C L K) (k+1+N.length) M p
 | k,i,M,p,f,i0,ik,R,hs,hi,ha,E,hL,q=>by
   rw [show k+1+N.length=(k+N.length)+1 by omega];refine FR (by rw [hs];decide) ha E fun E1=>?_;rw [ag2 hs,hi,if_neg (by rw [R.en];omega),show IntKind.wrap .i64 (i+1)=i+1 from mD (by omega)];unfold Fe lI;rw [if_pos (by show M.au=2 \/ M.au=3;rw [R.en];exact he),show IntKind.wrap .i64 ((kT (p.read 0 f) (dI M)).m.dk * 9)=9 by show IntKind.wrap .i64 (M.dk * 9)=9;rw [R.th];decide];cases k with
   | zero =>rw [aaC (by omega:i+1>=9)];exact jG (fun _ _ h=>h) (by omega) (FQ ⟨R.en,R.me,R.th,R.no⟩ E1 hL q)
   | succ k =>rw [aaK (by omega:¬i+1>=9)];exact KH he (k:=k) (i:=i+1) (by omega) (by omega) ⟨R.en,R.me,R.th,R.no⟩ rfl rfl rfl E1 hL q
theorem arF (hs:m.step=14):bX m x=(eo 15 lz (dI m)).m:=by unfold bX lk;simp [oH,hs]<;>rfl
theorem alV (hs:m.step=15):bX m x=lF {m with clock:=x.w}:=by unfold bX;simp [hs]
theorem arG (hs:m.step=12):bX m x=lI cond NN RT.m 0 {dI m with m:={m with clock:=x.w}} {m with clock:=x.w}:=by unfold bX lk;simp [oH,hs]<;>rfl
theorem So {Q:ax->ah->Prop} {M:ax} {w:W} (hs:M.step≠0) (ha:M.acc=⟨3,0,0,24,w,fH w 1⟩) (E:EB n C N p h) (w1:1<=w.bU) (w2:w.bU<=C) (hC:C<=1000000) (go:∀x p',EB n (C+1) N p' h->dF n Q k (bX M x) p'):dF n Q (k+1) M p:=by
 have ea:=Gx (m:=p) (s:=0) (g:=0) (f:=24) (o:=w) (w:=fH w 1) fun e=>pZ e;have hw:(fH w 1).bU=w.bU+1:=by show IntKind.wrap .i64 (w.bU+1)=_;exact mD (by omega)
 cases hc:lG (p.read 0 24) w with
 | true=>rw [hc] at ea;exact iS hs (by rw [ha];exact ea) fun wf=>go _ _ (ZF E (by omega) (by omega) wf)
 | false=>rw [hc] at ea;exact iS hs (by rw [ha];exact ea) fun wf=>go _ _ (ou (jA E) (by omega))
theorem ZC {r:RT} (R:RQ e N r.m) (he:1<=e /\ e<=5) (E:EB n C N p h) (hC:C<=1000000) (hL:N.length<=L) (q:K ⟨aq,true⟩ h):dF n (Fin n e (C+1) L K) (9+N.length) (xI cond NN RT.m r) p:=by
 have E0:=ou E (show C<=C+1 by omega);unfold xI;rcases Uz he with rfl | rfl | rfl | rfl | rfl
 ·rw [if_pos R.en];exact vP rfl ⟨N,h,⟨R.en,R.me,R.th,R.no⟩,E0,hL,q⟩
 ·rw [if_neg (by rw [R.en];decide),if_neg (by rw [R.en];decide)];unfold lI;rw [if_pos (by rw [R.en];decide),R.th];exact KH (.inl rfl) (k:=8) (i:=0) (by decide) (by decide) ⟨R.en,R.me,R.th,R.no⟩ rfl rfl rfl E0 hL q
 ·rw [if_neg (by rw [R.en];decide),if_neg (by rw [R.en];decide)];unfold lI;rw [if_pos (by rw [R.en];decide),R.th];exact KH (.inr rfl) (k:=8) (i:=0) (by decide) (by decide) ⟨R.en,R.me,R.th,R.no⟩ rfl rfl rfl E0 hL q
 ·rw [if_neg (by rw [R.en];decide),if_pos R.en,show 9+N.length=(8+N.length)+1 by omega];refine oq (by show (12:Int)≠0;decide) rfl E fun E1=>?_;rw [arG rfl];unfold lI;rw [if_neg (by show ¬(r.m.au=2 \/ r.m.au=3);rw [R.en];decide),show decide ((0:Int)>=(eo 12 lz r).m.dk)=false by show decide ((0:Int)>=r.m.dk)=false;rw [R.th];rfl];show dF n _ (8+N.length) (fF 13 ⟨1,0,0,79+0,aq,aq⟩ _).m _;rw [show 8+N.length=(7+N.length)+1 by omega];refine FR (by show (13:Int)≠0;decide) rfl E1 fun E2=>?_;rw [ag2 rfl];unfold Fe lI;rw [if_neg (by show ¬(r.m.au=2 \/ r.m.au=3);rw [R.en];decide)];have again:∀{M:ax} {p:ah} {j:Nat},N.length+1<=j->RQ 4 N M->M.step=15->M.acc=⟨1,0,0,24,aq,aq⟩->EB n (C+1) N p h->dF n (Fin n 4 (C+1) L K) j M p:=fun {M p j} hj S hs ha E=>by refine jG (fun _ _ h=>h) hj (oq (by rw [hs];decide) ha E fun E1=>?_);rw [alV hs];exact FQ ⟨S.en,S.me,S.th,S.no⟩ E1 hL q
  show dF n _ _ (cond (decide ((0:Int)+1>=r.m.dk)) (if r.m.au=4 then cond (CQ (p.read 0 24).bU _) (fF 14 ⟨3,0,0,24,p.read 0 24,fH (p.read 0 24) 1⟩ _).m (eo 15 lz _).m else _) _) _;rw [R.th,if_pos R.en];show dF n _ _ (cond (CQ (p.read 0 24).bU _) _ _) _;cases CQ (p.read 0 24).bU _ with
  | true =>refine jG (fun _ _ h=>h) (by omega:(N.length+1)+1<=_) (So (by show (14:Int)≠0;decide) rfl E2 E.c1 E.c2 hC fun x p' E3=>?_);rw [arF rfl];exact again (ab4 _) ⟨R.en,R.me,R.th,R.no⟩ rfl rfl E3
  | false=>exact again (by omega) ⟨R.en,R.me,R.th,R.no⟩ rfl rfl (ou E2 (by omega))
 ·rw [if_neg (by rw [R.en];decide),if_neg (by rw [R.en];decide)];unfold lI;rw [if_neg (by rw [R.en];decide),R.th];show dF n _ (9+N.length) (fF 13 ⟨1,0,0,79+0,aq,aq⟩ _).m _;rw [show 9+N.length=(8+N.length)+1 by omega];refine FR (by show (13:Int)≠0;decide) rfl E0 fun E2=>?_;rw [ag2 rfl];unfold Fe lI;rw [if_neg (by show ¬(r.m.au=2 \/ r.m.au=3);rw [R.en];decide)];show dF n _ _ (cond (decide ((0:Int)+1>=r.m.dk)) (if r.m.au=4 then _ else lF _) _) _;rw [R.th,if_neg (by rw [R.en];decide)];show dF n _ _ (lF _) _;exact jG (fun _ _ h=>h) (by omega) (FQ ⟨R.en,R.me,R.th,R.no⟩ E2 hL q)
end
end
section
open Go Go.Sx Go.Proofs AH
section
variable {n:Nat} {e C:Int} {N:List Nt} {L k:Nat} {K:cJ->AH->Prop} {m:ax} {p:ah} {h:AH} {x:cJ} {c:Cl}
theorem apZ (hk:c.aj=10) (he:m.au=2):bj m c=mb cond NN RT.m (Ep 0 0 (cC c (dI m))):=by unfold bj fW;simp [hk,cC,dI,he]<;>rfl
theorem apY (hk:c.aj=10) (he:m.au=4):bj m c=(eo 10 lz (cC c (dI m))).m:=by unfold bj fW j8;simp [hk,cC,dI,he]<;>rfl
theorem ago (hk:c.aj=10) (he:m.au=3 \/ m.au=5):bj m c=(eo 9 ⟨c.dy.ae,c.dy.gen,9⟩ (cC c (dI m))).m:=by unfold bj fW j8;rcases he with he | he<;>simp [hk,cC,dI,he]<;>rfl
theorem apX (hk:c.aj=10) (he:m.au=1):bj m c=(dA ⟨aq,true⟩ (cC c (dI m))).m:=by unfold bj fW j8 kU;simp [hk,cC,dI,he]<;>rfl
theorem tk9 (hs:m.step=9):bX m x=(eo 10 lz {dI m with m:={m with word:=x.w}}).m:=by unfold bX lk;simp [oH,hs]<;>rfl
theorem alX (hs:m.step=10) (he:m.au=3 \/ m.au=5):bX m x=(fF 11 ⟨3,0,0,24,x.w,fH x.w 1⟩ (Ep m.word.bU x.w.bU {dI m with m:={m with clock:=x.w}})).m:=by unfold bX lk;rcases he with he | he<;>simp [oH,hs,he]<;>rfl
theorem alW (hs:m.step=10) (he:m.au=4):bX m x=mb cond NN RT.m (Ep m.word.bU x.w.bU {dI m with m:={m with clock:=x.w}}):=by unfold bX lk;simp [oH,hs,he]<;>rfl
theorem arH (hs:m.step=11):bX m x=mb cond NN RT.m (dI m):=by unfold bX lk;simp [oH,hs]<;>rfl
theorem BD {r:RT} (R:RQ e N r.m) (he:1<=e /\ e<=5) (E:EB n C N p h) (hC:C<=1000000) (hL:N.length<=L) (q:K ⟨aq,true⟩ h):dF n (Fin n e (C+1) L K) (9+N.length) (mb cond NN RT.m r) p:=by
 unfold mb;cases decide ((r.ln:Int)>=r.m.most) with
 | true=>exact ZC R he E hC hL q
 | false=>exact vP rfl ⟨N,h,⟨R.en,R.me,R.th,R.no⟩,ou E (by omega),hL,q⟩
theorem r35 (he:e=3 \/ e=5) (I:RQ e N m) (E:EB n C N p h) (hC:C<=900000) (hl:N.length+1<=L) (s1:1<=c.dy.ae) (sl:h.lv c.dy.ae c.dy.gen) (q:K ⟨aq,true⟩ (h.KK c.dy.ae)):dF n (Fin n e (C+2) L K) (13+N.length) (eo 9 ⟨c.dy.ae,c.dy.gen,9⟩ (cC c (dI m))).m p:=by
 have J:=oG (c:=c) I;have P:SU e N c 9 ⟨1,c.dy.ae,c.dy.gen,9,aq,aq⟩ (eo 9 ⟨c.dy.ae,c.dy.gen,9⟩ (cC c (dI m))).m:=⟨⟨J.en,J.me,J.th,J.no⟩,rfl,rfl,rfl⟩;generalize (eo 9 ⟨c.dy.ae,c.dy.gen,9⟩ (cC c (dI m))).m=M at P;have hs:∀e,p.lE c.dy.ae c.dy.gen e=none:=fun e=>by obtain⟨q1,q2,q3⟩:=E.ab.lv _ _ s1 sl;unfold ah.lE;rw [if_neg (by omega),if_neg (by rw [q2];decide),if_pos q3]
 rw [show 13+N.length=(12+N.length)+1 by omega];refine iS (x:=⟨p.read c.dy.ae 9,true⟩) (p':=p.cI) (by rw [P.st];decide) (by rw [P.ac];exact qD hs) fun _=>?_;have E1:=jA E;rw [tk9 P.st];have P2:SU e N c 10 (PJ lz) (eo 10 lz {dI M with m:={M with word:=p.read c.dy.ae 9}}).m:=⟨⟨P.en,P.me,P.th,P.no⟩,rfl,rfl,P.cl⟩;generalize (eo 10 lz {dI M with m:={M with word:=p.read c.dy.ae 9}}).m=M2 at P2;rw [show 12+N.length=(11+N.length)+1 by omega];refine oq (by rw [P2.st];decide) P2.ac E1 fun E2=>?_;rw [alX P2.st (by rw [P2.en];exact he)];generalize hx:(⟨c.dy.ae,c.dy.gen,0,0,false,M2.word.bU,(p.cI.read 0 24).bU⟩:Nt)=x;have E3:=KJ (x:=x) E2 (by rw [<- hx];exact s1) (by rw [<- hx];exact sl);have R3:RQ e (N++[x]) (fF 11 ⟨3,0,0,24,p.cI.read 0 24,fH (p.cI.read 0 24) 1⟩ (Ep M2.word.bU (p.cI.read 0 24).bU {dI M2 with m:={M2 with clock:=p.cI.read 0 24}})).m:=⟨P2.en,P2.me,P2.th,by
  show M2.notes++[⟨M2.call.dy.ae,M2.call.dy.gen,0,0,false,M2.word.bU,(p.cI.read 0 24).bU⟩]=_;rw [P2.no,P2.cl,hx]⟩
 rw [show 11+N.length=(10+N.length)+1 by omega];refine So (N:=N++[x]) (h:=h.KK c.dy.ae) (C:=C) (by show (11:Int)≠0;decide) rfl (by have:=E3;rw [<- hx] at this ⊢;exact this) E1.c1 E1.c2 (by omega) fun y p' E4=>?_;rw [arH rfl];have nl:(N++[x]).length=N.length+1:=by simp
 refine jG (fun m p ⟨N,h,a,b,c,d⟩=>⟨N,h,a,ou b (by omega),c,d⟩) (by rw [nl];omega:9+(N++[x]).length<=_) (BD (C:=C+1) (N:=N++[x]) ⟨R3.en,R3.me,R3.th,R3.no⟩ (by omega) E4 (by omega) (by rw [nl];exact hl) q)
theorem ajD (I:RQ e N m) (he:1<=e /\ e<=5) (E:EB n C N p h) (hC:C<=900000) (hl:N.length+1<=L) (hk:c.aj=10) (hw:h.Wp c K):dF n (Fin n e (C+2) L K) (13+N.length) (bj m c) p:=by
 have J:=oG (c:=c) I;unfold Wp at hw;rw [if_neg (by omega),if_neg (by omega),if_neg (by omega),if_neg (by omega),if_neg (by omega),if_pos (.inr hk)] at hw;obtain⟨s1,sl,q⟩:=hw;have nl:∀{x:Nt},(N++[x]).length=N.length+1:=fun {x}=>by simp
 have mono:∀{j:Nat} {M:ax} {p:ah},j<=13+N.length->dF n (Fin n e (C+1) L K) j M p->dF n (Fin n e (C+2) L K) (13+N.length) M p:=fun hj hh=>jG (fun m p ⟨N,h,a,b,c,d⟩=>⟨N,h,a,ou b (by omega),c,d⟩) hj hh;have en:=I.en;rcases Uz he with rfl | rfl | rfl | rfl | rfl
 ·rw [apX hk en];refine eD J ⟨E.wf,Gz E.ab,E.c1,Int.le_trans E.c2 (by omega),fun x hx=>?_,E.nd,E.fl⟩ (by omega) q;obtain⟨a,b,d,f⟩:=E.ns x hx;exact⟨a,b,d,fun g' q=>f g' q.2⟩
 ·rw [apZ hk en];have E1:=KJ (x:=⟨c.dy.ae,c.dy.gen,0,0,false,0,0⟩) E s1 sl;exact mono (by rw [nl];omega) (BD (N:=N++[⟨c.dy.ae,c.dy.gen,0,0,false,0,0⟩]) ⟨J.en,J.me,J.th,by show m.notes++_=_;rw [I.no];rfl⟩ he E1 (by omega) (by rw [nl];exact hl) q)
 ·rw [ago hk (.inl en)];exact r35 (.inl rfl) I E hC hl s1 sl q
 ·rw [apY hk en,show 13+N.length=(12+N.length)+1 by omega];have P:SU 4 N c 10 (PJ lz) (eo 10 lz (cC c (dI m))).m:=⟨⟨J.en,J.me,J.th,J.no⟩,rfl,rfl,rfl⟩;generalize (eo 10 lz (cC c (dI m))).m=M at P;refine oq (by rw [P.st];decide) P.ac E fun E0=>?_;rw [alW P.st P.en];have E1:=KJ (x:=⟨c.dy.ae,c.dy.gen,0,0,false,M.word.bU,(p.read 0 24).bU⟩) E0 s1 sl;refine jG (fun m p ⟨N,h,a,b,c,d⟩=>⟨N,h,a,ou b (by omega),c,d⟩) (by rw [nl];omega:9+(N++[(⟨c.dy.ae,c.dy.gen,0,0,false,M.word.bU,(p.read 0 24).bU⟩:Nt)]).length<=_) (BD (N:=N++[⟨c.dy.ae,c.dy.gen,0,0,false,M.word.bU,(p.read 0 24).bU⟩]) ⟨P.en,P.me,P.th,?_⟩ he E1 (by omega) (by rw [nl];exact hl) q);show M.notes++[⟨M.call.dy.ae,M.call.dy.gen,0,0,false,M.word.bU,(p.read 0 24).bU⟩]=_;rw [P.no,P.cl]
 ·rw [ago hk (.inr en)];exact r35 (.inr rfl) I E hC hl s1 sl q
theorem ahM {i j:Int} (h:vh i j):0<=i /\ i < 9:=by unfold vh at h;omega
theorem NW (I:RQ e N m) (he:1<=e /\ e<=5) (E:EB n C N p h) (hk:yh c) (h10:c.aj≠10) (hw:h.Wp c K):dF n (Fin n e C N.length K) (uk c.aj) (bj m c) p:=by
 by_cases k1:c.aj=3 \/ c.aj=4 \/ c.aj=5 \/ c.aj=9
 ·rw [show uk c.aj=1 by unfold uk;rw [if_neg (by omega),if_neg (by omega),if_neg (by omega)]];exact adC I E (ab4 _) k1 hw
 by_cases k6:c.aj=6
 ·rw [show uk c.aj=5 by rw [k6];rfl];refine apz I he E (ab4 _) k6 ?_ hw;unfold yh at hk;omega
 by_cases k7:c.aj=7
 ·rw [show uk c.aj=1 by rw [k7];rfl];refine apy I he E (ab4 _) k7 ?_ hw;unfold yh at hk;rcases hk with h | h | h | h | h | h | h | h | h | h | h;all_goals first | exact ahM h.2 | omega
 by_cases k8:c.aj=8
 ·rw [show uk c.aj=2 by rw [k8];rfl];exact apx I he E (ab4 _) k8 hw
 exfalso;unfold Wp at hw;rw [if_neg (by omega),if_neg (by omega),if_neg (by omega),if_neg (by omega),if_neg (by omega),if_neg (by omega)] at hw;exact hw
end
end
section
open Go Go.Sx Go.Proofs AH
def StN (n:Nat) (Q:aA->ah->Prop):Nat->aA->ah->Prop
 | 0,v,p=>v.aO=0 /\ Q v p
 | k+1,v,p=>(v.aO=0 /\ Q v p) \/ (v.aO≠0 /\ (tz (eO v p)=true->(bo v p).2.2.WF n->StN n Q k (bo v p).2.1 (bo v p).2.2))
section
variable {n:Nat} {Q:aA->ah->Prop}
theorem Wr {k:Nat} {v:aA} {p:ah} (hd:v.aO=0) (q:Q v p):StN n Q k v p:=by
 cases k with
 | zero=>exact⟨hd,q⟩
 | succ k=>exact .inl ⟨hd,q⟩
theorem y8 {Q':aA->ah->Prop} (hQ:∀v p,Q v p->Q' v p):∀{k k':Nat} {v:aA} {p:ah},k<=k'->StN n Q k v p->StN n Q' k' v p
 | 0,_,_,_,_,hh=>Wr hh.1 (hQ _ _ hh.2)
 | k+1,0,_,_,hle,_=>by omega
 | k+1,k'+1,v,p,hle,hh=>by
   rcases hh with⟨a,b⟩ | ⟨a,b⟩
   ·exact .inl ⟨a,hQ _ _ b⟩
   ·exact .inr ⟨a,fun o w=>y8 hQ (by omega) (b o w)⟩
theorem step_eq (v:aA) (p:ah):(bo v p).2=(jI (eO v p),(p.aV (gw v.aP).1).2):=by
 unfold bo lW mJ;have c:∀{b:Bool} {x y:uf×aA×ah} {q:aA×ah},x.2=q->y.2=q->(cond b x y).2=q:=fun {b x y q} h1 h2=>by cases b<;>assumption
 repeat' first | exact rfl | apply c
theorem Yr {k:Nat} {v:aA} (hd:v.aO≠0):∀{j:Nat} {m:ax} {p:ah},dF n (fun m' p'=>∀g v',dK cd g {v with aP:=m'}=some (.exit 0,v')->StN n Q k v' p') j m p ->
 ∀g v',dK cd g {v with aP:=m}=some (.exit 0,v')->StN n Q (j+k) v' p
 | 0,m,p,hh,g,v',yS=>y8 (fun _ _ h=>h) (by omega) (hh.2 g v' yS)
 | j+1,m,p,hh,g,v',yS=>by
   rcases hh with⟨hs,hq⟩ | ⟨hs,hq⟩
   ·exact y8 (fun _ _ h=>h) (by omega) (hq g v' yS)
   ·have hb:gT m=true:=by unfold gT;simpa using hs
    have e:=sP yS (by
     unfold cd eF;rw [show ((({v with aP:=m}:aA).aO != 0)==true)=true by simpa using hd,show gT ({v with aP:=m}:aA).aP=true from hb];rfl)
    subst e;have ea:(gw m).1=m.acc:=by unfold gw;rw [hb];rfl
    have es:eO {v with aP:=m} p={v with aP:=bX m (p.aV m.acc).1}:=by unfold eO;show {v with aP:=bX m (p.aV (gw m).1).1}=_;rw [ea]
    rw [show j+1+k=(j+k)+1 by omega];refine .inr ⟨hd,fun ho hw=>?_⟩;have e2:=step_eq {v with aP:=m} p;have e3:(bo {v with aP:=m} p).2.2=(p.aV m.acc).2:=by rw [e2];show (p.aV (gw m).1).2=_;rw [ea]
    have e4:(bo {v with aP:=m} p).2.1=jI (eO {v with aP:=m} p):=by rw [e2]
    rw [e3] at hw ⊢;rw [e4];have yx:=kJ ho;rw [es] at yx ⊢;exact Yr hd (hq hw) _ _ yx
end
structure Dn (n:Nat) (e C:Int) (R:Nat) (s:Int) (Q:An->AH->Prop) (v:aA) (p:ah):Prop where
 so:v.sort=s
 no:v.aP.notes.length<=R
 q:∃N h,RQ e N v.aP /\ EB n C N p h /\ Q v.answer h
section
variable {n:Nat} {e C:Int} {N:List Nt} {R:Nat} {s:Int} {Q:An->AH->Prop}
theorem Uh {g:Nat} {v:aA} {y:Ex×aA} (h:dK cd g v=some y):∃r,(cd v).val=some r:=by
 cases g with
 | zero=>cases h
 | succ g =>
   simp only [dK] at h;split at h
   ·rename_i m hm;exact⟨_,hm⟩
   ·rename_i i m hm;exact⟨_,hm⟩
   ·rename_i m hm;exact⟨_,hm⟩
   ·cases h
theorem Qt {m:ax} (h:m.step=0):gT m=false:=by unfold gT;rw [h];rfl
theorem ap1 {v v':aA} {g:Nat} (hd:v.aO=3 \/ v.aO=4) (hs:v.aP.step=0) (yS:dK cd g v=some (.exit 0,v')):v'={v with aO:=0}:=by
 obtain⟨g',h'⟩:=nP (v1:={v with aO:=0}) yS fun r hr=>by unfold cd eF at hr;rw [Qt hs] at hr;rcases hd with hd | hd<;>rw [hd] at hr<;>(cases hr;rfl)
 exact sP h' (by unfold cd eF;rfl)
theorem agt {v v':aA} {g:Nat} {j:dV} (hd:v.aO=1 \/ v.aO=2) (hs:v.aP.step=0) (hj:v.cF=some j) (yS:dK cd g v=some (.exit 0,v')) :
 ((j.next v.aP.bD).1.aj=12 /\ ∃g',dK cd g' {v with answer:=(j.next v.aP.bD).1.qB,aO:=3,call:=gp,aP:=bj v.aP gp,cF:=some (j.next v.aP.bD).2}=some (.exit 0,v')) \/
 ((j.next v.aP.bD).1.aj≠12 /\ G5 v.aP (j.next v.aP.bD).1=true /\ ∃g',dK cd g' {v with aO:=2,call:=(j.next v.aP.bD).1,aP:=bj v.aP (j.next v.aP.bD).1,cF:=some (j.next v.aP.bD).2}=some (.exit 0,v')):=by
 have hr:(cd v).val=(tN j.ok (fM tI tN GN GW v (j.next v.aP.bD))).val:=by unfold cd eF;rw [hj,Qt hs];rcases hd with hd | hd<;>rw [hd]<;>rfl
 generalize j.next v.aP.bD=r at hr ⊢;by_cases hk:r.1.aj=12
 ·refine .inl ⟨hk,nP yS fun y hy=>?_⟩;rw [hr] at hy;obtain⟨_,hy⟩:=aC hy;unfold fM at hy;rw [show (r.1.aj != 12)=false by simp [hk]] at hy;obtain⟨_,hy⟩:=aC (hy:(T.aE _ _).val=_);cases hy;rfl
 ·have hk2:(r.1.aj != 12)=true:=by simpa using hk
  refine .inr ⟨hk,?_,nP yS fun y hy=>?_⟩
  ·obtain⟨y,hy⟩:=Uh yS;rw [hr] at hy;obtain⟨_,hy⟩:=aC hy;unfold fM at hy;rw [hk2] at hy;obtain⟨ok,hy⟩:=aC (hy:(T.aE _ _).val=_);exact ok
  ·rw [hr] at hy;obtain⟨_,hy⟩:=aC hy;unfold fM at hy;rw [hk2] at hy;obtain⟨_,hy⟩:=aC (hy:(T.aE _ _).val=_);cases hy;rfl
theorem Tz {v:aA} {p:ah} {h:AH} {m:ax} (he:1<=e /\ e<=5) (hd:v.aO=3) (hs:v.sort=s) (I:RQ e N m) (E:EB n C N p h) (hR:N.length<=R) (q:Q v.answer h) {g:Nat} {v':aA}
 (yS:dK cd g {v with aP:=bj m gp}=some (.exit 0,v')):StN n (Dn n e C R s Q) 9 v' p:=by
 have h9:=apA (K:=fun x g=>g=h) (c:=gp) (L:=R) I he E hR rfl rfl;refine Yr (k:=0) (v:=v) (by rw [hd];decide) (j:=9) (wY (fun m' p' Dv hq=>?_) h9) g v' yS;intro g' v2 yx;obtain⟨N',h',I',E',hl,rfl⟩:=hq;have e:=ap1 (v:={v with aP:=m'}) (.inl hd) Dv yx;subst e;exact⟨rfl,hs,by show m'.notes.length<=R;rw [I'.no];exact hl,N',h',⟨I'.en,I'.me,I'.th,I'.no⟩,E',q⟩
theorem JR (he:1<=e /\ e<=5) (hR:R<=80) (hC:C<=900000):∀{f k:Nat} {b:Bool} {N:List Nt} {D:Int} {v v':aA} {p:ah} {h:AH} {j:dV} {g:Nat},pA dV.next Q b f k h (j.next v.aP.bD)->(v.aO=1 \/ v.aO=2)->v.sort=s->v.cF=some j->RQ e N v.aP->v.aP.step=0->EB n D N p h ->
 N.length+(cond b 1 0)<=R->D+(cond b 2 0)<=C->dK cd g v=some (.exit 0,v')->StN n (Dn n e C R s Q) (k+9) v' p
 | 0,_,_,_,_,_,_,_,_,_,_,hh,_,_,_,_,_,_,_,_,_=>hh.elim
 | f+1,k,b,N,D,v,v',p,h,j,g,hh,hd,hs,hj,I,tg,E,hl,hD,yS=>by
   have hN:N.length<=R:=by omega
   have hDC:D<=C:=by cases b<;>simp only [cond] at hD<;>omega
   rcases agt hd tg hj yS with⟨k12,g',FB⟩ | ⟨k12,ok,g',FB⟩
   ·rcases hh with⟨_,q⟩ | ⟨_,⟨_,hw⟩ | ⟨_,_,hw⟩⟩
    ·exact y8 (fun _ _ h=>h) (by omega) (Tz (v:={v with answer:=(j.next v.aP.bD).1.qB,aO:=3,call:=gp,cF:=some (j.next v.aP.bD).2}) he rfl hs I (ou E hDC) hN q FB)
    ·have:=C0 hw;simp [k12] at this
    ·have:=C0 hw;simp [k12] at this
   ·have Vh:yh (j.next v.aP.bD).1:=(aaF (ok:decide _=true)).2.2;generalize hr:j.next v.aP.bD=r at *;rcases hh with⟨e,_⟩ | ⟨hw,⟨h10,hK⟩ | ⟨h10,hb,hK⟩⟩
    ·exact absurd e k12
    ·have hc:=NW I he E Vh h10 hK;rw [show k+9=uk r.1.aj+(k - uk r.1.aj+9) by omega];refine Yr (v:={v with aO:=2,call:=r.1,cF:=some r.2}) (by show (2:Int)≠0;decide) (wY (fun m' p' Dv hq=>?_) hc) g' v' FB;intro g2 v2 yx;obtain⟨N',h',I',E',Co,q⟩:=hq;exact JR he hR hC (v:={v with aO:=2,call:=r.1,cF:=some r.2,aP:=m'}) q (.inr rfl) hs rfl I' Dv E' (by omega) hD yx
    ·subst hb;have hl1:N.length+1<=R:=hl;have hD2:D+2<=C:=hD;have hc:=ajD (L:=N.length+1) I he E (by omega) (ab4 _) h10 hK;have avL:uk r.1.aj=100:=by rw [h10];rfl
     rw [show k+9=100+(k - uk r.1.aj+9) by omega];refine Yr (v:={v with aO:=2,call:=r.1,cF:=some r.2}) (by show (2:Int)≠0;decide) (wY (fun m' p' Dv hq=>?_) (jG (fun _ _ h=>h) (by omega:13+N.length<=100) hc)) g' v' FB;intro g2 v2 yx;obtain⟨N',h',I',E',Co,q⟩:=hq;exact JR he hR hC (v:={v with aO:=2,call:=r.1,cF:=some r.2,aP:=m'}) q (.inr rfl) hs rfl I' Dv E' (by show N'.length+0<=R;omega) (by show D+2+0<=C;omega) yx
end
end
section
open Go Go.Sx Go.Proofs AH
variable {σ:Sg} {lp:Lp}
def Qp:Cl:=⟨11,iC,aq,aq,0,0,⟨0,0⟩⟩
def ahq (bg:ax->Cl->ax) (v:aA):aA:={v with aP:=bg v.aP Qp,aO:=4,call:=Qp,op:=⟨0,0,0,0⟩,cF:=none,answer:=⟨0,0⟩}
def afd (σ:Sg) (G:DH) (F:xX):m7:=br 55 (bJ cL bS (fS Lf C5 iA (fun _ _=>none) (fun m _=>(gT m,m))))
 (br 54 (bJ cL bS (fS aCl CI iA (fun m c=>some (G.Vc m c)) (fun m c=>((),G.bg m c))))
 (br 29 (SZ σ (bJ cL bS (Ih 2 Lf EF (fun v _=>some (F.oh v)) fun v _=>(.iW [],uG F 0 v,[])))) b9))
def mSc:List Bool:=mkM 13
def B9 (σ:Sg) (G:DH) (F:xX) (v:aA):T (Option (SV×aA)):=(Ca jE σ (afd σ G F) 13 mSc [.v (.c (.ptr 7 0))] [iG v] (gk AV.len qJ (aA.wr v))).map adO
def LW (σ:Sg) (G:DH) (oh:aA->Bool) (ad:aA->aA) (v:aA):T (Option (SV×aA)):=tI (v.aO != 0) (tN true (Sb σ v KY)) (tN (G.Vc v.aP Qp) (tN true (tN (oh (ahq G.bg v)) (tN true (Sa (ad (ahq G.bg v)))))))
theorem arZ (σ:Sg) (G:DH) (F:xX) (v:aA):B9 σ G F {v with cF:=none}=LW σ G F.oh (uG F 0) {v with cF:=none}:=by kernel_rfl
theorem arY (σ:Sg) (G:DH) (F:xX) (v:aA) (j:dz):B9 σ G F {v with cF:=some (.eu j)}=LW σ G F.oh (uG F 0) {v with cF:=some (.eu j)}:=by kernel_rfl
theorem arX (σ:Sg) (G:DH) (F:xX) (v:aA) (j:dj):B9 σ G F {v with cF:=some (.dO j)}=LW σ G F.oh (uG F 0) {v with cF:=some (.dO j)}:=by kernel_rfl
theorem arW (σ:Sg) (G:DH) (F:xX) (v:aA) (j:cU):B9 σ G F {v with cF:=some (.lit j)}=LW σ G F.oh (uG F 0) {v with cF:=some (.lit j)}:=by kernel_rfl
theorem arV (σ:Sg) (G:DH) (F:xX) (v:aA) (j:ca):B9 σ G F {v with cF:=some (.pQ j)}=LW σ G F.oh (uG F 0) {v with cF:=some (.pQ j)}:=by kernel_rfl
theorem arU (σ:Sg) (G:DH) (F:xX) (v:aA) (j:cD):B9 σ G F {v with cF:=some (.pn j)}=LW σ G F.oh (uG F 0) {v with cF:=some (.pn j)}:=by kernel_rfl
theorem abF (σ:Sg) (G:DH) (F:xX) (v:aA):B9 σ G F v=LW σ G F.oh (uG F 0) v:=by
 obtain⟨so,en,ri,dg,cl,op,cF,an⟩:=v;rcases cF with _ | ⟨j | j | j | j | j⟩
 ·exact arZ σ G F ⟨so,en,ri,dg,cl,op,none,an⟩
 ·exact arY σ G F ⟨so,en,ri,dg,cl,op,none,an⟩ j
 ·exact arX σ G F ⟨so,en,ri,dg,cl,op,none,an⟩ j
 ·exact arW σ G F ⟨so,en,ri,dg,cl,op,none,an⟩ j
 ·exact arV σ G F ⟨so,en,ri,dg,cl,op,none,an⟩ j
 ·exact arU σ G F ⟨so,en,ri,dg,cl,op,none,an⟩ j
def amL (v:aA):aA:=jI (ahq bj v)
theorem VW:dH Tryz.prog (NV σ) (afd σ Lb (pF 0)):=aH wM (aH Gg (aH (ags 0) bp))
section
variable {n:Nat} {e C:Int} {N:List Nt} {R:Nat} {Q:An->AH->Prop}
theorem W4 {k:Nat} {v:aA} {p:ah} {h:AH} {o:O} {D:Int} (he:1<=e /\ e<=5) (hR:R<=80) (hC:C<=900000) (I:RQ e N v.aP) (E:EB n D N p h) (hl:N.length+1<=R) (hD:D+2<=C) (pf:tz (CU bj v.sort.toNat v o)=true)
 (hj:kQ Q k h ((iE v.sort.toNat o).next ⟨aq,true⟩)):StN n (Dn n e C R v.sort Q) (k+11) (dx v o) p:=by
 have h1:=agf (K:=fun x g=>x=⟨aq,true⟩ /\ g=h) (c:=kO) (L:=N.length) I he E (ab4 _) rfl ⟨rfl,rfl⟩;rw [show k+11=2+(k+9) by omega];refine Yr (v:={v with aO:=1,call:=kO,op:=o,cF:=some (iE v.sort.toNat o),answer:=⟨0,0⟩}) (by show (1:Int)≠0;decide) (wY (fun m' p' Dv hq=>?_) h1) _ _ (kJ pf);intro g2 v2 yx;obtain⟨N',h',I',E',Co,q1,rfl⟩:=hq;exact JR he hR hC (v:={v with aO:=1,call:=kO,op:=o,cF:=some (iE v.sort.toNat o),answer:=⟨0,0⟩,aP:=m'}) (b:=true) (by show pA _ _ _ _ _ _ ((iE v.sort.toNat o).next m'.bD);rw [q1];exact hj) (.inl rfl) rfl rfl I' Dv E' (by show N'.length+1<=R;omega) hD yx
end
end
section
open Go Go.Sx Go.Proofs AH
theorem P0 {s:Nat} {o:O} (hs:s=1 \/ s=2 \/ s=3 \/ s=4 \/ s=5) (hf:aki s o):((iE s o).next ⟨aq,true⟩).1.aj=3 \/ ((iE s o).next ⟨aq,true⟩).1.aj=6 \/ ((iE s o).next ⟨aq,true⟩).1.aj=8:=by
 obtain⟨kd,k,v,t⟩:=o;have fin:∀{c:Cl},(c.aj=3 \/ c.aj=6 \/ c.aj=8)->(c.aj=3 \/ c.aj=6 \/ c.aj=8):=id;rcases hs with rfl | rfl | rfl | rfl | rfl
 ·rcases hf.k1 rfl with h | h | h<;>(have h:kd=_:=h;subst h;first | exact .inr (.inl rfl) | exact .inr (.inr rfl))
 ·rcases hf.k2 rfl with h | h<;>(have h:kd=_:=h;subst h;first | exact .inr (.inl rfl) | exact .inr (.inr rfl))
 ·rcases (hf.k3 (by decide)).1 with h | h | h<;>(have h:kd=_:=h;subst h;first | exact .inr (.inl rfl) | exact .inr (.inr rfl))
 ·rcases (hf.k3 (by decide)).1 with h | h | h<;>(have h:kd=_:=h;subst h;exact .inl rfl)
 ·rcases (hf.k3 (by decide)).1 with h | h | h<;>(have h:kd=_:=h;subst h;first | exact .inr (.inl rfl) | exact .inr (.inr rfl))
def RlN (n:Nat):Nat->aA->ah->Prop
 | 0,_,_=>False
 | k+1,v,p=>v.aO≠0 /\ (0<=(bo v p).1.real \/ (tz (eO v p)=true->(bo v p).2.2.WF n->RlN n k (bo v p).2.1 (bo v p).2.2))
section
variable {n:Nat}
theorem Dc:∀{k k':Nat} {v:aA} {p:ah},k<=k'->RlN n k v p->RlN n k' v p
 | 0,_,_,_,_,hh=>hh.elim
 | k+1,0,_,_,hle,_=>by omega
 | k+1,k'+1,v,p,hle,hh=>⟨hh.1,hh.2.imp id fun g o w=>Dc (by omega) (g o w)⟩
theorem zT (ad:aA->aA) (p:ah) (v1:aA) (r:Int):(mJ cond (fun _ t=>t) (fun s v'=>(s,v',p)) (fun _=>true) ad v1 r:uf×aA×ah).1.real=r:=by unfold mJ;cases ((ad v1).aO==0)<;>rfl
theorem ahA {v:aA} {p:ah} (h:v.call.aj=3):(bo v p).1.real=0:=by unfold bo lW;rw [h];exact zT _ _ _ _
theorem ahz {v:aA} {p:ah} (h:v.call.aj=6) (hb:gT (eO v p).aP=false):0<=(bo v p).1.real:=by
 unfold bo lW;rw [h,hb];show 0<=(cond (ll (v.au==3) (v.au==5)) _ _:uf×aA×ah).1.real;cases ll (v.au==3) (v.au==5)
 ·exact Int.le_of_eq (zT _ _ _ _).symm
 ·exact Int.le_trans (by decide:(0:Int)<=1) (Int.le_of_eq (zT _ _ _ _).symm)
theorem Xh {v:aA} {p:ah} (h:v.call.aj=8) (ha:(gw v.aP).1.aj=4):(bo v p).1.real=0:=by unfold bo lW;rw [h,ha];exact zT _ _ _ _
theorem aab {m:ax} (h:m.step≠0):gT m=true:=by unfold gT;simpa using h
theorem ER {m:ax} (h:m.step≠0):(gw m).1=m.acc:=by unfold gw;rw [aab h];rfl
theorem sX {v v':aA} {g:Nat} (hd:v.aO≠0) (hs:v.aP.step≠0) (yS:dK cd g v=some (.exit 0,v')):v'=v :=
 sP yS (by
  unfold cd eF;rw [show ((v.aO != 0)==true)=true by simpa using hd,aab hs];rfl)
theorem Hw {v:aA} {p:ah} (hd:v.aO≠0) (hs:v.aP.step≠0) (ho:tz (eO v p)=true) (hb:(eO v p).aP.step≠0):(bo v p).2=(eO v p,(p.aV v.aP.acc).2):=by have e:=sX (v:=eO v p) hd hb (kJ ho);rw [step_eq,e,ER hs]
theorem Ri {k:Nat} {v:aA} (hd:v.aO≠0):∀{j:Nat} {m:ax} {p:ah},dF n (fun m' p'=>∀g v',dK cd g {v with aP:=m'}=some (.exit 0,v')->RlN n k v' p') j m p ->
 ∀g v',dK cd g {v with aP:=m}=some (.exit 0,v')->RlN n (j+k) v' p
 | 0,m,p,hh,g,v',yS=>Dc (by omega) (hh.2 g v' yS)
 | j+1,m,p,hh,g,v',yS=>by
   rcases hh with⟨hs,hq⟩ | ⟨hs,hq⟩
   ·exact Dc (by omega) (hq g v' yS)
   ·have e:=sX (v:={v with aP:=m}) hd hs yS;subst e;have ea:=ER (m:=m) hs;have es:eO {v with aP:=m} p={v with aP:=bX m (p.aV m.acc).1}:=by unfold eO;show {v with aP:=bX m (p.aV (gw m).1).1}=_;rw [ea]
    rw [show j+1+k=(j+k)+1 by omega];refine⟨hd,.inr fun ho hw=>?_⟩;have e2:=step_eq {v with aP:=m} p;have e3:(bo {v with aP:=m} p).2.2=(p.aV m.acc).2:=by rw [e2];show (p.aV (gw m).1).2=_;rw [ea]
    have e4:(bo {v with aP:=m} p).2.1=jI (eO {v with aP:=m} p):=by rw [e2]
    rw [e3] at hw ⊢;rw [e4];have yx:=kJ ho;rw [es] at yx ⊢;exact Ri hd (hq hw) _ _ yx
theorem Rh {Q:ax->ah->Prop}:∀{j:Nat} {v:aA} {p:ah},v.aO≠0->v.call.aj=6->v.aP.step≠0->dF n Q j v.aP p->RlN n j v p
 | 0,v,p,hd,hk,hs,hh=>absurd hh.1 hs
 | j+1,v,p,hd,hk,hs,hh=>by
   rcases hh with⟨h0,_⟩ | ⟨_,hq⟩
   ·exact absurd h0 hs
   ·refine⟨hd,?_⟩;by_cases hb:(eO v p).aP.step=0
    ·exact .inl (ahz hk (Qt hb))
    ·refine .inr fun ho hw=>?_;have e:=Hw hd hs ho hb;rw [e] at hw ⊢;have hq:=hq hw;refine Rh (Q:=Q) hd hk hb ?_;show dF n Q j (bX v.aP (p.aV (gw v.aP).1).1) _;rw [ER hs];exact hq
theorem ahx {v:aA} {m:ax} {c:Cl} {p:ah} (hd:v.aO≠0) (hk:v.call.aj=8) (hc:c.aj=8) (he:1<=m.au /\ m.au<=5) (hm:v.aP=bj m c):RlN n 2 v p:=by
 by_cases h35:m.au=3 \/ m.au=5
 ·rw [aj1 hc h35] at hm;have s8:v.aP.step=8:=by rw [hm];rfl
  refine⟨hd,.inr fun ho hw=>?_⟩;have er:(eO v p).aP=(fF 1 ⟨4,0,0,0,aq,dZ (p.aV (gw v.aP).1).1.w.bU⟩ (dI v.aP)).m:=tk8 s8;have e:=Hw hd (by rw [s8];decide) ho (by rw [er];show (1:Int)≠0;decide);rw [e];refine⟨hd,.inl (Int.le_of_eq (Xh (v:=eO v p) hk ?_).symm)⟩;rw [er];rfl
 ·rw [aj0 hc (by omega)] at hm;refine⟨hd,.inl (Int.le_of_eq (Xh hk ?_).symm)⟩;rw [hm];rfl
section
variable {e C:Int} {N:List Nt} {Q:An->AH->Prop}
theorem W3 {k:Nat} {v:aA} {p:ah} {h:AH} {o:O} {D:Int} (he:1<=e /\ e<=5) (I:RQ e N v.aP) (E:EB n D N p h) (pf:tz (CU bj v.sort.toNat v o)=true)
 (hf:((iE v.sort.toNat o).next ⟨aq,true⟩).1.aj=3 \/ ((iE v.sort.toNat o).next ⟨aq,true⟩).1.aj=6 \/ ((iE v.sort.toNat o).next ⟨aq,true⟩).1.aj=8)
 (hj:kQ Q k h ((iE v.sort.toNat o).next ⟨aq,true⟩)):RlN n 7 (dx v o) p:=by
 have h1:=agf (K:=fun x g=>x=⟨aq,true⟩ /\ g=h) (c:=kO) (L:=N.length) I he E (ab4 _) rfl ⟨rfl,rfl⟩;rw [show 7=2+5 by rfl];refine Ri (v:={v with aO:=1,call:=kO,op:=o,cF:=some (iE v.sort.toNat o),answer:=⟨0,0⟩}) (by show (1:Int)≠0;decide) (wY (fun m' p' Dv hq=>?_) h1) _ _ (kJ pf);intro g2 v2 yx;obtain⟨N',h',I',E',Co,q1,rfl⟩:=hq;rcases agt (v:={v with aO:=1,call:=kO,op:=o,cF:=some (iE v.sort.toNat o),answer:=⟨0,0⟩,aP:=m'}) (j:=iE v.sort.toNat o) (.inl rfl) Dv rfl yx with⟨k12,_⟩ | ⟨k12,ok,g',FB⟩
 ·have k12:((iE v.sort.toNat o).next m'.bD).1.aj=12:=k12;rw [q1] at k12;omega
 ·have FB:dK cd g' {v with aO:=2,call:=((iE v.sort.toNat o).next m'.bD).1,op:=o,aP:=bj m' ((iE v.sort.toNat o).next m'.bD).1,cF:=some ((iE v.sort.toNat o).next m'.bD).2,answer:=⟨0,0⟩}=some (.exit 0,v2):=FB;have ok:G5 m' ((iE v.sort.toNat o).next m'.bD).1=true:=ok;rw [q1] at FB ok;have Vh:yh ((iE v.sort.toNat o).next ⟨aq,true⟩).1:=(aaF (ok:decide _=true)).2.2;generalize (iE v.sort.toNat o).next ⟨aq,true⟩=r at *
  rcases hf with h3 | h6 | h8
  ·have hb:(bj m' r.1).step≠0:=by rw [bg3 h3];show (1:Int)≠0;decide
   have e:=sX (by show (2:Int)≠0;decide) hb FB;subst e;exact⟨by show (2:Int)≠0;decide,.inl (Int.le_of_eq (ahA h3).symm)⟩
  ·have hb:(bj m' r.1).step≠0:=by rw [bg6 h6];show (5:Int)≠0;decide
   have e:=sX (by show (2:Int)≠0;decide) hb FB;subst e;rcases (hj:(r.1.aj=12 /\ _) \/ (_ /\ _)) with⟨axD,_⟩ | ⟨_,⟨h10,hK⟩ | ⟨h10,_⟩⟩
   ·omega
   ·have hc:=NW (C:=D) I' he E' Vh h10 hK;rw [show uk r.1.aj=5 by rw [h6];rfl] at hc;exact Rh (by show (2:Int)≠0;decide) h6 hb hc
   ·omega
  ·have en:1<=m'.au /\ m'.au<=5:=by rw [I'.en];exact he
   have hb:(bj m' r.1).step≠0:=by
    by_cases h35:m'.au=3 \/ m'.au=5
    ·rw [aj1 h8 h35];show (8:Int)≠0;decide
    ·rw [aj0 h8 (by omega)];show (1:Int)≠0;decide
   have e:=sX (by show (2:Int)≠0;decide) hb FB;subst e;exact Dc (by decide) (ahx (m:=m') (c:=r.1) (by show (2:Int)≠0;decide) h8 h8 en rfl)
end
end
end
section
open Go Go.Sx Go.Proofs AH
def kv (l:List Kn):List (Int×Int):=l.map fun x=>(x.k,x.v)
def sv (l:List Sn):List (Int×Int):=l.map fun x=>(x.k,x.v)
theorem tK {l:List Kn} {k v:Int}:(k,v)∈kv l↔∃x∈l,x.k=k /\ x.v=v:=by unfold kv;rw [ac0];exact⟨fun⟨x,hx,e⟩=>⟨x,hx,congrArg Prod.fst e,congrArg Prod.snd e⟩,fun⟨x,hx,e1,e2⟩=>⟨x,hx,by rw [e1,e2]⟩⟩
theorem AG {l:List Sn} {k v:Int}:(k,v)∈sv l↔∃x∈l,x.k=k /\ x.v=v:=by unfold sv;rw [ac0];exact⟨fun⟨x,hx,e⟩=>⟨x,hx,congrArg Prod.fst e,congrArg Prod.snd e⟩,fun⟨x,hx,e1,e2⟩=>⟨x,hx,by rw [e1,e2]⟩⟩
theorem LZ {key:Int}:∀{l:List Sn},xY l->Aq key l=none->∀x∈l,x.k≠key
 | [],_,_,_,h=>by cases h
 | y::l,hs,ha,x,hx=>by
   unfold xY at hs;rw [adF] at hs;unfold Aq at ha;by_cases h1:key<=y.k
   ·rw [if_pos h1] at ha;by_cases h2:y.k=key
    ·rw [if_pos h2] at ha;cases ha
    ·rcases aaO.1 hx with rfl | hx
     ·exact h2
     ·have:=hs.1 x hx;omega
   ·rw [if_neg h1] at ha;rcases aaO.1 hx with rfl | hx
    ·omega
    ·exact LZ hs.2 ha x hx
theorem Df {key:Int} {x0:Kn}:∀{l:List Kn},CF l->At key l=some x0->∀{x:Kn},x∈rG key l↔x∈l /\ x.k≠key
 | [],_,ha,_=>by cases ha
 | y::l,hs,ha,x=>by
   unfold CF at hs;rw [adF] at hs;unfold At at ha;unfold rG;by_cases h1:key<=y.k
   ·rw [if_pos h1] at ha ⊢;by_cases h2:y.k=key
    ·refine⟨fun h=>⟨aaW _ h,by have:=hs.1 x h;omega⟩,fun⟨h,n⟩=>?_⟩;rcases aaO.1 h with rfl | h
     ·exact absurd h2 n
     ·exact h
    ·rw [if_neg h2] at ha;cases ha
   ·rw [if_neg h1] at ha ⊢;rw [aaO,aaO,Df hs.2 ha];refine⟨fun h=>?_,fun⟨h,n⟩=>h.imp id fun h=>⟨h,n⟩⟩;rcases h with rfl | ⟨h,n⟩
    ·exact⟨.inl rfl,by omega⟩
    ·exact⟨.inr h,n⟩
theorem zd {key:Int} {x0:Sn}:∀{l:List Sn},xY l->Aq key l=some x0->∀{x:Sn},x∈qL key l↔x∈l /\ x.k≠key
 | [],_,ha,_=>by cases ha
 | y::l,hs,ha,x=>by
   unfold xY at hs;rw [adF] at hs;unfold Aq at ha;unfold qL;by_cases h1:key<=y.k
   ·rw [if_pos h1] at ha ⊢;by_cases h2:y.k=key
    ·refine⟨fun h=>⟨aaW _ h,by have:=hs.1 x h;omega⟩,fun⟨h,n⟩=>?_⟩;rcases aaO.1 h with rfl | h
     ·exact absurd h2 n
     ·exact h
    ·rw [if_neg h2] at ha;cases ha
   ·rw [if_neg h1] at ha ⊢;rw [aaO,aaO,zd hs.2 ha];refine⟨fun h=>?_,fun⟨h,n⟩=>h.imp id fun h=>⟨h,n⟩⟩;rcases h with rfl | ⟨h,n⟩
    ·exact⟨.inl rfl,by omega⟩
    ·exact⟨.inr h,n⟩
theorem aiu {key k v:Int} {x0:Kn} {l:List Kn} (hs:CF l) (ha:At key l=some x0):(k,v)∈kv (rG key l)↔k≠key /\ (k,v)∈kv l:=by rw [tK,tK];exact⟨fun⟨x,hx,e,f⟩=>⟨e▸((Df hs ha).1 hx).2,x,((Df hs ha).1 hx).1,e,f⟩,fun⟨n,x,hx,e,f⟩=>⟨x,(Df hs ha).2 ⟨hx,e.symm▸n⟩,e,f⟩⟩
theorem ag5 {key k v:Int} {x0:Sn} {l:List Sn} (hs:xY l) (ha:Aq key l=some x0):(k,v)∈sv (qL key l)↔k≠key /\ (k,v)∈sv l:=by rw [AG,AG];exact⟨fun⟨x,hx,e,f⟩=>⟨e▸((zd hs ha).1 hx).2,x,((zd hs ha).1 hx).1,e,f⟩,fun⟨n,x,hx,e,f⟩=>⟨x,(zd hs ha).2 ⟨hx,e.symm▸n⟩,e,f⟩⟩
theorem aiv {n:Kn} {k v:Int} {l:List Kn}:(k,v)∈kv (mT n l)↔(k=n.k /\ v=n.v) \/ (k,v)∈kv l:=by
 rw [tK,tK];refine⟨fun⟨x,hx,e,f⟩=>(fK.1 hx).imp (fun q=>⟨e.symm.trans (congrArg Kn.k q),f.symm.trans (congrArg Kn.v q)⟩) fun h=>⟨x,h,e,f⟩,?_⟩;rintro (⟨rfl,rfl⟩ | ⟨x,hx,e,f⟩)
 ·exact⟨n,fK.2 (.inl rfl),rfl,rfl⟩
 ·exact⟨x,fK.2 (.inr hx),e,f⟩
theorem ag6 {n:Sn} {k v:Int} {l:List Sn}:(k,v)∈sv (pe n l)↔(k=n.k /\ v=n.v) \/ (k,v)∈sv l:=by
 rw [AG,AG];refine⟨fun⟨x,hx,e,f⟩=>(oR.1 hx).imp (fun q=>⟨e.symm.trans (congrArg Sn.k q),f.symm.trans (congrArg Sn.v q)⟩) fun h=>⟨x,h,e,f⟩,?_⟩;rintro (⟨rfl,rfl⟩ | ⟨x,hx,e,f⟩)
 ·exact⟨n,oR.2 (.inl rfl),rfl,rfl⟩
 ·exact⟨x,oR.2 (.inr hx),e,f⟩
def Rep (f:Int->Int) (l:List (Int×Int)) (p:List Pr):Prop:=∀k v,0<=k->k < 256->((f k,v)∈l↔(⟨k,v⟩:Pr)∈p)
def Ju (p:List Pr):Prop:=p.Pairwise fun a b=>a.key < b.key
def aaI (s n:Nat) (c:aY) (h:AH):Prop:=match s with
 | 1=>m8 h (c.aT.map N1.val).reverse /\ c.aT.length<=n
 | 2=>pP h (c.aT.map N1.val) /\ c.aT.length<=n
 | 3=>∃l,aey h l /\ l.length<=n /\ Rep id (kv l) c.aX
 | 4=>∃L,lB h L /\ reg L<=n /\ Rep jc (kv L) c.aX
 | _=>∃L,jX h L /\ L.length<=n /\ Rep id (sv L) c.aX
def vr (p:List Pr) (k v:Int):Prop:=(⟨k,v⟩:Pr)∈p
def anZ (p:List Pr) (o:O) (k v:Int):Prop:=(k=o.key /\ v=o.val) \/ vr p k v
def ar3 (p:List Pr) (o:O) (k v:Int):Prop:=k≠o.key /\ vr p k v
def avg (p:List Pr) (o:O) (a:An) (R:Int->Int->Prop):Prop :=
 (o.aj=6 /\ (((∀v,¬vr p o.key v) /\ a=⟨1,0⟩ /\ R=anZ p o) \/ ((∃v,vr p o.key v) /\ a=⟨3,0⟩ /\ R=vr p) \/ (a=⟨4,0⟩ /\ R=vr p)))
 \/ ((o.aj=7 \/ o.aj=8) /\ (∀v,¬vr p o.key v) /\ a=⟨2,0⟩ /\ R=vr p)
 \/ (∃v,vr p o.key v /\ a=⟨1,v⟩ /\ ((o.aj=7 /\ R=ar3 p o) \/ (o.aj=8 /\ R=vr p)))
theorem Rj:∀n:_root_.Fin 256,TD (TD n.val)=n.val:=aaF (by kernel_rfl)
theorem ab7 {a b:Int} (a0:0<=a) (a1:a < 256) (b0:0<=b) (b1:b < 256) (h:jc a=jc b):a=b:=by
 unfold jc at h;have h1:TD a.toNat=TD b.toNat:=by omega
 have ha:=Rj ⟨a.toNat,by omega⟩;have hb:=Rj ⟨b.toNat,by omega⟩;dsimp only at ha hb;rw [h1] at ha;omega
def aez (f:Int->Int):Prop:=∀a b,0<=a->a < 256->0<=b->b < 256->f a=f b->a=b
theorem YR:aez id:=fun a b _ _ _ _ h=>h
theorem XH:aez jc:=fun a b a0 a1 b0 b1 h=>ab7 a0 a1 b0 b1 h
section
variable {f:Int->Int} {o:O} {l l':List (Int×Int)} {a:An} {p:List Pr}
def SS (key:Int) (o:O) (l:List (Int×Int)) (a:An) (l':List (Int×Int)):Prop :=
 (o.aj=6 /\ (((∀v,(key,v) ∉ l) /\ a=⟨1,0⟩ /\ ∀k v,(k,v)∈l'↔(k=key /\ v=o.val) \/ (k,v)∈l) \/ ((∃v,(key,v)∈l) /\ a=⟨3,0⟩ /\ l'=l) \/ (a=⟨4,0⟩ /\ l'=l)))
 \/ (o.aj≠6 /\ (∀v,(key,v) ∉ l) /\ a=⟨2,0⟩ /\ l'=l)
 \/ (∃v,(key,v)∈l /\ a=⟨1,v⟩ /\ ((o.aj=7 /\ ∀k v,(k,v)∈l'↔k≠key /\ (k,v)∈l) \/ (o.aj=8 /\ l'=l)))
theorem Wt (fi:aez f) (ko:o.aj=6 \/ o.aj=7 \/ o.aj=8) (k0:0<=o.key) (k1:o.key < 256) (hr:Rep f l p) (st:SS (f o.key) o l a l'):∃R,avg p o a R /\ ∀k v,0<=k->k < 256->((f k,v)∈l'↔R k v):=by
 have nn:(∀v,(f o.key,v) ∉ l)->∀v,¬vr p o.key v:=fun h v q=>h v ((hr _ _ k0 k1).2 q);rcases st with⟨k6,⟨q1,q2,q3⟩ | ⟨⟨v,q1⟩,q2,rfl⟩ | ⟨q2,rfl⟩⟩ | ⟨k6,q1,q2,rfl⟩ | ⟨v,q1,q2,⟨k7,q3⟩ | ⟨k8,rfl⟩⟩
 ·refine⟨_,.inl ⟨k6,.inl ⟨nn q1,q2,rfl⟩⟩,fun k v h0 h1=>?_⟩;rw [q3];exact or_congr ⟨fun⟨e,g⟩=>⟨fi _ _ h0 h1 k0 k1 e,g⟩,fun⟨e,g⟩=>⟨by rw [e],g⟩⟩ (hr k v h0 h1)
 ·exact⟨_,.inl ⟨k6,.inr (.inl ⟨⟨v,(hr _ _ k0 k1).1 q1⟩,q2,rfl⟩)⟩,hr⟩
 ·exact⟨_,.inl ⟨k6,.inr (.inr ⟨q2,rfl⟩)⟩,hr⟩
 ·exact⟨_,.inr (.inl ⟨by omega,nn q1,q2,rfl⟩),hr⟩
 ·refine⟨_,.inr (.inr ⟨v,(hr _ _ k0 k1).1 q1,q2,.inl ⟨k7,rfl⟩⟩),fun k v h0 h1=>?_⟩;rw [q3];exact and_congr ⟨fun n e=>n (by rw [e]),fun n e=>n (fi _ _ h0 h1 k0 k1 e)⟩ (hr k v h0 h1)
 ·exact⟨_,.inr (.inr ⟨v,(hr _ _ k0 k1).1 q1,q2,.inr ⟨k8,rfl⟩⟩),hr⟩
end
theorem Ik {h:AH} {key:Int} {o:O} {l l':List Kn} {a:An} (hs:CF l) (ls:rC h key o l a l'):SS key o (kv l) a (kv l'):=by
 have nn:At key l=none->∀v,(key,v) ∉ kv l:=fun h v q=>by obtain⟨x,hx,e,_⟩:=tK.1 q;exact SJ hs h x hx e
 have ss:∀{x:Kn},At key l=some x->(key,x.v)∈kv l:=fun h=>tK.2 ⟨_,(yN h).1,(yN h).2,rfl⟩;rcases ls with⟨k6,⟨q1,q2,n,nk,nv,_,e⟩ | ⟨q1,q2,e⟩ | ⟨q2,e⟩⟩ | ⟨k6,q1,q2,e⟩ | ⟨y,q1,q2,⟨k7,e⟩ | ⟨k8,e⟩⟩<;>subst e
 ·exact .inl ⟨k6,.inl ⟨nn q1,q2,fun k v=>by rw [aiv,nk,nv]⟩⟩
 ·refine .inl ⟨k6,.inr (.inl ⟨?_,q2,rfl⟩)⟩;cases ha:At key l' with
  | none=>exact absurd ha q1
  | some x=>exact⟨_,ss ha⟩
 ·exact .inl ⟨k6,.inr (.inr ⟨q2,rfl⟩)⟩
 ·exact .inr (.inl ⟨k6,nn q1,q2,rfl⟩)
 ·exact .inr (.inr ⟨y.v,ss q1,q2,.inl ⟨k7,fun k v=>aiu hs q1⟩⟩)
 ·exact .inr (.inr ⟨y.v,ss q1,q2,.inr ⟨k8,rfl⟩⟩)
theorem Tt {h:AH} {o:O} {L:List Sn} {a:An} (hs:xY L) (q:KW L o a h):∃L',jX h L' /\ L'.length<=L.length+1 /\ SS o.key o (sv L) a (sv L'):=by
 have nn:Aq o.key L=none->∀v,(o.key,v) ∉ sv L:=fun h v q=>by obtain⟨x,hx,e,_⟩:=AG.1 q;exact LZ hs h x hx e
 have ss:∀{x:Sn},Aq o.key L=some x->(o.key,x.v)∈sv L:=fun h=>AG.2 ⟨_,(qT h).1,(qT h).2,rfl⟩;rcases q with⟨k6,⟨q1,q2,n,nk,nv,_,q3⟩ | ⟨q1,q2,q3⟩ | ⟨q2,q3⟩⟩ | ⟨k6,q1,q2,q3⟩ | ⟨y,q1,q2,⟨k7,q3⟩ | ⟨k8,q3⟩⟩
 ·exact⟨_,q3,by rw [Nb];exact ab4 _,.inl ⟨k6,.inl ⟨nn q1,q2,fun k v=>by rw [ag6,nk,nv]⟩⟩⟩
 ·refine⟨_,q3,Nat.le_succ _,.inl ⟨k6,.inr (.inl ⟨?_,q2,rfl⟩)⟩⟩;cases ha:Aq o.key L with
  | none=>exact absurd ha q1
  | some x=>exact⟨_,ss ha⟩
 ·exact⟨_,q3,Nat.le_succ _,.inl ⟨k6,.inr (.inr ⟨q2,rfl⟩)⟩⟩
 ·exact⟨_,q3,Nat.le_succ _,.inr (.inl ⟨k6,nn q1,q2,rfl⟩)⟩
 ·exact⟨_,q3,Nat.le_succ_of_le oI.length_le,.inr (.inr ⟨y.v,ss q1,q2,.inl ⟨k7,fun k v=>ag5 hs q1⟩⟩)⟩
 ·exact⟨_,q3,Nat.le_succ _,.inr (.inr ⟨y.v,ss q1,q2,.inr ⟨k8,rfl⟩⟩)⟩
