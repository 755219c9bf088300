import Derived.Test.YtadmfaohjnjajaaGreatDoorSxOi
set_option linter.unusedVariables false
set_option linter.unusedSimpArgs false
set_option maxHeartbeats 0
set_option maxRecDepth 100000
noncomputable section
namespace Go.Proofs.YtadmfaohjnjajaaGreatDoor
section
open Go Go.Sx Go.Proofs
variable {σ:Sg} {lp:Lp}
abbrev OQ:Nat:=90
abbrev OP:Nat:=204
abbrev OO:Nat:=117
abbrev Hs:Nat:=151
structure MA where
 k:Nat
 b:Bool
def Uw {α:Type} (p:α->Bool) (m:MA):List α->Ex×MA
 | []=>(.exit 0,m)
 | a::_=>match p a with | true=>(.ret,⟨m.k,true⟩) | false=>(.normal,⟨m.k+1,false⟩)
def sj {α:Type} (l:List α) (p:α->Bool) (m:MA):T (Ex×MA):=.aE (decide (m.k<=l.length /\ m.b=false)) (.aD (Uw p m (l.drop m.k)))
def jF {α:Type} (p:α->Bool):Nat->List α->Nat
 | k,[]=>k
 | k,a::r=>match p a with | true=>k | false=>jF p (k+1) r
def qu {α:Type} (p:α->Bool) (k:Nat) (l:List α):Ex×MA:=match l.any p with | true=>(.ret,⟨jF p k l,true⟩) | false=>(.exit 0,⟨k+l.length,false⟩)
theorem M9 {α:Type} {l:List α} {p:α->Bool}:∀(r:List α) (k:Nat),l.drop k=r->k<=l.length->dK (sj l p) (r.length+1) ⟨k,false⟩=some (qu p k r):=by
 intro r;induction r with
 | nil =>intro k hr hk;rw [ac8,dK,sj,nv (aaC ⟨hk,rfl⟩)];simp only [T.val,hr,Uw];rfl
 | cons a r ih =>
   intro k hr hk;have hlt:k < l.length:=by
    rcases Nat.lt_or_ge k l.length with h | h
    ·exact h
    ·rw [ade h] at hr;cases hr
   have rj:l.drop (k+1)=r:=by rw [show l.drop (k+1)=(l.drop k).drop 1 by rw [List.drop_drop],hr];rfl
   rw [aaQ,dK,sj,nv (aaC ⟨hk,rfl⟩)];simp only [T.val,hr,Uw];cases ha:p a with
   | true=>simp only [qu,List.any_cons,ha,Bool.true_or,jF]
   | false =>simp only [ih (k+1) rj (by omega),qu,List.any_cons,ha,Bool.false_or,jF,aaQ];rw [show k+1+r.length=k+(r.length+1) by omega]
theorem B5:dH Tryz.prog (iu lp σ) b9:=fun f g h=>by cases h
def K5:List Nat:=[2,3,6,7,8]
def eQ (x:Nt) (w:W):Bool:=w.ae==x.ae
def jy (x:Nt) (e:N1):Bool:=gU (decide (e.val > 0)) (gU (decide (x.Ah<=e.val)) (decide (e.val<=x.Cu)))
def eP (x:Nt) (s:Sp):Bool:=gU s.is (gU (decide (s.Cj<=x.Cu)) (decide (s.Ks>=x.Ah)))
theorem gE {α:Type} (d:α):∀{l:List α} {k:Nat},k < l.length->l.drop k=l.getD k d::l.drop (k+1)
 | [],k,h=>by cases h
 | a::r,0,h=>rfl
 | a::r,k+1,h=>by have:=gE d (l:=r) (k:=k) (Nat.lt_of_succ_lt_succ h);exact this
theorem ab0 (b:Bool):uA (.v (.c (.bt b))):=by intro x hx;simp [V1.cells] at hx;subst hx;rfl
theorem tu (n:Int):uA (.v (.c (.it .i64 n))):=by intro x hx;simp [V1.cells] at hx;subst hx;rfl
def L1:Code:=jv 2 (cQ (eG Tryz.f112))
def Z8 (q:Nat) (l:List W):List (aK AV):=[.cells [.vs 8 0 q 5 false] OO,.bN (.fD l)]
def P7 (x:Nt) (q:Nat) (l:List W) (i:Int) (b:Bool):St AV :=
 {E:=only K5 [(2,.v (.c (.ptr 9 0))),(3,.v (.c (.bl b))),(6,.v (.c (.vs 8 0 q 5 false))),(7,.v (.c (.it .i64 q))),(8,.v (.c (.it .i64 i)))] 19,H:=tj bS [.cells [.vs 8 0 q 5 false] OO,.bN (.fD l),.cells (Nt.enc x) Hs]}
theorem s1R (σ:Sg) (x:Nt) (q:Nat) (l:List W) (i:Int):(xc (NV σ) (bE (lv (NV σ) b9 5)) (fun _=>none) 19 L1 (P7 x q l i false)).bind (ff 10 19 K5 fw)=.ite (decide (i < (q:Int))) (.aE (decide (0<=i /\ i < (q:Int))) (.aE (decide (0+i.toNat < l.length)) (.ite (eQ x (l.getD (0+i.toNat) fg.bK)) (.aD (.ret,P7 x q l i true)) (.aD (.normal,P7 x q l (IntKind.wrap .i64 (i+1)) false))))) (.aD (.exit 0,P7 x q l i false)):=by kernel_rfl
def IQ (x:Nt) (l:List W) (m:MA):St AV:=P7 x l.length l m.k m.b
theorem Ts (σ:Sg) (x:Nt) (l:List W) (hl:l.length<=100000) (m:MA) (r:Ex×MA) (h:(sj l (eQ x) m).val=some r) :
 ((xc (NV σ) (bE (lv (NV σ) b9 5)) (fun _=>none) 19 L1 (IQ x l m)).bind (ff 10 19 K5 fw)).val=some (r.1,IQ x l r.2):=by
 replace h:=aC h
 obtain⟨hb,h⟩:=h;obtain⟨h1,h2⟩:=aaF hb;cases h;obtain⟨k,b⟩:=m;simp only at h1 h2;subst h2;have e1:0+(k:Int).toNat=k:=by omega
 have hw:IntKind.wrap .i64 ((k:Int)+1)=((k+1:Nat):Int):=ml (by omega);dsimp only [IQ];rw [s1R];by_cases hk:k < l.length
 ·rw [oX (aaC (by show (k:Int) < _;omega)),nv (aaC (by omega)),e1,nv (aaC hk),hw];have ed:l.drop k=l.getD k fg.bK::l.drop (k+1):=by exact gE _ hk
  rw [ed];cases hp:eQ x (l.getD k fg.bK) with
  | true=>simp only [Uw,hp];rfl
  | false=>simp only [Uw,hp];rfl
 ·rw [oY (aaK (by show ¬(k:Int) < _;omega)),ade (by omega)];rfl
def g1 (an:Nt->List W->Bool) (ix:Nt->List W->Nat) (s:St AV):T (Ex×St AV):=match mI s.H 0 bS with
 | some [some (.cells [.vs 8 0 q 5 false] ty),some (.bN (.fD l)),some (.cells [.it .i64 a,.it .i64 b,.it .i64 c,.it .i64 d,.bt e,.it .i64 f,.it .i64 g] OL)] =>
   match Sx.aJ s.E 2,Sx.aJ s.E 3,Sx.aJ s.E 6,Sx.aJ s.E 7,Sx.aJ s.E 8,Nat.beq ty OO,Nat.beq OL Hs with
   | .v (.c (.ptr 9 0)),.v (.c (.bl false)),.v (.c (.vs 8 0 q1 5 false)),.v (.c (.it .i64 q2)),.v (.c (.il .i64 0)),true,true =>
     .aE (decide (q=l.length /\ q1=q /\ q2=(q:Int) /\ l.length<=100000)) (.ite (an ⟨a,b,c,d,e,f,g⟩ l) (.aD (.ret,P7 ⟨a,b,c,d,e,f,g⟩ l.length l (ix ⟨a,b,c,d,e,f,g⟩ l) true)) (.aD (.exit 0,P7 ⟨a,b,c,d,e,f,g⟩ l.length l l.length false)))
   | _,_,_,_,_,_,_=>.fail "kept"
 | _=>.fail "kept"
theorem ao5 {N':eI AV} (hF:N'.F=(NV σ).F) (hG:N'.G=(NV σ).G):gr Tryz.prog N' 19 L1 (g1 (fun x l=>l.any (eQ x)) (fun x l=>jF (eQ x) 0 l)):=by
 have cR:gZ Tryz.prog (NV σ) (bE (lv (NV σ) b9 5)):=dt (mQ sJ uD K7 bp 5);refine eY (N:=NV σ) hF hG sJ cR (lp:=fun _=>none) (fun _ _ _ g hg=>by cases hg) fun s s' ex cM=>?_;obtain⟨E1,H1⟩:=s;unfold g1 at cM;split at cM
 ·rename_i q ty l a b c d e f g OL hs;have hs:=iY hs;simp only at hs;subst hs;split at cM
  ·rename_i q1 q2 e2 e3 e6 e7 e8 rQ FO;have rQ:=(aG _ _).1 rQ;have FO:=(aG _ _).1 FO;subst rQ FO;simp only at e2 e3 e6 e7 e8
   replace cM:=aC cM
   obtain⟨hb,cM⟩:=cM;obtain⟨rfl,rfl,rfl,hl⟩:=aaF hb;have R5:(ex,s')=((qu (eQ ⟨a,b,c,d,e,f,g⟩) 0 l).1,IQ ⟨a,b,c,d,e,f,g⟩ l (qu (eQ ⟨a,b,c,d,e,f,g⟩) 0 l).2):=by
    cases ha:l.any (eQ ⟨a,b,c,d,e,f,g⟩) with
    | true =>rw [oX ha] at cM;simp only [T.val,aaf] at cM;rw [<- cM];unfold qu;rw [ha];rfl
    | false =>rw [oY ha] at cM;simp only [T.val,aaf] at cM;rw [<- cM];unfold qu;rw [ha];simp only [IQ,aby]
   simp only [aaB] at R5;obtain⟨rfl,rfl⟩:=R5;refine⟨{M:=MA,tX:=IQ ⟨a,b,c,d,e,f,g⟩ l,step:=sj l (eQ ⟨a,b,c,d,e,f,g⟩),ks:=K5,pk:=fw,Aw:=(fun d a h=>by cases h),L:=10,len:=rfl,GV:=(by show 7<=10;decide),run:=Ts σ ⟨a,b,c,d,e,f,g⟩ l hl,m:=⟨0,false⟩,k:=_,m':=_,Ld:=?_,it:=M9 l 0 rfl (acX _),fin:=rfl}⟩;refine qp (N:=NV σ) (nt:=19) (E:=E1) (ks:=K5) (E':=[(2,.v (.c (.ptr 9 0))),(3,.v (.c (.bl false))),(6,.v (.c (.vs 8 0 l.length 5 false))),(7,.v (.c (.it .i64 l.length))),(8,.v (.c (.it .i64 (0:Nat))))]) fun k hk=>?_;simp only [K5,aaO,aaR,or_false] at hk;rcases hk with rfl | rfl | rfl | rfl | rfl
   ·exact .inl e2.symm
   ·exact .inl e3.symm
   ·exact .inl e6.symm
   ·exact .inl e7.symm
   ·exact .inr ⟨by rw [e8];rintro ⟨⟩,tu _,fun ρ=>by rw [e8];rfl⟩
  ·cases cM
 ·cases cM
def lp1 (an:Nt->List W->Bool) (ix:Nt->List W->Nat):Lp:=lK 112 2 (g1 an ix) jE
theorem asQ:fO Tryz.prog (iu (lp1 (fun x l=>l.any (eQ x)) (fun x l=>jF (eQ x) 0 l)) σ) :=
 lu nO (fn:=Tryz.f112) (by kernel_rfl) (c:=eG Tryz.f112) (by kernel_rfl) (nt:=19) (by kernel_rfl) (b:=L1) (cN (by kernel_rfl)) (ao5 rfl rfl)
theorem c1R (σ:Sg) (an:Nt->List W->Bool) (ix:Nt->List W->Nat) (x:Nt) (q:Nat) (l:List W):uU (lp1 an ix) σ b9 112 bS [.v (.agg (Nt.enc x)),.v (.c (.ptr 7 0))] (Z8 q l) =
 .aE (decide (q=l.length /\ q=q /\ (q:Int)=(q:Int) /\ l.length<=100000)) (.ite (an x l) (.aD (C8 (.v (.c (.bl true)),tj bS (Z8 l.length l)))) (.aD (C8 (.v (.c (.bl false)),tj bS (Z8 l.length l))))):=by kernel_rfl
def sv1 (an:Nt->List W->Bool) (args:List SV) (ch:List (aK AV)):T (SV×List (aK AV)×List (aK AV)):=match args,ch with
 | [.v (.agg [.it .i64 a,.it .i64 b,.it .i64 c,.it .i64 d,.bt e,.it .i64 f,.it .i64 g]),.v (.c (.ptr 7 0))],[.cells [.vs 8 0 q 5 false] ty,.bN (.fD l)]=>match Nat.beq ty OO with
   | true=>.aE (decide (q=l.length /\ l.length<=100000)) (.aD (.v (.c (.bt (an ⟨a,b,c,d,e,f,g⟩ l))),Z8 q l,[]))
   | false=>.fail "kept"
 | _,_=>.fail "kept"
theorem Wh:cE Tryz.prog (NV σ) 112 (qK cL bS (sv1 fun x l=>l.any (eQ x))):=by
 refine kC (N:=iu (lp1 (fun x l=>l.any (eQ x)) (fun x l=>jF (eQ x) 0 l)) σ) (N':=NV σ) rfl rfl (n7 dL rfl fun args ch v l' nw h hlen ha hC=>?_);unfold sv1 at h;split at h
 ·rename_i a b c d e f g q ty l;split at h
  ·rename_i rQ;have rQ:=(aG _ _).1 rQ;subst rQ
   replace h:=aC h
   obtain⟨hb,h⟩:=h;obtain⟨rfl,hl⟩:=aaF hb;cases h;have hr:(uU (lp1 (fun x l=>l.any (eQ x)) (fun x l=>jF (eQ x) 0 l)) σ b9 112 bS [.v (.agg [.it .i64 a,.it .i64 b,.it .i64 c,.it .i64 d,.bt e,.it .i64 f,.it .i64 g]),.v (.c (.ptr 7 0))] [.cells [.vs 8 0 l.length 5 false] OO,.bN (.fD l)]).val=some (C8 (.v (.c (.bl (l.any (eQ ⟨a,b,c,d,e,f,g⟩)))),tj bS (Z8 l.length l))):=by
    refine(congrArg T.val (c1R σ (fun x l=>l.any (eQ x)) (fun x l=>jF (eQ x) 0 l) ⟨a,b,c,d,e,f,g⟩ l.length l)).trans ?_;rw [nv (aaC ⟨rfl,rfl,rfl,hl⟩)];cases hp:l.any (eQ ⟨a,b,c,d,e,f,g⟩) with
    | true=>rfl
    | false=>rfl
   exact rA (v:=.v (.c (.bl (l.any (eQ ⟨a,b,c,d,e,f,g⟩))))) (jC asQ B5 rfl hr (by rintro ⟨⟩)) ((ab0 _).cl _) fun ρ=>rfl
  ·cases h
 ·cases h
def L2:Code:=jv 2 (cQ (eG Tryz.f113))
def Z7 (q:Nat) (l:List N1):List (aK AV):=[.cells [.vs 8 0 q 1 false] OQ,.bN (.ie l)]
def P6 (x:Nt) (q:Nat) (l:List N1) (i:Int) (b:Bool):St AV :=
 {E:=only K5 [(2,.v (.c (.ptr 9 0))),(3,.v (.c (.bl b))),(6,.v (.c (.vs 8 0 q 1 false))),(7,.v (.c (.it .i64 q))),(8,.v (.c (.it .i64 i)))] 27,H:=tj bS [.cells [.vs 8 0 q 1 false] OQ,.bN (.ie l),.cells (Nt.enc x) Hs]}
theorem s2R (σ:Sg) (x:Nt) (q:Nat) (l:List N1) (i:Int):(xc (NV σ) (bE (lv (NV σ) b9 5)) (fun _=>none) 27 L2 (P6 x q l i false)).bind (ff 10 27 K5 fw)=.ite (decide (i < (q:Int))) (.aE (match decide (0<=i /\ i < (q:Int)) with | true=>decide (0+i.toNat < l.length) | false=>false) (.ite (jy x (l.getD (0+i.toNat) gx.bK)) (.aD (.ret,P6 x q l i true)) (.aD (.normal,P6 x q l (IntKind.wrap .i64 (i+1)) false)))) (.aD (.exit 0,P6 x q l i false)):=by kernel_rfl
def IP (x:Nt) (l:List N1) (m:MA):St AV:=P6 x l.length l m.k m.b
theorem Tq (σ:Sg) (x:Nt) (l:List N1) (hl:l.length<=100000) (m:MA) (r:Ex×MA) (h:(sj l (jy x) m).val=some r) :
 ((xc (NV σ) (bE (lv (NV σ) b9 5)) (fun _=>none) 27 L2 (IP x l m)).bind (ff 10 27 K5 fw)).val=some (r.1,IP x l r.2):=by
 replace h:=aC h
 obtain⟨hb,h⟩:=h;obtain⟨h1,h2⟩:=aaF hb;cases h;obtain⟨k,b⟩:=m;simp only at h1 h2;subst h2;have e1:0+(k:Int).toNat=k:=by omega
 have hw:IntKind.wrap .i64 ((k:Int)+1)=((k+1:Nat):Int):=ml (by omega);dsimp only [IP];rw [s2R];by_cases hk:k < l.length
 ·rw [oX (aaC (by show (k:Int) < _;omega)),e1,nv (by rw [aaC (show 0<=(k:Int) /\ (k:Int) < (l.length:Int) by omega),aaC hk]),hw];have ed:l.drop k=l.getD k gx.bK::l.drop (k+1):=by exact gE _ hk
  rw [ed];cases hp:jy x (l.getD k gx.bK) with
  | true=>simp only [Uw,hp];rfl
  | false=>simp only [Uw,hp];rfl
 ·rw [oY (aaK (by show ¬(k:Int) < _;omega)),ade (by omega)];rfl
def g2 (an:Nt->List N1->Bool) (ix:Nt->List N1->Nat) (s:St AV):T (Ex×St AV):=match mI s.H 0 bS with
 | some [some (.cells [.vs 8 0 q 1 false] ty),some (.bN (.ie l)),some (.cells [.it .i64 a,.it .i64 b,.it .i64 c,.it .i64 d,.bt e,.it .i64 f,.it .i64 g] OL)] =>
   match Sx.aJ s.E 2,Sx.aJ s.E 3,Sx.aJ s.E 6,Sx.aJ s.E 7,Sx.aJ s.E 8,Nat.beq ty OQ,Nat.beq OL Hs with
   | .v (.c (.ptr 9 0)),.v (.c (.bl false)),.v (.c (.vs 8 0 q1 1 false)),.v (.c (.it .i64 q2)),.v (.c (.il .i64 0)),true,true =>
     .aE (decide (q=l.length /\ q1=q /\ q2=(q:Int) /\ l.length<=100000)) (.ite (an ⟨a,b,c,d,e,f,g⟩ l) (.aD (.ret,P6 ⟨a,b,c,d,e,f,g⟩ l.length l (ix ⟨a,b,c,d,e,f,g⟩ l) true)) (.aD (.exit 0,P6 ⟨a,b,c,d,e,f,g⟩ l.length l l.length false)))
   | _,_,_,_,_,_,_=>.fail "kept"
 | _=>.fail "kept"
theorem ao4 {N':eI AV} (hF:N'.F=(NV σ).F) (hG:N'.G=(NV σ).G):gr Tryz.prog N' 27 L2 (g2 (fun x l=>l.any (jy x)) (fun x l=>jF (jy x) 0 l)):=by
 have cR:gZ Tryz.prog (NV σ) (bE (lv (NV σ) b9 5)):=dt (mQ sJ uD K7 bp 5);refine eY (N:=NV σ) hF hG sJ cR (lp:=fun _=>none) (fun _ _ _ g hg=>by cases hg) fun s s' ex cM=>?_;obtain⟨E1,H1⟩:=s;unfold g2 at cM;split at cM
 ·rename_i q ty l a b c d e f g OL hs;have hs:=iY hs;simp only at hs;subst hs;split at cM
  ·rename_i q1 q2 e2 e3 e6 e7 e8 rQ FO;have rQ:=(aG _ _).1 rQ;have FO:=(aG _ _).1 FO;subst rQ FO;simp only at e2 e3 e6 e7 e8
   replace cM:=aC cM
   obtain⟨hb,cM⟩:=cM;obtain⟨rfl,rfl,rfl,hl⟩:=aaF hb;have R5:(ex,s')=((qu (jy ⟨a,b,c,d,e,f,g⟩) 0 l).1,IP ⟨a,b,c,d,e,f,g⟩ l (qu (jy ⟨a,b,c,d,e,f,g⟩) 0 l).2):=by
    cases ha:l.any (jy ⟨a,b,c,d,e,f,g⟩) with
    | true =>rw [oX ha] at cM;simp only [T.val,aaf] at cM;rw [<- cM];unfold qu;rw [ha];rfl
    | false =>rw [oY ha] at cM;simp only [T.val,aaf] at cM;rw [<- cM];unfold qu;rw [ha];simp only [IP,aby]
   simp only [aaB] at R5;obtain⟨rfl,rfl⟩:=R5;refine⟨{M:=MA,tX:=IP ⟨a,b,c,d,e,f,g⟩ l,step:=sj l (jy ⟨a,b,c,d,e,f,g⟩),ks:=K5,pk:=fw,Aw:=(fun d a h=>by cases h),L:=10,len:=rfl,GV:=(by show 7<=10;decide),run:=Tq σ ⟨a,b,c,d,e,f,g⟩ l hl,m:=⟨0,false⟩,k:=_,m':=_,Ld:=?_,it:=M9 l 0 rfl (acX _),fin:=rfl}⟩;refine qp (N:=NV σ) (nt:=27) (E:=E1) (ks:=K5) (E':=[(2,.v (.c (.ptr 9 0))),(3,.v (.c (.bl false))),(6,.v (.c (.vs 8 0 l.length 1 false))),(7,.v (.c (.it .i64 l.length))),(8,.v (.c (.it .i64 (0:Nat))))]) fun k hk=>?_;simp only [K5,aaO,aaR,or_false] at hk;rcases hk with rfl | rfl | rfl | rfl | rfl
   ·exact .inl e2.symm
   ·exact .inl e3.symm
   ·exact .inl e6.symm
   ·exact .inl e7.symm
   ·exact .inr ⟨by rw [e8];rintro ⟨⟩,tu _,fun ρ=>by rw [e8];rfl⟩
  ·cases cM
 ·cases cM
def lp2 (an:Nt->List N1->Bool) (ix:Nt->List N1->Nat):Lp:=lK 113 2 (g2 an ix) jE
theorem asP:fO Tryz.prog (iu (lp2 (fun x l=>l.any (jy x)) (fun x l=>jF (jy x) 0 l)) σ) :=
 lu nO (fn:=Tryz.f113) (by kernel_rfl) (c:=eG Tryz.f113) (by kernel_rfl) (nt:=27) (by kernel_rfl) (b:=L2) (cN (by kernel_rfl)) (ao4 rfl rfl)
theorem c2R (σ:Sg) (an:Nt->List N1->Bool) (ix:Nt->List N1->Nat) (x:Nt) (q:Nat) (l:List N1):uU (lp2 an ix) σ b9 113 bS [.v (.agg (Nt.enc x)),.v (.c (.ptr 7 0))] (Z7 q l) =
 .aE (decide (q=l.length /\ q=q /\ (q:Int)=(q:Int) /\ l.length<=100000)) (.ite (an x l) (.aD (C8 (.v (.c (.bl true)),tj bS (Z7 l.length l)))) (.aD (C8 (.v (.c (.bl false)),tj bS (Z7 l.length l))))):=by kernel_rfl
def sv2 (an:Nt->List N1->Bool) (args:List SV) (ch:List (aK AV)):T (SV×List (aK AV)×List (aK AV)):=match args,ch with
 | [.v (.agg [.it .i64 a,.it .i64 b,.it .i64 c,.it .i64 d,.bt e,.it .i64 f,.it .i64 g]),.v (.c (.ptr 7 0))],[.cells [.vs 8 0 q 1 false] ty,.bN (.ie l)]=>match Nat.beq ty OQ with
   | true=>.aE (decide (q=l.length /\ l.length<=100000)) (.aD (.v (.c (.bt (an ⟨a,b,c,d,e,f,g⟩ l))),Z7 q l,[]))
   | false=>.fail "kept"
 | _,_=>.fail "kept"
theorem Wg:cE Tryz.prog (NV σ) 113 (qK cL bS (sv2 fun x l=>l.any (jy x))):=by
 refine kC (N:=iu (lp2 (fun x l=>l.any (jy x)) (fun x l=>jF (jy x) 0 l)) σ) (N':=NV σ) rfl rfl (n7 dL rfl fun args ch v l' nw h hlen ha hC=>?_);unfold sv2 at h;split at h
 ·rename_i a b c d e f g q ty l;split at h
  ·rename_i rQ;have rQ:=(aG _ _).1 rQ;subst rQ
   replace h:=aC h
   obtain⟨hb,h⟩:=h;obtain⟨rfl,hl⟩:=aaF hb;cases h;have hr:(uU (lp2 (fun x l=>l.any (jy x)) (fun x l=>jF (jy x) 0 l)) σ b9 113 bS [.v (.agg [.it .i64 a,.it .i64 b,.it .i64 c,.it .i64 d,.bt e,.it .i64 f,.it .i64 g]),.v (.c (.ptr 7 0))] [.cells [.vs 8 0 l.length 1 false] OQ,.bN (.ie l)]).val=some (C8 (.v (.c (.bl (l.any (jy ⟨a,b,c,d,e,f,g⟩)))),tj bS (Z7 l.length l))):=by
    refine(congrArg T.val (c2R σ (fun x l=>l.any (jy x)) (fun x l=>jF (jy x) 0 l) ⟨a,b,c,d,e,f,g⟩ l.length l)).trans ?_;rw [nv (aaC ⟨rfl,rfl,rfl,hl⟩)];cases hp:l.any (jy ⟨a,b,c,d,e,f,g⟩) with
    | true=>rfl
    | false=>rfl
   exact rA (v:=.v (.c (.bl (l.any (jy ⟨a,b,c,d,e,f,g⟩))))) (jC asP B5 rfl hr (by rintro ⟨⟩)) ((ab0 _).cl _) fun ρ=>rfl
  ·cases h
 ·cases h
def L3:Code:=jv 2 (cQ (eG Tryz.f114))
def Z6 (q:Nat) (l:List Sp):List (aK AV):=[.cells [.vs 8 0 q 3 false] OP,.bN (.fe l)]
def P5 (x:Nt) (q:Nat) (l:List Sp) (i:Int) (b:Bool):St AV :=
 {E:=only K5 [(2,.v (.c (.ptr 9 0))),(3,.v (.c (.bl b))),(6,.v (.c (.vs 8 0 q 3 false))),(7,.v (.c (.it .i64 q))),(8,.v (.c (.it .i64 i)))] 29,H:=tj bS [.cells [.vs 8 0 q 3 false] OP,.bN (.fe l),.cells (Nt.enc x) Hs]}
theorem s3R (σ:Sg) (x:Nt) (q:Nat) (l:List Sp) (i:Int):(xc (NV σ) (bE (lv (NV σ) b9 5)) (fun _=>none) 29 L3 (P5 x q l i false)).bind (ff 10 29 K5 fw)=.ite (decide (i < (q:Int))) (.aE (decide (0<=i /\ i < (q:Int))) (.aE (decide (0+i.toNat < l.length)) (.ite (eP x (l.getD (0+i.toNat) qi.bK)) (.aD (.ret,P5 x q l i true)) (.aD (.normal,P5 x q l (IntKind.wrap .i64 (i+1)) false))))) (.aD (.exit 0,P5 x q l i false)):=by kernel_rfl
def IM (x:Nt) (l:List Sp) (m:MA):St AV:=P5 x l.length l m.k m.b
theorem Tp (σ:Sg) (x:Nt) (l:List Sp) (hl:l.length<=100000) (m:MA) (r:Ex×MA) (h:(sj l (eP x) m).val=some r) :
 ((xc (NV σ) (bE (lv (NV σ) b9 5)) (fun _=>none) 29 L3 (IM x l m)).bind (ff 10 29 K5 fw)).val=some (r.1,IM x l r.2):=by
 replace h:=aC h
 obtain⟨hb,h⟩:=h;obtain⟨h1,h2⟩:=aaF hb;cases h;obtain⟨k,b⟩:=m;simp only at h1 h2;subst h2;have e1:0+(k:Int).toNat=k:=by omega
 have hw:IntKind.wrap .i64 ((k:Int)+1)=((k+1:Nat):Int):=ml (by omega);dsimp only [IM];rw [s3R];by_cases hk:k < l.length
 ·rw [oX (aaC (by show (k:Int) < _;omega)),nv (aaC (by omega)),e1,nv (aaC hk),hw];have ed:l.drop k=l.getD k qi.bK::l.drop (k+1):=by exact gE _ hk
  rw [ed];cases hp:eP x (l.getD k qi.bK) with
  | true=>simp only [Uw,hp];rfl
  | false=>simp only [Uw,hp];rfl
 ·rw [oY (aaK (by show ¬(k:Int) < _;omega)),ade (by omega)];rfl
def g3 (an:Nt->List Sp->Bool) (ix:Nt->List Sp->Nat) (s:St AV):T (Ex×St AV):=match mI s.H 0 bS with
 | some [some (.cells [.vs 8 0 q 3 false] ty),some (.bN (.fe l)),some (.cells [.it .i64 a,.it .i64 b,.it .i64 c,.it .i64 d,.bt e,.it .i64 f,.it .i64 g] OL)] =>
   match Sx.aJ s.E 2,Sx.aJ s.E 3,Sx.aJ s.E 6,Sx.aJ s.E 7,Sx.aJ s.E 8,Nat.beq ty OP,Nat.beq OL Hs with
   | .v (.c (.ptr 9 0)),.v (.c (.bl false)),.v (.c (.vs 8 0 q1 3 false)),.v (.c (.it .i64 q2)),.v (.c (.il .i64 0)),true,true =>
     .aE (decide (q=l.length /\ q1=q /\ q2=(q:Int) /\ l.length<=100000)) (.ite (an ⟨a,b,c,d,e,f,g⟩ l) (.aD (.ret,P5 ⟨a,b,c,d,e,f,g⟩ l.length l (ix ⟨a,b,c,d,e,f,g⟩ l) true)) (.aD (.exit 0,P5 ⟨a,b,c,d,e,f,g⟩ l.length l l.length false)))
   | _,_,_,_,_,_,_=>.fail "kept"
 | _=>.fail "kept"
theorem ao3 {N':eI AV} (hF:N'.F=(NV σ).F) (hG:N'.G=(NV σ).G):gr Tryz.prog N' 29 L3 (g3 (fun x l=>l.any (eP x)) (fun x l=>jF (eP x) 0 l)):=by
 have cR:gZ Tryz.prog (NV σ) (bE (lv (NV σ) b9 5)):=dt (mQ sJ uD K7 bp 5);refine eY (N:=NV σ) hF hG sJ cR (lp:=fun _=>none) (fun _ _ _ g hg=>by cases hg) fun s s' ex cM=>?_;obtain⟨E1,H1⟩:=s;unfold g3 at cM;split at cM
 ·rename_i q ty l a b c d e f g OL hs;have hs:=iY hs;simp only at hs;subst hs;split at cM
  ·rename_i q1 q2 e2 e3 e6 e7 e8 rQ FO;have rQ:=(aG _ _).1 rQ;have FO:=(aG _ _).1 FO;subst rQ FO;simp only at e2 e3 e6 e7 e8
   replace cM:=aC cM
   obtain⟨hb,cM⟩:=cM;obtain⟨rfl,rfl,rfl,hl⟩:=aaF hb;have R5:(ex,s')=((qu (eP ⟨a,b,c,d,e,f,g⟩) 0 l).1,IM ⟨a,b,c,d,e,f,g⟩ l (qu (eP ⟨a,b,c,d,e,f,g⟩) 0 l).2):=by
    cases ha:l.any (eP ⟨a,b,c,d,e,f,g⟩) with
    | true =>rw [oX ha] at cM;simp only [T.val,aaf] at cM;rw [<- cM];unfold qu;rw [ha];rfl
    | false =>rw [oY ha] at cM;simp only [T.val,aaf] at cM;rw [<- cM];unfold qu;rw [ha];simp only [IM,aby]
   simp only [aaB] at R5;obtain⟨rfl,rfl⟩:=R5;refine⟨{M:=MA,tX:=IM ⟨a,b,c,d,e,f,g⟩ l,step:=sj l (eP ⟨a,b,c,d,e,f,g⟩),ks:=K5,pk:=fw,Aw:=(fun d a h=>by cases h),L:=10,len:=rfl,GV:=(by show 7<=10;decide),run:=Tp σ ⟨a,b,c,d,e,f,g⟩ l hl,m:=⟨0,false⟩,k:=_,m':=_,Ld:=?_,it:=M9 l 0 rfl (acX _),fin:=rfl}⟩;refine qp (N:=NV σ) (nt:=29) (E:=E1) (ks:=K5) (E':=[(2,.v (.c (.ptr 9 0))),(3,.v (.c (.bl false))),(6,.v (.c (.vs 8 0 l.length 3 false))),(7,.v (.c (.it .i64 l.length))),(8,.v (.c (.it .i64 (0:Nat))))]) fun k hk=>?_;simp only [K5,aaO,aaR,or_false] at hk;rcases hk with rfl | rfl | rfl | rfl | rfl
   ·exact .inl e2.symm
   ·exact .inl e3.symm
   ·exact .inl e6.symm
   ·exact .inl e7.symm
   ·exact .inr ⟨by rw [e8];rintro ⟨⟩,tu _,fun ρ=>by rw [e8];rfl⟩
  ·cases cM
 ·cases cM
def lp3 (an:Nt->List Sp->Bool) (ix:Nt->List Sp->Nat):Lp:=lK 114 2 (g3 an ix) jE
theorem asO:fO Tryz.prog (iu (lp3 (fun x l=>l.any (eP x)) (fun x l=>jF (eP x) 0 l)) σ) :=
 lu nO (fn:=Tryz.f114) (by kernel_rfl) (c:=eG Tryz.f114) (by kernel_rfl) (nt:=29) (by kernel_rfl) (b:=L3) (cN (by kernel_rfl)) (ao3 rfl rfl)
theorem c3R (σ:Sg) (an:Nt->List Sp->Bool) (ix:Nt->List Sp->Nat) (x:Nt) (q:Nat) (l:List Sp):uU (lp3 an ix) σ b9 114 bS [.v (.agg (Nt.enc x)),.v (.c (.ptr 7 0))] (Z6 q l) =
 .aE (decide (q=l.length /\ q=q /\ (q:Int)=(q:Int) /\ l.length<=100000)) (.ite (an x l) (.aD (C8 (.v (.c (.bl true)),tj bS (Z6 l.length l)))) (.aD (C8 (.v (.c (.bl false)),tj bS (Z6 l.length l))))):=by kernel_rfl
def sv3 (an:Nt->List Sp->Bool) (args:List SV) (ch:List (aK AV)):T (SV×List (aK AV)×List (aK AV)):=match args,ch with
 | [.v (.agg [.it .i64 a,.it .i64 b,.it .i64 c,.it .i64 d,.bt e,.it .i64 f,.it .i64 g]),.v (.c (.ptr 7 0))],[.cells [.vs 8 0 q 3 false] ty,.bN (.fe l)]=>match Nat.beq ty OP with
   | true=>.aE (decide (q=l.length /\ l.length<=100000)) (.aD (.v (.c (.bt (an ⟨a,b,c,d,e,f,g⟩ l))),Z6 q l,[]))
   | false=>.fail "kept"
 | _,_=>.fail "kept"
theorem Wf:cE Tryz.prog (NV σ) 114 (qK cL bS (sv3 fun x l=>l.any (eP x))):=by
 refine kC (N:=iu (lp3 (fun x l=>l.any (eP x)) (fun x l=>jF (eP x) 0 l)) σ) (N':=NV σ) rfl rfl (n7 dL rfl fun args ch v l' nw h hlen ha hC=>?_);unfold sv3 at h;split at h
 ·rename_i a b c d e f g q ty l;split at h
  ·rename_i rQ;have rQ:=(aG _ _).1 rQ;subst rQ
   replace h:=aC h
   obtain⟨hb,h⟩:=h;obtain⟨rfl,hl⟩:=aaF hb;cases h;have hr:(uU (lp3 (fun x l=>l.any (eP x)) (fun x l=>jF (eP x) 0 l)) σ b9 114 bS [.v (.agg [.it .i64 a,.it .i64 b,.it .i64 c,.it .i64 d,.bt e,.it .i64 f,.it .i64 g]),.v (.c (.ptr 7 0))] [.cells [.vs 8 0 l.length 3 false] OP,.bN (.fe l)]).val=some (C8 (.v (.c (.bl (l.any (eP ⟨a,b,c,d,e,f,g⟩)))),tj bS (Z6 l.length l))):=by
    refine(congrArg T.val (c3R σ (fun x l=>l.any (eP x)) (fun x l=>jF (eP x) 0 l) ⟨a,b,c,d,e,f,g⟩ l.length l)).trans ?_;rw [nv (aaC ⟨rfl,rfl,rfl,hl⟩)];cases hp:l.any (eP ⟨a,b,c,d,e,f,g⟩) with
    | true=>rfl
    | false=>rfl
   exact rA (v:=.v (.c (.bl (l.any (eP ⟨a,b,c,d,e,f,g⟩))))) (jC asO B5 rfl hr (by rintro ⟨⟩)) ((ab0 _).cl _) fun ρ=>rfl
  ·cases h
 ·cases h
end
section
open Go Go.Sx Go.Proofs
variable {σ:Sg} {lp:Lp}
def Ir:List Nat:=[1,4,5,8,9,10]
def LD:Code:=jv 2 (cQ (eG Tryz.f111))
def QW (an:Nt->List W->Bool):m7:=br 112 (qK cL bS (sv1 an)) b9
def QV (an:Nt->List N1->Bool):m7:=br 113 (qK cL bS (sv2 an)) b9
def QU (an:Nt->List Sp->Bool):m7:=br 114 (qK cL bS (sv3 an)) b9
abbrev pt (l:List Nt) (i:Int):Nt:=l.getD (0+i.toNat) bx.bK
def xH (σ:Sg) (n:Nat) (l:List Nt):Bool:=decide (n=gX.len (F6 σ) (AV.notes l) /\ (n+1) * (SI.bytes abD+1)<=zF)
def IY (aR:List W) (kq:Nat) (q:Nat) (l:List Nt) (i:Int) (f s:List Nt) (lf ls:Nat):St AV :=
 {E:=only Ir [(1,.xz 112 [.ptr 9 0]),(4,.v (.c (.vs 10 0 lf 7 false))),(5,.v (.c (.vs 11 0 ls 7 false))),(8,.v (.c (.vs 7 0 q 7 false))),(9,.v (.c (.it .i64 q))),(10,.v (.c (.it .i64 i)))] 28,
   H:=tj bS [.bN (.notes l),.bN (.fD aR),.cells [.vs 8 0 kq 5 false] OO,.bN (.notes f),.bN (.notes s)]}
theorem d1R (σ:Sg) (an:Nt->List W->Bool) (aR:List W) (kq q:Nat) (l:List Nt) (i:Int) (f s:List Nt) (lf ls:Nat):(xc (NV σ) (bE (lv (NV σ) (QW an) 5)) (fun _=>none) 28 LD (IY aR kq q l i f s lf ls)).bind (ff 10 28 Ir fw)=.ite (decide (i < (q:Int))) (.aE (decide (0<=i /\ i < (q:Int))) (.aE (decide (0+i.toNat < l.length)) (.aE (decide (kq=aR.length /\ aR.length<=100000))
 (.ite (an (pt l i) aR) (.aE (xH σ ls s) (.aD (.normal,IY aR kq q l (IntKind.wrap .i64 (i+1)) f (s++[pt l i]) lf (ls+1)))) (.aE (xH σ lf f) (.aD (.normal,IY aR kq q l (IntKind.wrap .i64 (i+1)) (f++[pt l i]) s (lf+1) ls)))))))
 (.aD (.exit 0,IY aR kq q l i f s lf ls)):=by kernel_rfl
def IX (aR:List N1) (kq:Nat) (q:Nat) (l:List Nt) (i:Int) (f s:List Nt) (lf ls:Nat):St AV :=
 {E:=only Ir [(1,.xz 113 [.ptr 9 0]),(4,.v (.c (.vs 10 0 lf 7 false))),(5,.v (.c (.vs 11 0 ls 7 false))),(8,.v (.c (.vs 7 0 q 7 false))),(9,.v (.c (.it .i64 q))),(10,.v (.c (.it .i64 i)))] 28,
   H:=tj bS [.bN (.notes l),.bN (.ie aR),.cells [.vs 8 0 kq 1 false] OQ,.bN (.notes f),.bN (.notes s)]}
theorem d2R (σ:Sg) (an:Nt->List N1->Bool) (aR:List N1) (kq q:Nat) (l:List Nt) (i:Int) (f s:List Nt) (lf ls:Nat):(xc (NV σ) (bE (lv (NV σ) (QV an) 5)) (fun _=>none) 28 LD (IX aR kq q l i f s lf ls)).bind (ff 10 28 Ir fw)=.ite (decide (i < (q:Int))) (.aE (decide (0<=i /\ i < (q:Int))) (.aE (decide (0+i.toNat < l.length)) (.aE (decide (kq=aR.length /\ aR.length<=100000))
 (.ite (an (pt l i) aR) (.aE (xH σ ls s) (.aD (.normal,IX aR kq q l (IntKind.wrap .i64 (i+1)) f (s++[pt l i]) lf (ls+1)))) (.aE (xH σ lf f) (.aD (.normal,IX aR kq q l (IntKind.wrap .i64 (i+1)) (f++[pt l i]) s (lf+1) ls)))))))
 (.aD (.exit 0,IX aR kq q l i f s lf ls)):=by kernel_rfl
def IW (aR:List Sp) (kq:Nat) (q:Nat) (l:List Nt) (i:Int) (f s:List Nt) (lf ls:Nat):St AV :=
 {E:=only Ir [(1,.xz 114 [.ptr 9 0]),(4,.v (.c (.vs 10 0 lf 7 false))),(5,.v (.c (.vs 11 0 ls 7 false))),(8,.v (.c (.vs 7 0 q 7 false))),(9,.v (.c (.it .i64 q))),(10,.v (.c (.it .i64 i)))] 28,
   H:=tj bS [.bN (.notes l),.bN (.fe aR),.cells [.vs 8 0 kq 3 false] OP,.bN (.notes f),.bN (.notes s)]}
theorem d3R (σ:Sg) (an:Nt->List Sp->Bool) (aR:List Sp) (kq q:Nat) (l:List Nt) (i:Int) (f s:List Nt) (lf ls:Nat):(xc (NV σ) (bE (lv (NV σ) (QU an) 5)) (fun _=>none) 28 LD (IW aR kq q l i f s lf ls)).bind (ff 10 28 Ir fw)=.ite (decide (i < (q:Int))) (.aE (decide (0<=i /\ i < (q:Int))) (.aE (decide (0+i.toNat < l.length)) (.aE (decide (kq=aR.length /\ aR.length<=100000))
 (.ite (an (pt l i) aR) (.aE (xH σ ls s) (.aD (.normal,IW aR kq q l (IntKind.wrap .i64 (i+1)) f (s++[pt l i]) lf (ls+1)))) (.aE (xH σ lf f) (.aD (.normal,IW aR kq q l (IntKind.wrap .i64 (i+1)) (f++[pt l i]) s (lf+1) ls)))))))
 (.aD (.exit 0,IW aR kq q l i f s lf ls)):=by kernel_rfl
end
section
open Go Go.Sx Go.Proofs
variable {σ:Sg} {lp:Lp}
theorem jz {nt:Nat} {N:eI AV} {s:St AV} {ks:List Nat} {E':Ev} {l:List AV} (hl:∀a∈l,∃es ty,N.F.gb a=some (es,ty,[])) (hG:N.G<=s.H.length)
 (hE:∀k∈ks,Sx.aJ E' k=Sx.aJ s.E k \/ (Sx.aJ s.E k≠.lU /\ uA (Sx.aJ E' k) /\ ∀ρ,(Sx.aJ E' k).ay ρ=(Sx.aJ s.E k).ay ρ) \/ (Sx.aJ s.E k=.v (.c .dP) /\ ∃j es,j < l.length /\ Sx.aJ E' k=.v (.c (.vs (s.H.length+j) 0 0 es false)))):td N nt s {E:=only ks E' nt,H:=s.H++fA l}:=by
 refine Qd (l:=l) rfl hl hG (fun k hk=>?_) fun k hk=>by simp only [jd,if_neg (show ¬k < nt by omega)]
 simp only [jd,if_pos hk];cases hh:nS ks k with
 | false=>exact .inl rfl
 | true=>exact .inr (hE k ((gP _ _).1 hh))
structure MD where
 k:Nat
 f:List Nt
 s:List Nt
def Zh (p:Nt->Bool) (m:MD):List Nt->Ex×MD
 | []=>(.exit 0,m)
 | a::_=>match p a with | true=>(.normal,⟨m.k+1,m.f,m.s++[a]⟩) | false=>(.normal,⟨m.k+1,m.f++[a],m.s⟩)
def uP (l:List Nt) (p:Nt->Bool) (m:MD):T (Ex×MD):=.aE (decide (m.k<=l.length /\ m.f.length<=m.k /\ m.s.length<=m.k)) (.aD (Zh p m (l.drop m.k)))
def ib (p:Nt->Bool) (l:List Nt):List Nt:=l.filter fun n=>!(p n)
def iN (p:Nt->Bool) (l:List Nt):List Nt:=l.filter p
theorem RZ {l:List Nt} {p:Nt->Bool}:∀(r:List Nt) (k:Nat) (f s:List Nt),l.drop k=r->k+r.length=l.length->f.length<=k->s.length<=k->dK (uP l p) (r.length+1) ⟨k,f,s⟩=some (.exit 0,⟨l.length,f++ib p r,s++iN p r⟩):=by
 intro r;induction r with
 | nil =>intro k f s hr hk hf hs;rw [ac8,dK,uP,nv (aaC ⟨by simp only [ac8] at hk;show k<=_;omega,hf,hs⟩)];simp only [T.val,hr,Zh,ib,iN,List.filter_nil,aeF];simp only [ac8,Nat.add_zero] at hk;rw [hk]
 | cons a r ih =>
   intro k f s hr hk hf hs;have rj:l.drop (k+1)=r:=by rw [show l.drop (k+1)=(l.drop k).drop 1 by rw [List.drop_drop],hr];rfl
   rw [aaQ] at hk;rw [aaQ,dK,uP,nv (aaC ⟨by show k<=_;omega,hf,hs⟩)];simp only [T.val,hr,Zh];cases ha:p a with
   | true =>simp only;rw [ih (k+1) f (s++[a]) rj (by omega) (by omega) (by rw [aaP];simp only [aaQ,ac8];omega)];simp only [ib,iN,aeu,ha,Bool.not_true,acA,acW];rfl
   | false =>simp only;rw [ih (k+1) (f++[a]) s rj (by omega) (by rw [aaP];simp only [aaQ,ac8];omega) (by omega)];simp only [ib,iN,aeu,ha,Bool.not_false,acA,acW];rfl
theorem oE {n:Nat} {l:List Nt} (h:n=l.length) (hn:l.length<=100000):xH σ n l=true:=by unfold xH;subst h;exact aaC ⟨rfl,abz (ac2 _ (afu hn)) (by decide)⟩
def KG (aR:List W) (l:List Nt) (m:MD):St AV:=IY aR aR.length l.length l m.k m.f m.s m.f.length m.s.length
theorem O4 (σ:Sg) (aR:List W) (l:List Nt) (hk:aR.length<=100000) (hl:l.length<=100000) (m:MD) (r:Ex×MD) (h:(uP l (fun n=>aR.any (eQ n)) m).val=some r) :
 ((xc (NV σ) (bE (lv (NV σ) (QW (fun x l=>l.any (eQ x))) 5)) (fun _=>none) 28 LD (KG aR l m)).bind (ff 10 28 Ir fw)).val=some (r.1,KG aR l r.2):=by
 replace h:=aC h
 obtain⟨hb,h⟩:=h;obtain⟨h1,h2,h3⟩:=aaF hb;cases h;obtain⟨k,f,s⟩:=m;simp only at h1 h2 h3;have e1:0+(k:Int).toNat=k:=by omega
 have hw:IntKind.wrap .i64 ((k:Int)+1)=((k+1:Nat):Int):=ml (by omega);dsimp only [KG];rw [d1R];by_cases hlt:k < l.length
 ·rw [oX (aaC (by show (k:Int) < _;omega)),nv (aaC (by omega)),nv (aaC (by omega)),nv (aaC ⟨rfl,hk⟩),hw,gE bx.bK hlt];dsimp only [pt];rw [e1];cases hp:aR.any (eQ (l.getD k bx.bK)) with
  | true=>rw [oX rfl,nv (oE rfl (by omega))];simp only [Zh,hp,T.val,aaP,aaQ,ac8]
  | false=>rw [oY rfl,nv (oE rfl (by omega))];simp only [Zh,hp,T.val,aaP,aaQ,ac8]
 ·rw [oY (aaK (by show ¬(k:Int) < _;omega)),ade (by omega)];rfl
def gD1 (fr st:List W->List Nt->List Nt) (s:St AV):T (Ex×St AV):=match mI s.H 0 bS with
 | some [some (.bN (.notes l)),some (.bN (.fD aR)),some (.cells [.vs 8 0 kq 5 false] ty)] =>
   match Sx.aJ s.E 1,Sx.aJ s.E 4,Sx.aJ s.E 5,Sx.aJ s.E 8,Sx.aJ s.E 9,Sx.aJ s.E 10,Nat.beq ty OO with
   | .xz Zs [.ptr 9 0],.v (.c .dP),.v (.c .dP),.v (.c (.vs 7 0 q1 7 false)),.v (.c (.it .i64 q2)),.v (.c (.il .i64 0)),true=>match Nat.beq Zs 112 with
     | true=>.aE (decide (q1=l.length /\ q2=(q1:Int) /\ kq=aR.length /\ aR.length<=100000 /\ l.length<=100000)) (.aD (.exit 0,IY aR aR.length l.length l l.length (fr aR l) (st aR l) (fr aR l).length (st aR l).length))
     | false=>.fail "divide"
   | _,_,_,_,_,_,_=>.fail "divide"
 | _=>.fail "divide"
theorem ajx {N':eI AV} (hF:N'.F=(NV σ).F) (hG:N'.G=(NV σ).G):gr Tryz.prog N' 28 LD (gD1 (fun aR l=>ib (fun n=>aR.any (eQ n)) l) (fun aR l=>iN (fun n=>aR.any (eQ n)) l)):=by
 have cR:gZ Tryz.prog (NV σ) (bE (lv (NV σ) (QW (fun x l=>l.any (eQ x))) 5)):=dt (mQ sJ uD K7 (aH Wh bp) 5);refine eY (N:=NV σ) hF hG sJ cR (lp:=fun _=>none) (fun _ _ _ g hg=>by cases hg) fun s s' ex cM=>?_;obtain⟨E1,H1⟩:=s;unfold gD1 at cM;split at cM
 ·rename_i l aR kq ty hs;have hs:=iY hs;simp only at hs;subst hs;split at cM
  ·rename_i Zs q1 q2 e1 e4 e5 e8 e9 DA rQ;have rQ:=(aG _ _).1 rQ;subst rQ;simp only at e1 e4 e5 e8 e9 DA;split at cM
   ·rename_i yI;have yI:=(aG _ _).1 yI;subst yI
    replace cM:=aC cM
    obtain⟨hb,cM⟩:=cM;obtain⟨rfl,rfl,rfl,hk,hl⟩:=aaF hb;cases cM;refine⟨{M:=MD,tX:=KG aR l,step:=uP l (fun n=>aR.any (eQ n)),ks:=Ir,pk:=fw,Aw:=(fun d a h=>by cases h),L:=10,len:=rfl,GV:=(by show 7<=10;decide),run:=O4 σ aR l hk hl,m:=⟨0,[],[]⟩,k:=_,m':=_,Ld:=?_,it:=RZ l 0 [] [] rfl (aby _) (acX _) (acX _),fin:=rfl}⟩;refine jz (N:=NV σ) (s:=⟨E1,_⟩) (l:=[.notes [],.notes []]) (fun a ha=>⟨7,bx.ty,by simp only [aaO,aaR,or_false,or_self] at ha;rw [ha];rfl⟩) (by show 7<=10;decide) fun k hk=>?_;simp only [Ir,aaO,aaR,or_false] at hk;rcases hk with rfl | rfl | rfl | rfl | rfl | rfl
    ·exact .inl e1.symm
    ·exact .inr (.inr ⟨e4,0,7,by decide,rfl⟩)
    ·exact .inr (.inr ⟨e5,1,7,by decide,rfl⟩)
    ·exact .inl e8.symm
    ·exact .inl e9.symm
    ·exact .inr (.inl ⟨by show Sx.aJ E1 10≠_;rw [DA];rintro ⟨⟩,tu _,fun ρ=>by show _=(Sx.aJ E1 10).ay ρ;rw [DA];rfl⟩)
   ·cases cM
  ·cases cM
 ·cases cM
def KF (aR:List N1) (l:List Nt) (m:MD):St AV:=IX aR aR.length l.length l m.k m.f m.s m.f.length m.s.length
theorem O3 (σ:Sg) (aR:List N1) (l:List Nt) (hk:aR.length<=100000) (hl:l.length<=100000) (m:MD) (r:Ex×MD) (h:(uP l (fun n=>aR.any (jy n)) m).val=some r) :
 ((xc (NV σ) (bE (lv (NV σ) (QV (fun x l=>l.any (jy x))) 5)) (fun _=>none) 28 LD (KF aR l m)).bind (ff 10 28 Ir fw)).val=some (r.1,KF aR l r.2):=by
 replace h:=aC h
 obtain⟨hb,h⟩:=h;obtain⟨h1,h2,h3⟩:=aaF hb;cases h;obtain⟨k,f,s⟩:=m;simp only at h1 h2 h3;have e1:0+(k:Int).toNat=k:=by omega
 have hw:IntKind.wrap .i64 ((k:Int)+1)=((k+1:Nat):Int):=ml (by omega);dsimp only [KF];rw [d2R];by_cases hlt:k < l.length
 ·rw [oX (aaC (by show (k:Int) < _;omega)),nv (aaC (by omega)),nv (aaC (by omega)),nv (aaC ⟨rfl,hk⟩),hw,gE bx.bK hlt];dsimp only [pt];rw [e1];cases hp:aR.any (jy (l.getD k bx.bK)) with
  | true=>rw [oX rfl,nv (oE rfl (by omega))];simp only [Zh,hp,T.val,aaP,aaQ,ac8]
  | false=>rw [oY rfl,nv (oE rfl (by omega))];simp only [Zh,hp,T.val,aaP,aaQ,ac8]
 ·rw [oY (aaK (by show ¬(k:Int) < _;omega)),ade (by omega)];rfl
def gD2 (fr st:List N1->List Nt->List Nt) (s:St AV):T (Ex×St AV):=match mI s.H 0 bS with
 | some [some (.bN (.notes l)),some (.bN (.ie aR)),some (.cells [.vs 8 0 kq 1 false] ty)] =>
   match Sx.aJ s.E 1,Sx.aJ s.E 4,Sx.aJ s.E 5,Sx.aJ s.E 8,Sx.aJ s.E 9,Sx.aJ s.E 10,Nat.beq ty OQ with
   | .xz Zs [.ptr 9 0],.v (.c .dP),.v (.c .dP),.v (.c (.vs 7 0 q1 7 false)),.v (.c (.it .i64 q2)),.v (.c (.il .i64 0)),true=>match Nat.beq Zs 113 with
     | true=>.aE (decide (q1=l.length /\ q2=(q1:Int) /\ kq=aR.length /\ aR.length<=100000 /\ l.length<=100000)) (.aD (.exit 0,IX aR aR.length l.length l l.length (fr aR l) (st aR l) (fr aR l).length (st aR l).length))
     | false=>.fail "divide"
   | _,_,_,_,_,_,_=>.fail "divide"
 | _=>.fail "divide"
theorem ajw {N':eI AV} (hF:N'.F=(NV σ).F) (hG:N'.G=(NV σ).G):gr Tryz.prog N' 28 LD (gD2 (fun aR l=>ib (fun n=>aR.any (jy n)) l) (fun aR l=>iN (fun n=>aR.any (jy n)) l)):=by
 have cR:gZ Tryz.prog (NV σ) (bE (lv (NV σ) (QV (fun x l=>l.any (jy x))) 5)):=dt (mQ sJ uD K7 (aH Wg bp) 5);refine eY (N:=NV σ) hF hG sJ cR (lp:=fun _=>none) (fun _ _ _ g hg=>by cases hg) fun s s' ex cM=>?_;obtain⟨E1,H1⟩:=s;unfold gD2 at cM;split at cM
 ·rename_i l aR kq ty hs;have hs:=iY hs;simp only at hs;subst hs;split at cM
  ·rename_i Zs q1 q2 e1 e4 e5 e8 e9 DA rQ;have rQ:=(aG _ _).1 rQ;subst rQ;simp only at e1 e4 e5 e8 e9 DA;split at cM
   ·rename_i yI;have yI:=(aG _ _).1 yI;subst yI
    replace cM:=aC cM
    obtain⟨hb,cM⟩:=cM;obtain⟨rfl,rfl,rfl,hk,hl⟩:=aaF hb;cases cM;refine⟨{M:=MD,tX:=KF aR l,step:=uP l (fun n=>aR.any (jy n)),ks:=Ir,pk:=fw,Aw:=(fun d a h=>by cases h),L:=10,len:=rfl,GV:=(by show 7<=10;decide),run:=O3 σ aR l hk hl,m:=⟨0,[],[]⟩,k:=_,m':=_,Ld:=?_,it:=RZ l 0 [] [] rfl (aby _) (acX _) (acX _),fin:=rfl}⟩;refine jz (N:=NV σ) (s:=⟨E1,_⟩) (l:=[.notes [],.notes []]) (fun a ha=>⟨7,bx.ty,by simp only [aaO,aaR,or_false,or_self] at ha;rw [ha];rfl⟩) (by show 7<=10;decide) fun k hk=>?_;simp only [Ir,aaO,aaR,or_false] at hk;rcases hk with rfl | rfl | rfl | rfl | rfl | rfl
    ·exact .inl e1.symm
    ·exact .inr (.inr ⟨e4,0,7,by decide,rfl⟩)
    ·exact .inr (.inr ⟨e5,1,7,by decide,rfl⟩)
    ·exact .inl e8.symm
    ·exact .inl e9.symm
    ·exact .inr (.inl ⟨by show Sx.aJ E1 10≠_;rw [DA];rintro ⟨⟩,tu _,fun ρ=>by show _=(Sx.aJ E1 10).ay ρ;rw [DA];rfl⟩)
   ·cases cM
  ·cases cM
 ·cases cM
def KE (aR:List Sp) (l:List Nt) (m:MD):St AV:=IW aR aR.length l.length l m.k m.f m.s m.f.length m.s.length
theorem O2 (σ:Sg) (aR:List Sp) (l:List Nt) (hk:aR.length<=100000) (hl:l.length<=100000) (m:MD) (r:Ex×MD) (h:(uP l (fun n=>aR.any (eP n)) m).val=some r) :
 ((xc (NV σ) (bE (lv (NV σ) (QU (fun x l=>l.any (eP x))) 5)) (fun _=>none) 28 LD (KE aR l m)).bind (ff 10 28 Ir fw)).val=some (r.1,KE aR l r.2):=by
 replace h:=aC h
 obtain⟨hb,h⟩:=h;obtain⟨h1,h2,h3⟩:=aaF hb;cases h;obtain⟨k,f,s⟩:=m;simp only at h1 h2 h3;have e1:0+(k:Int).toNat=k:=by omega
 have hw:IntKind.wrap .i64 ((k:Int)+1)=((k+1:Nat):Int):=ml (by omega);dsimp only [KE];rw [d3R];by_cases hlt:k < l.length
 ·rw [oX (aaC (by show (k:Int) < _;omega)),nv (aaC (by omega)),nv (aaC (by omega)),nv (aaC ⟨rfl,hk⟩),hw,gE bx.bK hlt];dsimp only [pt];rw [e1];cases hp:aR.any (eP (l.getD k bx.bK)) with
  | true=>rw [oX rfl,nv (oE rfl (by omega))];simp only [Zh,hp,T.val,aaP,aaQ,ac8]
  | false=>rw [oY rfl,nv (oE rfl (by omega))];simp only [Zh,hp,T.val,aaP,aaQ,ac8]
 ·rw [oY (aaK (by show ¬(k:Int) < _;omega)),ade (by omega)];rfl
def gD3 (fr st:List Sp->List Nt->List Nt) (s:St AV):T (Ex×St AV):=match mI s.H 0 bS with
 | some [some (.bN (.notes l)),some (.bN (.fe aR)),some (.cells [.vs 8 0 kq 3 false] ty)] =>
   match Sx.aJ s.E 1,Sx.aJ s.E 4,Sx.aJ s.E 5,Sx.aJ s.E 8,Sx.aJ s.E 9,Sx.aJ s.E 10,Nat.beq ty OP with
   | .xz Zs [.ptr 9 0],.v (.c .dP),.v (.c .dP),.v (.c (.vs 7 0 q1 7 false)),.v (.c (.it .i64 q2)),.v (.c (.il .i64 0)),true=>match Nat.beq Zs 114 with
     | true=>.aE (decide (q1=l.length /\ q2=(q1:Int) /\ kq=aR.length /\ aR.length<=100000 /\ l.length<=100000)) (.aD (.exit 0,IW aR aR.length l.length l l.length (fr aR l) (st aR l) (fr aR l).length (st aR l).length))
     | false=>.fail "divide"
   | _,_,_,_,_,_,_=>.fail "divide"
 | _=>.fail "divide"
theorem ajv {N':eI AV} (hF:N'.F=(NV σ).F) (hG:N'.G=(NV σ).G):gr Tryz.prog N' 28 LD (gD3 (fun aR l=>ib (fun n=>aR.any (eP n)) l) (fun aR l=>iN (fun n=>aR.any (eP n)) l)):=by
 have cR:gZ Tryz.prog (NV σ) (bE (lv (NV σ) (QU (fun x l=>l.any (eP x))) 5)):=dt (mQ sJ uD K7 (aH Wf bp) 5);refine eY (N:=NV σ) hF hG sJ cR (lp:=fun _=>none) (fun _ _ _ g hg=>by cases hg) fun s s' ex cM=>?_;obtain⟨E1,H1⟩:=s;unfold gD3 at cM;split at cM
 ·rename_i l aR kq ty hs;have hs:=iY hs;simp only at hs;subst hs;split at cM
  ·rename_i Zs q1 q2 e1 e4 e5 e8 e9 DA rQ;have rQ:=(aG _ _).1 rQ;subst rQ;simp only at e1 e4 e5 e8 e9 DA;split at cM
   ·rename_i yI;have yI:=(aG _ _).1 yI;subst yI
    replace cM:=aC cM
    obtain⟨hb,cM⟩:=cM;obtain⟨rfl,rfl,rfl,hk,hl⟩:=aaF hb;cases cM;refine⟨{M:=MD,tX:=KE aR l,step:=uP l (fun n=>aR.any (eP n)),ks:=Ir,pk:=fw,Aw:=(fun d a h=>by cases h),L:=10,len:=rfl,GV:=(by show 7<=10;decide),run:=O2 σ aR l hk hl,m:=⟨0,[],[]⟩,k:=_,m':=_,Ld:=?_,it:=RZ l 0 [] [] rfl (aby _) (acX _) (acX _),fin:=rfl}⟩;refine jz (N:=NV σ) (s:=⟨E1,_⟩) (l:=[.notes [],.notes []]) (fun a ha=>⟨7,bx.ty,by simp only [aaO,aaR,or_false,or_self] at ha;rw [ha];rfl⟩) (by show 7<=10;decide) fun k hk=>?_;simp only [Ir,aaO,aaR,or_false] at hk;rcases hk with rfl | rfl | rfl | rfl | rfl | rfl
    ·exact .inl e1.symm
    ·exact .inr (.inr ⟨e4,0,7,by decide,rfl⟩)
    ·exact .inr (.inr ⟨e5,1,7,by decide,rfl⟩)
    ·exact .inl e8.symm
    ·exact .inl e9.symm
    ·exact .inr (.inl ⟨by show Sx.aJ E1 10≠_;rw [DA];rintro ⟨⟩,tu _,fun ρ=>by show _=(Sx.aJ E1 10).ay ρ;rw [DA];rfl⟩)
   ·cases cM
  ·cases cM
 ·cases cM
end
section
open Go Go.Sx Go.Proofs
variable {σ:Sg} {lp:Lp}
def aih (fr st:List W->List Nt->List Nt):Lp:=lK 111 2 (gD1 fr st) jE
theorem anC:fO Tryz.prog (iu (aih (fun aR l=>ib (fun n=>aR.any (eQ n)) l) (fun aR l=>iN (fun n=>aR.any (eQ n)) l)) σ) :=
 lu nO (fn:=Tryz.f111) (by kernel_rfl) (c:=eG Tryz.f111) (by kernel_rfl) (nt:=28) (by kernel_rfl) (b:=LD) (cN (by kernel_rfl)) (ajx rfl rfl)
def dvV (lf ls:Nat):SV:=.iW [.c (.vs 9 0 lf 7 false),.c (.vs 10 0 ls 7 false)]
theorem auV (σ:Sg) (an:Nt->List W->Bool) (fr st:List W->List Nt->List Nt) (l:List Nt) (aR:List W) (q kq:Nat):uU (aih fr st) σ (QW an) 104 bS [.v (.c (.vs 7 0 q 7 false)),.v (.c (.vs 8 0 kq 5 false))] [.bN (.notes l),.bN (.fD aR)]=.aE (decide (q=l.length /\ (q:Int)=(q:Int) /\ kq=aR.length /\ aR.length<=100000 /\ l.length<=100000)) (.aD (C8 (dvV (fr aR l).length (st aR l).length,tj bS [.bN (.notes l),.bN (.fD aR),.bN (.notes (fr aR l)),.bN (.notes (st aR l))]))):=by kernel_rfl
def dv1 (fr st:List W->List Nt->List Nt) (args:List SV) (ch:List (aK AV)):T (SV×List (aK AV)×List (aK AV)):=match args,ch with
 | [.v (.c (.vs 7 0 q 7 false)),.v (.c (.vs 8 0 kq 5 false))],[.bN (.notes l),.bN (.fD aR)]=>.aE (decide (q=l.length /\ kq=aR.length /\ aR.length<=100000 /\ l.length<=100000))
     (.aD (dvV (fr aR l).length (st aR l).length,[.bN (.notes l),.bN (.fD aR)],[.bN (.notes (fr aR l)),.bN (.notes (st aR l))]))
 | _,_=>.fail "divide"
theorem ajI:cE Tryz.prog (NV σ) 104 (qK cL bS (dv1 (fun aR l=>ib (fun n=>aR.any (eQ n)) l) (fun aR l=>iN (fun n=>aR.any (eQ n)) l))):=by
 refine kC (N:=iu (aih (fun aR l=>ib (fun n=>aR.any (eQ n)) l) (fun aR l=>iN (fun n=>aR.any (eQ n)) l)) σ) (N':=NV σ) rfl rfl (n7 dL rfl fun args ch v l' nw h hlen ha hC=>?_);unfold dv1 at h;split at h
 ·rename_i q kq l aR
  replace h:=aC h
  obtain⟨hb,h⟩:=h;obtain⟨rfl,rfl,hk,hl⟩:=aaF hb;cases h;have hr:=congrArg T.val (auV σ (fun x l=>l.any (eQ x)) (fun aR l=>ib (fun n=>aR.any (eQ n)) l) (fun aR l=>iN (fun n=>aR.any (eQ n)) l) l aR l.length aR.length);rw [nv (aaC ⟨rfl,rfl,rfl,hk,hl⟩)] at hr;exact jC anC (CJ (aH Wh bp)) rfl hr (by rintro ⟨⟩)
 ·cases h
def aif (fr st:List N1->List Nt->List Nt):Lp:=lK 111 2 (gD2 fr st) jE
theorem anB:fO Tryz.prog (iu (aif (fun aR l=>ib (fun n=>aR.any (jy n)) l) (fun aR l=>iN (fun n=>aR.any (jy n)) l)) σ) :=
 lu nO (fn:=Tryz.f111) (by kernel_rfl) (c:=eG Tryz.f111) (by kernel_rfl) (nt:=28) (by kernel_rfl) (b:=LD) (cN (by kernel_rfl)) (ajw rfl rfl)
theorem auT (σ:Sg) (an:Nt->List N1->Bool) (fr st:List N1->List Nt->List Nt) (l:List Nt) (aR:List N1) (q kq:Nat):uU (aif fr st) σ (QV an) 105 bS [.v (.c (.vs 7 0 q 7 false)),.v (.c (.vs 8 0 kq 1 false))] [.bN (.notes l),.bN (.ie aR)]=.aE (decide (q=l.length /\ (q:Int)=(q:Int) /\ kq=aR.length /\ aR.length<=100000 /\ l.length<=100000)) (.aD (C8 (dvV (fr aR l).length (st aR l).length,tj bS [.bN (.notes l),.bN (.ie aR),.bN (.notes (fr aR l)),.bN (.notes (st aR l))]))):=by kernel_rfl
def dv2 (fr st:List N1->List Nt->List Nt) (args:List SV) (ch:List (aK AV)):T (SV×List (aK AV)×List (aK AV)):=match args,ch with
 | [.v (.c (.vs 7 0 q 7 false)),.v (.c (.vs 8 0 kq 1 false))],[.bN (.notes l),.bN (.ie aR)]=>.aE (decide (q=l.length /\ kq=aR.length /\ aR.length<=100000 /\ l.length<=100000))
     (.aD (dvV (fr aR l).length (st aR l).length,[.bN (.notes l),.bN (.ie aR)],[.bN (.notes (fr aR l)),.bN (.notes (st aR l))]))
 | _,_=>.fail "divide"
theorem ajH:cE Tryz.prog (NV σ) 105 (qK cL bS (dv2 (fun aR l=>ib (fun n=>aR.any (jy n)) l) (fun aR l=>iN (fun n=>aR.any (jy n)) l))):=by
 refine kC (N:=iu (aif (fun aR l=>ib (fun n=>aR.any (jy n)) l) (fun aR l=>iN (fun n=>aR.any (jy n)) l)) σ) (N':=NV σ) rfl rfl (n7 dL rfl fun args ch v l' nw h hlen ha hC=>?_);unfold dv2 at h;split at h
 ·rename_i q kq l aR
  replace h:=aC h
  obtain⟨hb,h⟩:=h;obtain⟨rfl,rfl,hk,hl⟩:=aaF hb;cases h;have hr:=congrArg T.val (auT σ (fun x l=>l.any (jy x)) (fun aR l=>ib (fun n=>aR.any (jy n)) l) (fun aR l=>iN (fun n=>aR.any (jy n)) l) l aR l.length aR.length);rw [nv (aaC ⟨rfl,rfl,rfl,hk,hl⟩)] at hr;exact jC anB (CJ (aH Wg bp)) rfl hr (by rintro ⟨⟩)
 ·cases h
def aie (fr st:List Sp->List Nt->List Nt):Lp:=lK 111 2 (gD3 fr st) jE
theorem anA:fO Tryz.prog (iu (aie (fun aR l=>ib (fun n=>aR.any (eP n)) l) (fun aR l=>iN (fun n=>aR.any (eP n)) l)) σ) :=
 lu nO (fn:=Tryz.f111) (by kernel_rfl) (c:=eG Tryz.f111) (by kernel_rfl) (nt:=28) (by kernel_rfl) (b:=LD) (cN (by kernel_rfl)) (ajv rfl rfl)
theorem auR (σ:Sg) (an:Nt->List Sp->Bool) (fr st:List Sp->List Nt->List Nt) (l:List Nt) (aR:List Sp) (q kq:Nat):uU (aie fr st) σ (QU an) 106 bS [.v (.c (.vs 7 0 q 7 false)),.v (.c (.vs 8 0 kq 3 false))] [.bN (.notes l),.bN (.fe aR)]=.aE (decide (q=l.length /\ (q:Int)=(q:Int) /\ kq=aR.length /\ aR.length<=100000 /\ l.length<=100000)) (.aD (C8 (dvV (fr aR l).length (st aR l).length,tj bS [.bN (.notes l),.bN (.fe aR),.bN (.notes (fr aR l)),.bN (.notes (st aR l))]))):=by kernel_rfl
def dv3 (fr st:List Sp->List Nt->List Nt) (args:List SV) (ch:List (aK AV)):T (SV×List (aK AV)×List (aK AV)):=match args,ch with
 | [.v (.c (.vs 7 0 q 7 false)),.v (.c (.vs 8 0 kq 3 false))],[.bN (.notes l),.bN (.fe aR)]=>.aE (decide (q=l.length /\ kq=aR.length /\ aR.length<=100000 /\ l.length<=100000))
     (.aD (dvV (fr aR l).length (st aR l).length,[.bN (.notes l),.bN (.fe aR)],[.bN (.notes (fr aR l)),.bN (.notes (st aR l))]))
 | _,_=>.fail "divide"
theorem ajG:cE Tryz.prog (NV σ) 106 (qK cL bS (dv3 (fun aR l=>ib (fun n=>aR.any (eP n)) l) (fun aR l=>iN (fun n=>aR.any (eP n)) l))):=by
 refine kC (N:=iu (aie (fun aR l=>ib (fun n=>aR.any (eP n)) l) (fun aR l=>iN (fun n=>aR.any (eP n)) l)) σ) (N':=NV σ) rfl rfl (n7 dL rfl fun args ch v l' nw h hlen ha hC=>?_);unfold dv3 at h;split at h
 ·rename_i q kq l aR
  replace h:=aC h
  obtain⟨hb,h⟩:=h;obtain⟨rfl,rfl,hk,hl⟩:=aaF hb;cases h;have hr:=congrArg T.val (auR σ (fun x l=>l.any (eP x)) (fun aR l=>ib (fun n=>aR.any (eP n)) l) (fun aR l=>iN (fun n=>aR.any (eP n)) l) l aR l.length aR.length);rw [nv (aaC ⟨rfl,rfl,rfl,hk,hl⟩)] at hr;exact jC anA (CJ (aH Wf bp)) rfl hr (by rintro ⟨⟩)
 ·cases h
