import Derived.Test.YtadmfaohjnjajaaGreatDoorQe
import Derived.Test.YtadmfaohjnjajaaGreatDoorRn
import Derived.Test.YtadmfaohjnjajaaGreatDoorSxOf
import Derived.Test.YtadmfaohjnjajaaGreatDoorSxOi
set_option linter.unusedVariables false
set_option linter.unusedSimpArgs false
set_option maxHeartbeats 0
set_option maxRecDepth 100000
noncomputable section
namespace Go.Proofs.YtadmfaohjnjajaaGreatDoor
section
open Go Go.Sx Go.Proofs
variable {σ:Sg} {lp:Lp}
def ksY:List Nat:=[0,4,7,8,9]
def LY:Code:=jv 2 (cQ (eG Tryz.f90))
def qN (n:Int) (s:Sp):Bool:=gU s.is (s.Cj != n)
def P1 (n:Int) (q:Nat) (l:List Sp) (i:Int):St AV :=
 {E:=only ksY [(0,.v (.c (.it .i64 n))),(4,.v (.c (.bl false))),(7,.v (.c (.vs 7 0 q 3 false))),(8,.v (.c (.it .i64 q))),(9,.v (.c (.it .i64 i)))] 22,H:=tj bS [.bN (.fe l)]}
theorem yR (σ:Sg) (n:Int) (q:Nat) (l:List Sp) (i:Int):(xc (NV σ) (bE (lv (NV σ) b9 5)) (fun _=>none) 22 LY (P1 n q l i)).bind (ff 8 22 ksY fw)=.ite (decide (i < (q:Int))) (.aE (decide (0<=i /\ i < (q:Int))) (.aE (decide (0+i.toNat < l.length)) (.ite (qN n (l.getD (0+i.toNat) qi.bK)) (.aD (.ret,P1 n q l i)) (.aD (.normal,P1 n q l (IntKind.wrap .i64 (i+1))))))) (.aD (.exit 0,P1 n q l i)):=by kernel_rfl
def IL (n:Int) (l:List Sp) (m:MA):St AV:=P1 n l.length l m.k
theorem Tk (σ:Sg) (n:Int) (l:List Sp) (hl:l.length<=100000) (m:MA) (r:Ex×MA) (h:(sj l (qN n) m).val=some r) :
 ((xc (NV σ) (bE (lv (NV σ) b9 5)) (fun _=>none) 22 LY (IL n l m)).bind (ff 8 22 ksY fw)).val=some (r.1,IL n l r.2):=by
 replace h:=aC h
 obtain⟨hb,h⟩:=h;obtain⟨h1,h2⟩:=aaF hb;cases h;obtain⟨k,b⟩:=m;simp only at h1 h2;subst h2;have e1:0+(k:Int).toNat=k:=by omega
 have hw:IntKind.wrap .i64 ((k:Int)+1)=((k+1:Nat):Int):=ml (by omega);dsimp only [IL];rw [yR];by_cases hk:k < l.length
 ·rw [oX (aaC (by show (k:Int) < _;omega)),nv (aaC (by omega)),e1,nv (aaC hk),hw,gE qi.bK hk];cases hp:qN n (l.getD k qi.bK) with
  | true=>simp only [Uw,hp];rfl
  | false=>simp only [Uw,hp];rfl
 ·rw [oY (aaK (by show ¬(k:Int) < _;omega)),ade (by omega)];rfl
def gY (an:Int->List Sp->Bool) (ix:Int->List Sp->Nat) (s:St AV):T (Ex×St AV):=match mI s.H 0 bS with
 | some [some (.bN (.fe l))] =>
   match Sx.aJ s.E 0,Sx.aJ s.E 4,Sx.aJ s.E 7,Sx.aJ s.E 8,Sx.aJ s.E 9 with
   | .v (.c (.it .i64 n)),.v (.c (.bl false)),.v (.c (.vs 7 0 q1 3 false)),.v (.c (.it .i64 q2)),.v (.c (.il .i64 0)) =>
     .aE (decide (q1=l.length /\ q2=(q1:Int) /\ l.length<=100000)) (.ite (an n l) (.aD (.ret,P1 n l.length l (ix n l))) (.aD (.exit 0,P1 n l.length l l.length)))
   | _,_,_,_,_=>.fail "spans"
 | _=>.fail "spans"
theorem aoY {N':eI AV} (hF:N'.F=(NV σ).F) (hG:N'.G=(NV σ).G):gr Tryz.prog N' 22 LY (gY (fun n l=>l.any (qN n)) (fun n l=>jF (qN n) 0 l)):=by
 have cR:gZ Tryz.prog (NV σ) (bE (lv (NV σ) b9 5)):=dt (mQ sJ uD K7 bp 5);refine eY (N:=NV σ) hF hG sJ cR (lp:=fun _=>none) (fun _ _ _ g hg=>by cases hg) fun s s' ex cM=>?_;obtain⟨E1,H1⟩:=s;unfold gY at cM;split at cM
 ·rename_i l hs;have hs:=iY hs;simp only at hs;subst hs;split at cM
  ·rename_i n q1 q2 e0 e4 e7 e8 e9;simp only at e0 e4 e7 e8 e9
   replace cM:=aC cM
   obtain⟨hb,cM⟩:=cM;obtain⟨rfl,rfl,hl⟩:=aaF hb;have R5:(ex,s')=((qu (qN n) 0 l).1,IL n l (qu (qN n) 0 l).2):=by
    cases ha:l.any (qN n) with
    | true =>rw [oX ha] at cM;simp only [T.val,aaf] at cM;rw [<- cM];unfold qu;rw [ha];rfl
    | false =>rw [oY ha] at cM;simp only [T.val,aaf] at cM;rw [<- cM];unfold qu;rw [ha];simp only [IL,aby]
   simp only [aaB] at R5;obtain⟨rfl,rfl⟩:=R5;refine⟨{M:=MA,tX:=IL n l,step:=sj l (qN n),ks:=ksY,pk:=fw,Aw:=(fun d a h=>by cases h),L:=8,len:=rfl,GV:=(by show 7<=8;decide),run:=Tk σ n l hl,m:=⟨0,false⟩,k:=_,m':=_,Ld:=?_,it:=M9 l 0 rfl (acX _),fin:=rfl}⟩;refine qp (N:=NV σ) (nt:=22) (E:=E1) (ks:=ksY) (E':=[(0,.v (.c (.it .i64 n))),(4,.v (.c (.bl false))),(7,.v (.c (.vs 7 0 l.length 3 false))),(8,.v (.c (.it .i64 l.length))),(9,.v (.c (.it .i64 (0:Nat))))]) fun k hk=>?_;simp only [ksY,aaO,aaR,or_false] at hk;rcases hk with rfl | rfl | rfl | rfl | rfl
   ·exact .inl e0.symm
   ·exact .inl e4.symm
   ·exact .inl e7.symm
   ·exact .inl e8.symm
   ·exact .inr ⟨by rw [e9];rintro ⟨⟩,tu _,fun ρ=>by rw [e9];rfl⟩
  ·cases cM
 ·cases cM
def lpY (an:Int->List Sp->Bool) (ix:Int->List Sp->Nat):Lp:=lK 90 2 (gY an ix) jE
theorem asL:fO Tryz.prog (iu (lpY (fun n l=>l.any (qN n)) (fun n l=>jF (qN n) 0 l)) σ) :=
 lu nO (fn:=Tryz.f90) (by kernel_rfl) (c:=eG Tryz.f90) (by kernel_rfl) (nt:=22) (by kernel_rfl) (b:=LY) (cN (by kernel_rfl)) (aoY rfl rfl)
theorem asH (σ:Sg) (an:Int->List Sp->Bool) (ix:Int->List Sp->Nat) (n:Int) (q:Nat) (l:List Sp):uU (lpY an ix) σ b9 90 bS [.v (.c (.it .i64 n)),.v (.c (.vs 7 0 q 3 false))] [.bN (.fe l)]=.aE (decide (q=l.length /\ (q:Int)=(q:Int) /\ l.length<=100000)) (.ite (an n l) (.aD (C8 (.v (.c (.bl false)),tj bS [.bN (.fe l)]))) (.aD (C8 (.v (.c (.bl true)),tj bS [.bN (.fe l)])))):=by kernel_rfl
def I1 (now:Int) (x:Nt):Bool:=ll (decide (now < -9223372036854775806)) (decide (x.Cu > IntKind.wrap .i64 (now - 2)))
theorem c4R (σ:Sg) (now:Int) (x:Nt):uU jE σ b9 115 bS [.v (.agg (Nt.enc x)),.v (.c (.ptr 7 0))] [.cells [.it .i64 now] 3]=.aD (C8 (.v (.c (.bt (I1 now x))),tj bS [.cells [.it .i64 now] 3])):=by kernel_rfl
def aia (may:Int->List Sp->Bool) (args:List SV) (ch:List (aK AV)):T (SV×List (aK AV)×List (aK AV)):=match args,ch with
 | [.v (.c (.it .i64 n)),.v (.c (.vs 7 0 q 3 false))],[.bN (.fe l)]=>.aE (decide (q=l.length /\ l.length<=100000)) (.aD (.v (.c (.bt (may n l))),[.bN (.fe l)],[]))
 | _,_=>.fail "May"
theorem ah8:cE Tryz.prog (NV σ) 90 (qK cL bS (aia fun n l=>!(l.any (qN n)))):=by
 refine kC (N:=iu (lpY (fun n l=>l.any (qN n)) (fun n l=>jF (qN n) 0 l)) σ) (N':=NV σ) rfl rfl (n7 dL rfl fun args ch v l' nw h hlen ha hC=>?_);unfold aia at h;split at h
 ·rename_i n q l
  replace h:=aC h
  obtain⟨hb,h⟩:=h;obtain⟨rfl,hl⟩:=aaF hb;cases h;have hr:(uU (lpY (fun n l=>l.any (qN n)) (fun n l=>jF (qN n) 0 l)) σ b9 90 bS [.v (.c (.it .i64 n)),.v (.c (.vs 7 0 l.length 3 false))] [.bN (.fe l)]).val=some (C8 (.v (.c (.bl (!(l.any (qN n))))),tj bS [.bN (.fe l)])):=by
   refine(congrArg T.val (asH σ (fun n l=>l.any (qN n)) (fun n l=>jF (qN n) 0 l) n l.length l)).trans ?_;rw [nv (aaC ⟨rfl,rfl,hl⟩)];cases hp:l.any (qN n) with
   | true=>rfl
   | false=>rfl
  exact rA (v:=.v (.c (.bl (!(l.any (qN n)))))) (jC asL B5 rfl hr (by rintro ⟨⟩)) ((ab0 _).cl _) fun ρ=>rfl
 ·cases h
def sv4 (ep:Int->Nt->Bool) (args:List SV) (ch:List (aK AV)):T (SV×List (aK AV)×List (aK AV)):=match args,ch with
 | [.v (.agg [.it .i64 a,.it .i64 b,.it .i64 c,.it .i64 d,.bt e,.it .i64 f,.it .i64 g]),.v (.c (.ptr 7 0))],[.cells [.it .i64 now] ty]=>match Nat.beq ty 3 with
   | true=>.aD (.v (.c (.bt (ep now ⟨a,b,c,d,e,f,g⟩))),[.cells [.it .i64 now] 3],[])
   | false=>.fail "epochs"
 | _,_=>.fail "epochs"
theorem We:cE Tryz.prog (NV σ) 115 (qK cL bS (sv4 I1)):=by
 refine kC (N:=iu jE σ) (N':=NV σ) rfl rfl (n7 dL rfl fun args ch v l' nw h hlen ha hC=>?_);unfold sv4 at h;split at h
 ·rename_i a b c d e f g now ty;split at h
  ·rename_i rQ;have rQ:=(aG _ _).1 rQ;subst rQ;cases h;exact jC nO B5 rfl (congrArg T.val (c4R σ now ⟨a,b,c,d,e,f,g⟩)) (by rintro ⟨⟩)
  ·cases h
 ·cases h
end
section
open Go Go.Sx Go.Proofs
variable {σ:Sg} {lp:Lp}
def QT (ep:Int->Nt->Bool):m7:=br 115 (qK cL bS (sv4 ep)) b9
def IV (now:Int) (q:Nat) (l:List Nt) (i:Int) (f s:List Nt) (lf ls:Nat):St AV :=
 {E:=only Ir [(1,.xz 115 [.ptr 8 0]),(4,.v (.c (.vs 9 0 lf 7 false))),(5,.v (.c (.vs 10 0 ls 7 false))),(8,.v (.c (.vs 7 0 q 7 false))),(9,.v (.c (.it .i64 q))),(10,.v (.c (.it .i64 i)))] 28,
   H:=tj bS [.bN (.notes l),.cells [.it .i64 now] 3,.bN (.notes f),.bN (.notes s)]}
theorem d4R (σ:Sg) (ep:Int->Nt->Bool) (now:Int) (q:Nat) (l:List Nt) (i:Int) (f s:List Nt) (lf ls:Nat):(xc (NV σ) (bE (lv (NV σ) (QT ep) 5)) (fun _=>none) 28 LD (IV now q l i f s lf ls)).bind (ff 9 28 Ir fw)=.ite (decide (i < (q:Int))) (.aE (decide (0<=i /\ i < (q:Int))) (.aE (decide (0+i.toNat < l.length))
 (.ite (ep now (pt l i)) (.aE (xH σ ls s) (.aD (.normal,IV now q l (IntKind.wrap .i64 (i+1)) f (s++[pt l i]) lf (ls+1)))) (.aE (xH σ lf f) (.aD (.normal,IV now q l (IntKind.wrap .i64 (i+1)) (f++[pt l i]) s (lf+1) ls))))))
 (.aD (.exit 0,IV now q l i f s lf ls)):=by kernel_rfl
def KD (now:Int) (l:List Nt) (m:MD):St AV:=IV now l.length l m.k m.f m.s m.f.length m.s.length
theorem O1 (σ:Sg) (now:Int) (l:List Nt) (hl:l.length<=100000) (m:MD) (r:Ex×MD) (h:(uP l (I1 now) m).val=some r) :
 ((xc (NV σ) (bE (lv (NV σ) (QT I1) 5)) (fun _=>none) 28 LD (KD now l m)).bind (ff 9 28 Ir fw)).val=some (r.1,KD now l r.2):=by
 replace h:=aC h
 obtain⟨hb,h⟩:=h;obtain⟨h1,h2,h3⟩:=aaF hb;cases h;obtain⟨k,f,s⟩:=m;simp only at h1 h2 h3;have e1:0+(k:Int).toNat=k:=by omega
 have hw:IntKind.wrap .i64 ((k:Int)+1)=((k+1:Nat):Int):=ml (by omega);dsimp only [KD];rw [d4R];by_cases hlt:k < l.length
 ·rw [oX (aaC (by show (k:Int) < _;omega)),nv (aaC (by omega)),nv (aaC (by omega)),hw,gE bx.bK hlt];dsimp only [pt];rw [e1];cases hp:I1 now (l.getD k bx.bK) with
  | true=>rw [oX rfl,nv (oE rfl (by omega))];simp only [Zh,hp,T.val,aaP,aaQ,ac8]
  | false=>rw [oY rfl,nv (oE rfl (by omega))];simp only [Zh,hp,T.val,aaP,aaQ,ac8]
 ·rw [oY (aaK (by show ¬(k:Int) < _;omega)),ade (by omega)];rfl
def gD4 (fr st:Int->List Nt->List Nt) (s:St AV):T (Ex×St AV):=match mI s.H 0 bS with
 | some [some (.bN (.notes l)),some (.cells [.it .i64 now] ty)] =>
   match Sx.aJ s.E 1,Sx.aJ s.E 4,Sx.aJ s.E 5,Sx.aJ s.E 8,Sx.aJ s.E 9,Sx.aJ s.E 10,Nat.beq ty 3 with
   | .xz Zs [.ptr 8 0],.v (.c .dP),.v (.c .dP),.v (.c (.vs 7 0 q1 7 false)),.v (.c (.it .i64 q2)),.v (.c (.il .i64 0)),true=>match Nat.beq Zs 115 with
     | true=>.aE (decide (q1=l.length /\ q2=(q1:Int) /\ l.length<=100000)) (.aD (.exit 0,IV now l.length l l.length (fr now l) (st now l) (fr now l).length (st now l).length))
     | false=>.fail "divide"
   | _,_,_,_,_,_,_=>.fail "divide"
 | _=>.fail "divide"
theorem aju {N':eI AV} (hF:N'.F=(NV σ).F) (hG:N'.G=(NV σ).G):gr Tryz.prog N' 28 LD (gD4 (fun now l=>ib (I1 now) l) (fun now l=>iN (I1 now) l)):=by
 have cR:gZ Tryz.prog (NV σ) (bE (lv (NV σ) (QT I1) 5)):=dt (mQ sJ uD K7 (aH We bp) 5);refine eY (N:=NV σ) hF hG sJ cR (lp:=fun _=>none) (fun _ _ _ g hg=>by cases hg) fun s s' ex cM=>?_;obtain⟨E1,H1⟩:=s;unfold gD4 at cM;split at cM
 ·rename_i l now ty hs;have hs:=iY hs;simp only at hs;subst hs;split at cM
  ·rename_i Zs q1 q2 e1 e4 e5 e8 e9 DA rQ;have rQ:=(aG _ _).1 rQ;subst rQ;simp only at e1 e4 e5 e8 e9 DA;split at cM
   ·rename_i yI;have yI:=(aG _ _).1 yI;subst yI
    replace cM:=aC cM
    obtain⟨hb,cM⟩:=cM;obtain⟨rfl,rfl,hl⟩:=aaF hb;cases cM;refine⟨{M:=MD,tX:=KD now l,step:=uP l (I1 now),ks:=Ir,pk:=fw,Aw:=(fun d a h=>by cases h),L:=9,len:=rfl,GV:=(by show 7<=9;decide),run:=O1 σ now l hl,m:=⟨0,[],[]⟩,k:=_,m':=_,Ld:=?_,it:=RZ l 0 [] [] rfl (aby _) (acX _) (acX _),fin:=rfl}⟩;refine jz (N:=NV σ) (s:=⟨E1,_⟩) (l:=[.notes [],.notes []]) (fun a ha=>⟨7,bx.ty,by simp only [aaO,aaR,or_false,or_self] at ha;rw [ha];rfl⟩) (by show 7<=9;decide) fun k hk=>?_;simp only [Ir,aaO,aaR,or_false] at hk;rcases hk with rfl | rfl | rfl | rfl | rfl | rfl
    ·exact .inl e1.symm
    ·exact .inr (.inr ⟨e4,0,7,by decide,rfl⟩)
    ·exact .inr (.inr ⟨e5,1,7,by decide,rfl⟩)
    ·exact .inl e8.symm
    ·exact .inl e9.symm
    ·exact .inr (.inl ⟨by show Sx.aJ E1 10≠_;rw [DA];rintro ⟨⟩,tu _,fun ρ=>by show _=(Sx.aJ E1 10).ay ρ;rw [DA];rfl⟩)
   ·cases cM
  ·cases cM
 ·cases cM
def aid (fr st:Int->List Nt->List Nt):Lp:=lK 111 2 (gD4 fr st) jE
theorem anz:fO Tryz.prog (iu (aid (fun now l=>ib (I1 now) l) (fun now l=>iN (I1 now) l)) σ) :=
 lu nO (fn:=Tryz.f111) (by kernel_rfl) (c:=eG Tryz.f111) (by kernel_rfl) (nt:=28) (by kernel_rfl) (b:=LD) (cN (by kernel_rfl)) (aju rfl rfl)
def apF (lf ls:Nat):SV:=.iW [.c (.vs 8 0 lf 7 false),.c (.vs 9 0 ls 7 false)]
theorem auP (σ:Sg) (ep:Int->Nt->Bool) (fr st:Int->List Nt->List Nt) (l:List Nt) (now:Int) (q:Nat):uU (aid fr st) σ (QT ep) 107 bS [.v (.c (.vs 7 0 q 7 false)),.v (.c (.it .i64 now))] [.bN (.notes l)]=.aE (decide (q=l.length /\ (q:Int)=(q:Int) /\ l.length<=100000)) (.aD (C8 (apF (fr now l).length (st now l).length,tj bS [.bN (.notes l),.bN (.notes (fr now l)),.bN (.notes (st now l))]))):=by kernel_rfl
def dv4 (fr st:Int->List Nt->List Nt) (args:List SV) (ch:List (aK AV)):T (SV×List (aK AV)×List (aK AV)):=match args,ch with
 | [.v (.c (.vs 7 0 q 7 false)),.v (.c (.it .i64 now))],[.bN (.notes l)]=>.aE (decide (q=l.length /\ l.length<=100000))
     (.aD (apF (fr now l).length (st now l).length,[.bN (.notes l)],[.bN (.notes (fr now l)),.bN (.notes (st now l))]))
 | _,_=>.fail "divide"
theorem ajF:cE Tryz.prog (NV σ) 107 (qK cL bS (dv4 (fun now l=>ib (I1 now) l) (fun now l=>iN (I1 now) l))):=by
 refine kC (N:=iu (aid (fun now l=>ib (I1 now) l) (fun now l=>iN (I1 now) l)) σ) (N':=NV σ) rfl rfl (n7 dL rfl fun args ch v l' nw h hlen ha hC=>?_);unfold dv4 at h;split at h
 ·rename_i q now l
  replace h:=aC h
  obtain⟨hb,h⟩:=h;obtain⟨rfl,hl⟩:=aaF hb;cases h;have hr:=congrArg T.val (auP σ I1 (fun now l=>ib (I1 now) l) (fun now l=>iN (I1 now) l) l now l.length);rw [nv (aaC ⟨rfl,rfl,hl⟩)] at hr;exact jC anz (CJ (aH We bp)) rfl hr (by rintro ⟨⟩)
 ·cases h
end
section
open Go Go.Sx Go.Proofs
variable {σ:Sg}
def aI4:mh (Int×Int×Int×Int) where
 enc x:=[.v (.c (.it .i64 x.1)),.v (.c (.it .i64 x.2.1)),.v (.c (.it .i64 x.2.2.1)),.v (.c (.it .i64 x.2.2.2))]
 jm:=fun | [.v (.c a),.v (.c b),.v (.c c),.v (.c d)]=>(match kL a,kL b,kL c,kL d with | some a,some b,some c,some d=>some (a,b,c,d) | _,_,_,_=>none) | _=>none
 ok:=fun l a h ρ=>by
  split at h
  ·split at h
   ·rename_i h0 h1 h2 h3;cases h;simp only [aaU,afm,SV.ay,V1.ay,b6 h0 ρ,b6 h1 ρ,b6 h2 ρ,b6 h3 ρ];rfl
   ·cases h
  ·cases h
 free:=fun _=>rfl
def sW {α:Type} (O:xp α):SV×List AV×List AV->Option α
 | (.iW [.c (.ptr 7 0),.c .fL],[],[a])=>O.X a
 | _=>none
theorem FY {α:Type} {O:xp α} {r:SV×List AV×List AV} {j:α} (h:sW O r=some j):r=(.iW [.c (.ptr 7 0),.c .fL],[],[O.V j]):=by
 unfold sW at h;split at h
 ·rw [O.ok _ _ h]
 ·cases h
def qO {γ α:Type} (A:mh γ) (O:xp α) (ok:γ->Option Bool) (mk:γ->α) (args:List SV) (l:List AV):T (SV×List AV×List AV):=match l with
 | []=>match A.jm args with
   | some x=>ET (ok x) (.aD (.iW [.c (.ptr 7 0),.c .fL],[],[O.V (mk x)]))
   | none=>.fail "maker"
 | _=>.fail "maker"
theorem qX {tab:m7} (ht:dH Tryz.prog (NV σ) tab) {f:FuncId} {M:List Bool} (hM:7=M.length) {γ α:Type} {A:mh γ} {O:xp α} {ok:γ->Option Bool} {mk:γ->α}
 (hrun:∀x,okO (ok x)=true->∃args,jq args=true /\ (∀ρ:Nm,args.map (SV.ay ρ)=(A.enc x).map (SV.ay ρ)) /\ ((kG σ tab f M args []).map (sW O)).val=some (some (mk x))):cE Tryz.prog (NV σ) f (bJ cL M (qO A O ok mk)):=by
 refine hZ dL hM fun args l v l' nw h hl bZ=>?_;unfold qO at h;split at h
 ·split at h
  ·rename_i x hx
   replace h:=kt h
   obtain⟨pf,h⟩:=h;cases h;obtain⟨Gn,e2,e3,e4⟩:=hrun x pf;obtain⟨y,h1,h2⟩:=dw e4;have h2:=FY h2;subst h2;have hc:=wK ht hM (fU e2) h1;exact jh hc.1 fun ρ=>by rw [e3 ρ,A.ok _ _ hx ρ]
  ·cases h
 ·cases h
def aoU:H9:=⟨aq,aq,aq,aq,aq,aq,aq,aq,aq⟩
def Dp (x:Int×Int×Int×Int):ax:=⟨bf,0,Mv,aq,aq,0,[],[],x.1,x.2.1,x.2.2.1,x.2.2.2,aoU,⟨false,0,0⟩,[],0,⟨aq,false⟩⟩
def Ai (e me th no:Int):Bool:=ll (decide (e < 1)) (ll (decide (e > 5)) (ll (decide (th < 1)) (ll (decide (th > 6)) (ll (decide (me < 0)) (ll (decide (me>=th)) (ll (decide (no < 1)) (decide (no > 64))))))))
theorem ahy (σ:Sg) (e me th no:Int):(kG σ b9 26 bS (aI4.enc (e,me,th,no)) []).map (sW iA)=.ite (Ai e me th no) (.fail "load") (.aE true (.aD (some (Dp (e,me,th,no))))):=by kernel_rfl
theorem Xd:cE Tryz.prog (NV σ) 26 (bJ cL bS (qO aI4 iA (fun x=>some (!(Ai x.1 x.2.1 x.2.2.1 x.2.2.2))) Dp)) :=
 qX bp rfl fun x h=>⟨aI4.enc x,rfl,fun _=>rfl,by
  obtain⟨e,me,th,no⟩:=x;have h:(!(Ai e me th no))=true:=h;rw [ahy];cases hb:Ai e me th no with
  | true=>rw [hb] at h;cases h
  | false=>rfl⟩
end
section
open Go Go.Sx Go.Proofs
variable {σ:Sg} {lp:Lp}
def ql (w:W):Sp:=⟨match !w.mark with | true=>false | false=>true,match !w.mark with | true=>0 | false=>w.bU,match !w.mark with | true=>0 | false=>w.tag⟩
end
end Go.Proofs.YtadmfaohjnjajaaGreatDoor

namespace Go.Sx
variable {AV:Type} {P:Program} {N:eI AV}
def Ae:Hp AV->Hp AV->Hp AV
 | x::H,y::R=>(match y with | some c=>some c | none=>match x with | some _=>some .kN | none=>none)::Ae H R
 | _,R=>R
theorem BK:∀{H R:Hp AV} {m:Nat} {c:aK AV},af (Ae H R) m=some c->af R m=some c \/ c=.kN
 | [],R,m,c,h=>.inl (by simpa [Ae] using h)
 | x::H,[],m,c,h=>by simp [Ae,af] at h
 | x::H,y::R,0,c,h=>by
   cases y with
   | some d=>exact .inl h
   | none=>cases x with
     | some d =>have h:some (aK.kN:aK AV)=some c:=h;cases h;exact .inr rfl
     | none=>cases (h:(none:Option (aK AV))=some c)
 | x::H,y::R,m+1,c,h=>BK (H:=H) (R:=R) (m:=m) h
theorem Zo (H R:Hp AV):Fl N R (Ae H R):=fun ρ w hO=>by
 have su:∀{m c k},af (Ae H R) m=some c->c.fp ρ m k->af R m=some c:=fun {m c k} h hk=>by
  rcases BK h with h1 | rfl
  ·exact h1
  ·exact hk.elim
 refine⟨ρ,hO.sub ⟨fun m c h=>?_,fun m m' c d dE h h' k hk eh=>hO.qR m m' c d dE (su h hk) (su h' eh) k hk eh,hO.rU⟩ (fun m c k h hk=>⟨m,c,su h hk,hk⟩),fun _=>rfl,fun m d k h hk=>⟨m,d,su h hk,hk⟩⟩;rcases BK h with h1 | rfl
 ·exact hO.q m c h1
 ·trivial
def AU:Hp AV->Hp AV->Bool
 | [],_=>true
 | none::H,none::R=>AU H R
 | some _::H,some _::R=>AU H R
 | _,_=>false
theorem oF:∀{H R:Hp AV},AU H R=true->H.length<=R.length /\ (∀m c,af H m=some c->∃c',af R m=some c') /\ ∀m,m < H.length->af H m=none->af R m=none
 | [],R,_=>⟨acX _,fun m c h=>by cases m<;>simp [af] at h,fun m h=>by simp at h⟩
 | none::H,none::R,h=>by
   obtain⟨h1,h2,h3⟩:=oF (H:=H) (R:=R) h;refine⟨afu h1,fun m c hm=>?_,fun m hl hm=>?_⟩
   ·cases m with
    | zero=>cases hm
    | succ m=>exact h2 m c hm
   ·cases m with
    | zero=>rfl
    | succ m=>exact h3 m (Nat.lt_of_succ_lt_succ hl) hm
 | some x::H,some y::R,h=>by
   obtain⟨h1,h2,h3⟩:=oF (H:=H) (R:=R) h;refine⟨afu h1,fun m c hm=>?_,fun m hl hm=>?_⟩
   ·cases m with
    | zero=>exact⟨y,rfl⟩
    | succ m=>exact h2 m c hm
   ·cases m with
    | zero=>cases hm
    | succ m=>exact h3 m (Nat.lt_of_succ_lt_succ hl) hm
 | none::_,some _::_,h=>by cases h
 | some _::_,none::_,h=>by cases h
 | _::_,[],h=>by rename_i x H;cases x<;>cases h
def agG (view:Hp AV->Nat->T (AV×List Nat)) (lay:AV->Option (Hp AV)) (G:Nat) (s:List SV->Hp AV->T (SV×Hp AV)) (args:List SV) (H:Hp AV):T (SV×Hp AV):=match args with
 | .v (.c (.ptr n o))::_=>match af H n with
   | some (.cells _ _)=>(view H n).bind fun x=>match Ae H (ux n x.2 x.1 0 H) with
     | H1=>match AU H H1,BP H1 args,qy H1 H1 with
       | true,true,true=>(s args H1).bind fun r=>match af r.2 n with
         | some (.bN a)=>match lay a with
           | some (some c::K)=>match p9 r.2 n (some c::K) with
             | R=>match Nat.ble G n,AU H R,SD R r.1,qy R R,qy r.2 r.2 with
               | true,true,true,true,true=>.aD (r.1,R)
               | _,_,_,_,_=>.fail "via: behind"
           | _=>.fail "via: no layout"
         | _=>.fail "via: no object"
       | _,_,_=>.fail "via: ahead"
   | _=>s args H
 | _=>s args H
theorem aa8 {view:Hp AV->Nat->T (AV×List Nat)} (YU:GG N view) {lay:AV->Option (Hp AV)} (atv:∀a K l S w,lay a=some K->N.F.q a l S w->oK N K l S w) {G:Nat} (hG:N.G=G) {f:FuncId} {s:List SV->Hp AV->T (SV×Hp AV)} (hs:cE P N f s):cE P N f (agG view lay G s):=by
 refine cE.of fun args H v H' h ha hC=>?_;unfold agG at h;split at h
 ·rename_i n o r;split at h
  ·rename_i l ty hn;obtain⟨⟨a0,ns⟩,h0,h⟩:=T.bq h;dsimp only at h;split at h
   ·rename_i b1 b2 b3;obtain⟨⟨v1,H2⟩,h1,h⟩:=T.bq h;split at h
    ·rename_i a ha2;split at h
     ·rename_i c K hK;dsimp only at h;split at h
      ·rename_i c1 c2 c3 c4 c5;cases h;dsimp only at ha2 c2 c3 c4 c5 ⊢;have hfl:Fl N H (Ae H (ux n ns a0 0 H)):=(Sd (YU H n a0 ns h0)).trans (Zo H _);generalize Ae H (ux n ns a0 0 H)=H1 at *;have Y3:Ou N H H1:=fun ρ w hO=>by obtain⟨ρ1,o1,e1,f1⟩:=hfl ρ w hO;exact⟨ρ1,o1,fun m _=>e1 m,f1⟩
       have hc:=hs.ctr h1 (qx.1 b2) ⟨jH.1 b3,trivial⟩;have ho2:Ou N H2 (p9 H2 n (some c::K)):=EC (K:=some c::K) ⟨jH.1 c5,trivial⟩ ha2 ⟨c,rfl⟩ (by rw [hG];exact acZ c1) fun l S w hq=>atv a _ l S w hK hq;have qH:Fld N H2 (p9 H2 n (some c::K)):=fun ρ w hO=>by obtain⟨ρ1,o1,e1,f1⟩:=ho2 ρ w hO;exact⟨ρ1,o1,fun m c hm=>e1 m (b7 hm),f1⟩
       obtain⟨s1,s2,s3⟩:=oF c2;exact adP Y3 (oF b1).2.1 hc qH ha (xh.1 c3) ⟨jH.1 c4,trivial⟩ s2 s3 s1
      ·cases h
     ·cases h
    ·cases h
   ·cases h
  ·exact hs.ctr h ha hC
 ·exact hs.ctr h ha hC
end Go.Sx

namespace Go.Proofs.YtadmfaohjnjajaaGreatDoor
section
open Go Go.Sx Go.Proofs
variable {σ:Sg} {lp:Lp}
def iI (p:Prop):Bool:=@decide p (Classical.propDecidable p)
theorem fh {p:Prop} (h:p):iI p=true:=@aaC p (Classical.propDecidable p) h
theorem fv {p:Prop} (h:iI p=true):p:=@aaF p (Classical.propDecidable p) h
def Ca (lp:Lp) (σ:Sg) (tab:m7) (f:FuncId) (M:List Bool) (args:List SV) (l:List AV) (K:Hp AV):T (SV×List AV×List AV) :=
 match p9 (iQ M l) M.length K with
 | H=>match Q.BP H args,Q.qy H H with
   | true,true=>(Q.bind (Q.lv (iu lp σ) tab 24 (.fn f) args H) (BO (DM σ) cL M l.length [M.length])).map XV
   | _,_=>.fail "run: names"
theorem uS (qG:fO Tryz.prog (iu lp σ)) {tab:m7} (ht:dH Tryz.prog (iu lp σ) tab) {f:FuncId} {M:List Bool} (hM:7=M.length) {args:List SV} {a:AV} {l:List AV} {K:Hp AV} (R9:∃c,af K 0=some c) (hKq:∀l S w,(iu lp σ).F.q a l S w->oK (iu lp σ) K l S w) {v:SV} {l' nw:List AV}
 (bZ:∀x∈args,gf (iQ M (a::l)) x) (h:(Ca lp σ tab f M args (a::l) K).val=some (v,l',nw)):rT Tryz.prog (iu lp σ) f args (iQ M (a::l)) v (iQ M (l'++nw)) /\ l'.length=(a::l).length:=by
 unfold Ca at h;dsimp only at h;split at h
 ·rename_i h1 h2;rw [Q.clVs_eq] at h1;rw [Q.clHs_eq] at h2;obtain⟨v0,rfl,h0⟩:=Dq h;rw [Q.bind_eq,Q.lv_eq] at h0;obtain⟨⟨v1,H2⟩,hr,hc⟩:=T.bq h0;have hn:af (iQ M (a::l)) M.length=some (.bN a):=by unfold iQ;rw [bA,ij,if_neg (by omega),Nat.sub_self];rfl
  have Y3:Ou (iu lp σ) (iQ M (a::l)) (p9 (iQ M (a::l)) M.length K):=EC ⟨(Kr (σ:=σ) M _).1,trivial⟩ hn R9 (by show 7<=M.length;omega) hKq;have Zb:=(adu qG ht 24 f).ctr hr (qx.1 h1) ⟨jH.1 h2,trivial⟩;refine(fun x=>⟨DC x.1,x.2⟩) (xe (N:=iu lp σ) (uJ rfl) dL hM bZ Y3 (fun m c h=>?_) Zb hc);have hlt:=b7 hn;have h:af (iQ M (a::l)) m=some c:=h;rw [Bt hlt (by rintro rfl;obtain⟨c,hc⟩:=R9;cases hc)];by_cases e:m=M.length
  ·obtain⟨c0,xR⟩:=R9;rw [if_pos e,xR];exact⟨_,rfl⟩
  ·rw [if_neg e,if_pos (b7 h)];exact⟨c,h⟩
 ·cases h
def Cc (lp:Lp) (σ:Sg) (tab:m7) (f:FuncId) (M:List Bool) (args:List SV) (a:AV) (ty:TypeId) (gs:Gs) (l:List AV):T (SV×List AV×List AV) :=
 Ca lp σ tab f M (.v (.c (.ptr 7 0))::args) (a::l) (gk AV.len ty gs)
theorem L5 (qG:fO Tryz.prog (iu lp σ)) {tab:m7} (ht:dH Tryz.prog (iu lp σ) tab) {f:FuncId} {M:List Bool} (hM:7=M.length) {args:List SV} {a:AV} {ty:TypeId} {gs:Gs} {l:List AV} (ho:a.K3=true) (hl:o9 σ a=some (gk AV.len ty (jl gs))) {v:SV} {l' nw:List AV}
 (bZ:∀x∈args,gf (iQ M (a::l)) x) (h:(Cc lp σ tab f M args a ty gs l).val=some (v,l',nw)) :
 rT Tryz.prog (iu lp σ) f (.v (.c (.ptr 7 0))::args) (iQ M (a::l)) v (iQ M (l'++nw)) /\ l'.length=l.length+1 :=
 uS qG ht hM (a:=a) (K:=gk AV.len ty gs) ⟨_,rfl⟩ (fun L S w hq=>zt ((uZ (N:=iu lp σ) rfl hl ho L S w).1 hq)) (fun x hx=>by
  rcases aaO.1 hx with rfl | hx
  ·exact J0 hM
  ·exact bZ x hx) h
theorem tZ {f:FuncId} {args:List SV} {H H':Hp AV} {v:SV} (h:rT Tryz.prog (iu lp σ) f args H v H'):rT Tryz.prog (NV σ) f args H v H':=by obtain⟨h1,h2,h3⟩:=h;refine⟨h1,⟨h2.1,trivial⟩,fun ρ w hO=>(h3 ρ w (oc (N:=NV σ) (N':=iu lp σ) rfl rfl hO)).mono ?_⟩;rintro e w' ⟨ρ',he,o,ev⟩;exact⟨ρ',he,oc (N:=iu lp σ) (N':=NV σ) rfl rfl o,zW (NV σ) ev⟩
def RI {γ α:Type} (A:mh γ) (O:xp α) (ok:α->γ->Option Bool) (next:α->γ->SV×α×List AV) (args:List SV) (l:List AV):T (SV×List AV×List AV):=match args,l with
 | .v (.c (.ptr 7 0))::r,[a]=>match A.jm r,O.X a with
   | some x,some j=>ET (ok j x) (.aD ((next j x).1,[O.V (next j x).2.1],(next j x).2.2))
   | _,_=>.fail "method"
 | _,_=>.fail "method"
theorem Yc {f:FuncId} {M:List Bool} (hM:7=M.length) {γ α:Type} {A:mh γ} {O:xp α} {ok:α->γ->Option Bool} {next:α->γ->SV×α×List AV}
 (hrun:∀j x,okO (ok j x)=true->∃lp tab ty gs args,fO Tryz.prog (iu lp σ) /\ dH Tryz.prog (NV σ) tab /\ o9 σ (O.V j)=some (gk AV.len ty (jl gs)) /\ jq args=true /\ (∀ρ:Nm,args.map (SV.ay ρ)=(A.enc x).map (SV.ay ρ)) /\
   (Cc lp σ tab f M args (O.V j) ty gs []).val=some ((next j x).1,[O.V (next j x).2.1],(next j x).2.2)) :
 cE Tryz.prog (NV σ) f (bJ cL M (RI A O ok next)):=by
 refine hZ dL hM fun args l v l' nw h hl bZ=>?_;unfold RI at h;split at h
 ·rename_i r a;split at h
  ·rename_i x j hx hj
   replace h:=kt h
   obtain⟨pf,h⟩:=h;cases h;have ea:=O.ok _ _ hj;subst ea;obtain⟨lp,tab,ty,gs,Gn,e0,e00,e1,e2,e3,e4⟩:=hrun j x pf;have hc:=L5 e0 (CJ e00) hM (O.K3 j) e1 (fU e2) e4;exact jh (tZ hc.1) fun ρ=>by simp only [aaU];rw [e3 ρ,A.ok _ _ hx ρ]
  ·cases h
 ·cases h
def aio (σ:Sg) (a:AV):Option (Hp AV):=match AV.K3 a with | true=>o9 σ a | false=>none
theorem acC (a:AV) (K:Hp AV) (l:Sx.m9) (S:Nat->Prop) (w:World) (h:aio σ a=some K) (hq:(NV σ).F.q a l S w):oK (NV σ) K l S w:=by
 unfold aio at h;split at h
 ·rename_i ho;exact(uZ (N:=NV σ) rfl h ho l S w).1 hq
 ·cases h
def SZ (σ:Sg) (s:List SV->Hp AV->T (SV×Hp AV)):List SV->Hp AV->T (SV×Hp AV):=agG (DM σ) (aio σ) 7 s
theorem JB {f:FuncId} {s:List SV->Hp AV->T (SV×Hp AV)} (h:cE Tryz.prog (NV σ) f s):cE Tryz.prog (NV σ) f (SZ σ s):=aa8 (N:=NV σ) (uJ rfl) acC rfl h
structure MC (β:Type) where
 k:Nat
 r:List β
def goC {α β:Type} (x:Nat) (f:α->β) (m:MC β):List α->Ex×MC β
 | []=>(.exit x,m)
 | a::_=>(.normal,⟨m.k+1,m.r++[f a]⟩)
def za {α β:Type} (x:Nat) (f:α->β) (l:List α) (m:MC β):T (Ex×MC β):=.aE (decide (m.k<=l.length /\ m.r.length=m.k)) (.aD (goC x f m (l.drop m.k)))
theorem YH {α β:Type} {x:Nat} {f:α->β} {l:List α}:∀(r:List α) (k:Nat) (s:List β),l.drop k=r->k+r.length=l.length->s.length=k->dK (za x f l) (r.length+1) ⟨k,s⟩=some (.exit x,⟨l.length,s++r.map f⟩):=by
 intro r;induction r with
 | nil =>intro k s hr hk hs;rw [ac8,dK,za,nv (aaC ⟨by simp only [ac8] at hk;show k<=_;omega,hs⟩)];simp only [T.val,hr,goC,afm,aeF];simp only [ac8,Nat.add_zero] at hk;rw [hk]
 | cons a r ih =>
   intro k s hr hk hs;have rj:l.drop (k+1)=r:=by rw [show l.drop (k+1)=(l.drop k).drop 1 by rw [List.drop_drop],hr];rfl
   rw [aaQ] at hk;rw [aaQ,dK,za,nv (aaC ⟨by show k<=_;omega,hs⟩)];simp only [T.val,hr,goC];rw [ih (k+1) (s++[f a]) rj (by omega) (by rw [aaP,hs];rfl)];simp only [aaU,acA,acW]
end
section
open Go Go.Sx Go.Proofs
variable {σ:Sg} {lp:Lp}
def hpE (e:Int) (m:ax):Hp AV:=p9 (iQ bS [jn m]) 7 (gk AV.len fQ (dp 46 (ax.wr {m with au:=e})))
def Py (w:W):N1:=⟨w.bU⟩
def Yy:List Nat:=[2,3,10,11,12]
def LS5:Code:=jv 3 (cQ (eG Tryz.f91))
def NL (m:ax) (i:Int) (r:List Sp) (lr:Nat):St AV :=
 {E:=only Yy [(2,.v (.c .dP)),(3,.v (.c (.vs 11 0 lr 3 false))),(10,.v (.c (.vs 8 0 m.seen.length 5 false))),(11,.v (.c (.it .i64 m.seen.length))),(12,.v (.c (.it .i64 i)))] 23,H:=(hpE 5 m)++[some (.bN (.fe r))]}
def Pe (σ:Sg) (n:Nat) (l:List Sp):Bool:=decide (n=gX.len (F6 σ) (AV.fe l) /\ (n+1) * (SI.bytes Ra+1)<=zF)
theorem rS5 (σ:Sg) (m:ax) (i:Int) (r:List Sp) (lr:Nat):(xc (NV σ) (bE (lv (NV σ) b9 5)) (fun _=>none) 23 LS5 (NL m i r lr)).bind (ff 11 23 Yy fw) =
 .ite (decide (i < (m.seen.length:Int))) (.aE (decide (0<=i /\ i < (m.seen.length:Int))) (.aE (decide (0+i.toNat < m.seen.length)) (.aE (Pe σ lr r) (.aD (.normal,NL m (IntKind.wrap .i64 (i+1)) (r++[ql (m.seen.getD (0+i.toNat) fg.bK)]) (lr+1)))))) (.aD (.exit 0,NL m i r lr)):=by kernel_rfl
theorem Tw {n:Nat} {l:List Sp} (h:n=l.length) (hn:l.length<=100000):Pe σ n l=true:=by unfold Pe;subst h;exact aaC ⟨rfl,abz (ac2 _ (afu hn)) (by decide)⟩
def FL (m:ax) (c:MC Sp):St AV:=NL m c.k c.r c.r.length
theorem OY (σ:Sg) (m:ax) (hm:m.seen.length<=100000) (c:MC Sp) (r:Ex×MC Sp) (h:(za 0 ql m.seen c).val=some r) :
 ((xc (NV σ) (bE (lv (NV σ) b9 5)) (fun _=>none) 23 LS5 (FL m c)).bind (ff 11 23 Yy fw)).val=some (r.1,FL m r.2):=by
 replace h:=aC h
 obtain⟨hb,h⟩:=h;obtain⟨h1,h2⟩:=aaF hb;cases h;obtain⟨k,s⟩:=c;simp only at h1 h2;have e1:0+(k:Int).toNat=k:=by omega
 have hw:IntKind.wrap .i64 ((k:Int)+1)=((k+1:Nat):Int):=ml (by omega);dsimp only [FL];rw [rS5];by_cases hlt:k < m.seen.length
 ·rw [oX (aaC (by show (k:Int) < _;omega)),nv (aaC (by omega)),nv (aaC (by omega)),nv (Tw rfl (by omega)),hw,gE fg.bK hlt,e1];simp only [goC,T.val,aaP,aaQ,ac8]
 ·rw [oY (aaK (by show ¬(k:Int) < _;omega)),ade (by omega)];rfl
def apr (m:ax) (s:St AV):Prop:=Sx.aJ s.E 2=.v (.c .dP) /\ Sx.aJ s.E 3=.v (.c .dP) /\ Sx.aJ s.E 10=.v (.c (.vs 8 0 m.seen.length 5 false)) /\ Sx.aJ s.E 11=.v (.c (.it .i64 m.seen.length)) /\ Sx.aJ s.E 12=.v (.c (.il .i64 0)) /\ s.H=(hpE 5 m)
def gS5 (sp:List Sp) (m:ax) (s:St AV):T (Ex×St AV):=.aE (iI (apr m s)) (.aD (.exit 0,NL m m.seen.length sp sp.length))
theorem ajs {N':eI AV} (hF:N'.F=(NV σ).F) (hG:N'.G=(NV σ).G) (m:ax) (hm:m.seen.length<=100000):gr Tryz.prog N' 23 LS5 (gS5 (m.seen.map ql) m):=by
 have cR:gZ Tryz.prog (NV σ) (bE (lv (NV σ) b9 5)):=dt (mQ sJ uD K7 bp 5);refine eY (N:=NV σ) hF hG sJ cR (lp:=fun _=>none) (fun _ _ _ g hg=>by cases hg) fun s s' ex cM=>?_;obtain⟨E1,H1⟩:=s;unfold gS5 at cM
 replace cM:=aC cM
 obtain⟨hb,cM⟩:=cM;obtain⟨e2,e3,DA,Ss,e12,eH⟩:=fv hb;simp only at e2 e3 DA Ss e12 eH;subst eH;cases cM;refine⟨{M:=MC Sp,tX:=FL m,step:=za 0 ql m.seen,ks:=Yy,pk:=fw,Aw:=(fun d a h=>by cases h),L:=11,len:=rfl,GV:=(by show 7<=11;decide),run:=OY σ m hm,m:=⟨0,[]⟩,k:=_,m':=_,Ld:=?_,it:=YH m.seen 0 [] rfl (aby _) rfl,fin:=?_}⟩
 ·refine jz (N:=NV σ) (s:=⟨E1,_⟩) (l:=[.fe []]) (fun a ha=>⟨3,qi.ty,by simp only [aaO,aaR,or_false] at ha;rw [ha];rfl⟩) (by show 7<=11;decide) fun k hk=>?_;simp only [Yy,aaO,aaR,or_false] at hk;rcases hk with rfl | rfl | rfl | rfl | rfl
  ·exact .inl e2.symm
  ·exact .inr (.inr ⟨e3,0,3,by decide,rfl⟩)
  ·exact .inl DA.symm
  ·exact .inl Ss.symm
  ·exact .inr (.inl ⟨by show Sx.aJ E1 12≠_;rw [e12];rintro ⟨⟩,tu _,fun ρ=>by show _=(Sx.aJ E1 12).ay ρ;rw [e12];rfl⟩)
 ·simp only [acB,FL]
def anE (sp:List Sp) (m:ax) (lp:Lp):Lp:=lK 91 3 (gS5 sp m) lp
theorem anu {lp:Lp} (h:fO Tryz.prog (iu lp σ)) (m:ax) (hm:m.seen.length<=100000):fO Tryz.prog (iu (anE (m.seen.map ql) m lp) σ) :=
 lu h (fn:=Tryz.f91) (by kernel_rfl) (c:=eG Tryz.f91) (by kernel_rfl) (nt:=23) (by kernel_rfl) (b:=LS5) (cN (by kernel_rfl)) (ajs (σ:=σ) (N':=iu lp σ) rfl rfl m hm)
def Zz (m:ax):Prop:=SV.v (.c .dP)=.v (.c .dP) /\ SV.v (.c .dP)=.v (.c .dP) /\ SV.v (.c (.vs 8 0 m.seen.length 5 false))=.v (.c (.vs 8 0 m.seen.length 5 false)) /\ SV.v (.c (.it .i64 m.seen.length))=.v (.c (.it .i64 m.seen.length)) /\ SV.v (.c (.il .i64 0))=.v (.c (.il .i64 0)) /\ (hpE 5 m)=(hpE 5 m)
theorem Zy (m:ax):iI (Zz m)=true:=fh ⟨rfl,rfl,rfl,rfl,rfl,rfl⟩
def Yz:List Nat:=[0,2,5,6,30,31,32,34,35,36]
def LS3:Code:=jv 6 (cQ (eG Tryz.f89))
def NM (m:ax) (i:Int) (r:List N1) (lr:Nat):St AV :=
 {E:=only Yz [(0,.v (.c (.ptr 7 0))),(2,.v (.c (.vs 11 0 lr 1 false))),(5,.v (.c (.ptr 7 0))),(6,.v (.c (.ptr 7 0))),(30,.v (.c (.ptr 7 0))),(31,.v (.c (.ptr 7 0))),(32,.v (.c (.ptr 7 0))),(34,.v (.c (.vs 8 0 m.seen.length 5 false))),(35,.v (.c (.it .i64 m.seen.length))),(36,.v (.c (.it .i64 i)))] 97,H:=(hpE 3 m)++[some (.bN (.ie r))]}
def Pf (σ:Sg) (n:Nat) (l:List N1):Bool:=decide (n=gX.len (F6 σ) (AV.ie l) /\ (n+1) * (SI.bytes JQ+1)<=zF)
theorem rS3 (σ:Sg) (m:ax) (i:Int) (r:List N1) (lr:Nat):(xc (NV σ) (bE (lv (NV σ) b9 5)) (fun _=>none) 97 LS3 (NM m i r lr)).bind (ff 11 97 Yz fw) =
 .ite (decide (i < (m.seen.length:Int))) (.aE (decide (0<=i /\ i < (m.seen.length:Int))) (.aE (decide (0+i.toNat < m.seen.length)) (.aE (Pf σ lr r) (.aD (.normal,NM m (IntKind.wrap .i64 (i+1)) (r++[Py (m.seen.getD (0+i.toNat) fg.bK)]) (lr+1)))))) (.aD (.exit 1,NM m i r lr)):=by kernel_rfl
theorem Tx {n:Nat} {l:List N1} (h:n=l.length) (hn:l.length<=100000):Pf σ n l=true:=by unfold Pf;subst h;exact aaC ⟨rfl,abz (ac2 _ (afu hn)) (by decide)⟩
def FM (m:ax) (c:MC N1):St AV:=NM m c.k c.r c.r.length
theorem OZ (σ:Sg) (m:ax) (hm:m.seen.length<=100000) (c:MC N1) (r:Ex×MC N1) (h:(za 1 Py m.seen c).val=some r) :
 ((xc (NV σ) (bE (lv (NV σ) b9 5)) (fun _=>none) 97 LS3 (FM m c)).bind (ff 11 97 Yz fw)).val=some (r.1,FM m r.2):=by
 replace h:=aC h
 obtain⟨hb,h⟩:=h;obtain⟨h1,h2⟩:=aaF hb;cases h;obtain⟨k,s⟩:=c;simp only at h1 h2;have e1:0+(k:Int).toNat=k:=by omega
 have hw:IntKind.wrap .i64 ((k:Int)+1)=((k+1:Nat):Int):=ml (by omega);dsimp only [FM];rw [rS3];by_cases hlt:k < m.seen.length
 ·rw [oX (aaC (by show (k:Int) < _;omega)),nv (aaC (by omega)),nv (aaC (by omega)),nv (Tx rfl (by omega)),hw,gE fg.bK hlt,e1];simp only [goC,T.val,aaP,aaQ,ac8]
 ·rw [oY (aaK (by show ¬(k:Int) < _;omega)),ade (by omega)];rfl
def aps (m:ax) (s:St AV):Prop:=Sx.aJ s.E 0=.v (.c (.ptr 7 0)) /\ Sx.aJ s.E 2=.v (.c .dP) /\ Sx.aJ s.E 5=.v (.c (.ptr 7 0)) /\ Sx.aJ s.E 6=.v (.c (.ptr 7 0)) /\ Sx.aJ s.E 30=.v (.c (.ptr 7 0)) /\ Sx.aJ s.E 31=.v (.c (.ptr 7 0)) /\ Sx.aJ s.E 32=.v (.c (.ptr 7 0)) /\ Sx.aJ s.E 34=.v (.c (.vs 8 0 m.seen.length 5 false)) /\ Sx.aJ s.E 35=.v (.c (.it .i64 m.seen.length)) /\ Sx.aJ s.E 36=.v (.c (.il .i64 0)) /\ s.H=(hpE 3 m)
def gS3 (sp:List N1) (m:ax) (s:St AV):T (Ex×St AV):=.aE (iI (aps m s)) (.aD (.exit 1,NM m m.seen.length sp sp.length))
theorem ajt {N':eI AV} (hF:N'.F=(NV σ).F) (hG:N'.G=(NV σ).G) (m:ax) (hm:m.seen.length<=100000):gr Tryz.prog N' 97 LS3 (gS3 (m.seen.map Py) m):=by
 have cR:gZ Tryz.prog (NV σ) (bE (lv (NV σ) b9 5)):=dt (mQ sJ uD K7 bp 5);refine eY (N:=NV σ) hF hG sJ cR (lp:=fun _=>none) (fun _ _ _ g hg=>by cases hg) fun s s' ex cM=>?_;obtain⟨E1,H1⟩:=s;unfold gS3 at cM
 replace cM:=aC cM
 obtain⟨hb,cM⟩:=cM;obtain⟨e0,e2,e5,e6,e30,e31,e32,e34,e35,e36,eH⟩:=fv hb;simp only at e0 e2 e5 e6 e30 e31 e32 e34 e35 e36 eH;subst eH;cases cM;refine⟨{M:=MC N1,tX:=FM m,step:=za 1 Py m.seen,ks:=Yz,pk:=fw,Aw:=(fun d a h=>by cases h),L:=11,len:=rfl,GV:=(by show 7<=11;decide),run:=OZ σ m hm,m:=⟨0,[]⟩,k:=_,m':=_,Ld:=?_,it:=YH m.seen 0 [] rfl (aby _) rfl,fin:=?_}⟩
 ·refine jz (N:=NV σ) (s:=⟨E1,_⟩) (l:=[.ie []]) (fun a ha=>⟨1,gx.ty,by simp only [aaO,aaR,or_false] at ha;rw [ha];rfl⟩) (by show 7<=11;decide) fun k hk=>?_;simp only [Yz,aaO,aaR,or_false] at hk;rcases hk with rfl | rfl | rfl | rfl | rfl | rfl | rfl | rfl | rfl | rfl
  ·exact .inl e0.symm
  ·exact .inr (.inr ⟨e2,0,1,by decide,rfl⟩)
  ·exact .inl e5.symm
  ·exact .inl e6.symm
  ·exact .inl e30.symm
  ·exact .inl e31.symm
  ·exact .inl e32.symm
  ·exact .inl e34.symm
  ·exact .inl e35.symm
  ·exact .inr (.inl ⟨by show Sx.aJ E1 36≠_;rw [e36];rintro ⟨⟩,tu _,fun ρ=>by show _=(Sx.aJ E1 36).ay ρ;rw [e36];rfl⟩)
 ·simp only [acB,FM]
def anF (sp:List N1) (m:ax) (lp:Lp):Lp:=lK 89 6 (gS3 sp m) lp
theorem anv {lp:Lp} (h:fO Tryz.prog (iu lp σ)) (m:ax) (hm:m.seen.length<=100000):fO Tryz.prog (iu (anF (m.seen.map Py) m lp) σ) :=
 lu h (fn:=Tryz.f89) (by kernel_rfl) (c:=eG Tryz.f89) (by kernel_rfl) (nt:=97) (by kernel_rfl) (b:=LS3) (cN (by kernel_rfl)) (ajt (σ:=σ) (N':=iu lp σ) rfl rfl m hm)
def ZB (m:ax):Prop:=SV.v (.c (.ptr 7 0))=.v (.c (.ptr 7 0)) /\ SV.v (.c .dP)=.v (.c .dP) /\ SV.v (.c (.ptr 7 0))=.v (.c (.ptr 7 0)) /\ SV.v (.c (.ptr 7 0))=.v (.c (.ptr 7 0)) /\ SV.v (.c (.ptr 7 0))=.v (.c (.ptr 7 0)) /\ SV.v (.c (.ptr 7 0))=.v (.c (.ptr 7 0)) /\ SV.v (.c (.ptr 7 0))=.v (.c (.ptr 7 0)) /\ SV.v (.c (.vs 8 0 m.seen.length 5 false))=.v (.c (.vs 8 0 m.seen.length 5 false)) /\ SV.v (.c (.it .i64 m.seen.length))=.v (.c (.it .i64 m.seen.length)) /\ SV.v (.c (.il .i64 0))=.v (.c (.il .i64 0)) /\ (hpE 3 m)=(hpE 3 m)
theorem ZA (m:ax):iI (ZB m)=true:=fh ⟨rfl,rfl,rfl,rfl,rfl,rfl,rfl,rfl,rfl,rfl,rfl⟩
end
section
open Go Go.Sx Go.Proofs
variable {σ:Sg} {lp:Lp}
def Lx (f1 s1:List W->List Nt->List Nt) (f2 s2:List N1->List Nt->List Nt) (f3 s3:List Sp->List Nt->List Nt) (f4 s4:Int->List Nt->List Nt):m7:=br 104 (qK cL bS (dv1 f1 s1)) (br 105 (qK cL bS (dv2 f2 s2)) (br 106 (qK cL bS (dv3 f3 s3)) (br 107 (qK cL bS (dv4 f4 s4)) b9)))
def fr1 (aR:List W) (l:List Nt):List Nt:=ib (fun n=>aR.any (eQ n)) l
def fr2 (aR:List N1) (l:List Nt):List Nt:=ib (fun n=>aR.any (jy n)) l
def fr3 (aR:List Sp) (l:List Nt):List Nt:=ib (fun n=>aR.any (eP n)) l
def fr4 (now:Int) (l:List Nt):List Nt:=ib (I1 now) l
def DX:m7:=Lx fr1 (fun aR l=>iN (fun n=>aR.any (eQ n)) l) fr2 (fun aR l=>iN (fun n=>aR.any (jy n)) l) fr3 (fun aR l=>iN (fun n=>aR.any (eP n)) l) fr4 (fun now l=>iN (I1 now) l)
theorem wF:dH Tryz.prog (NV σ) DX:=aH ajI (aH ajH (aH ajG (aH ajF bp)))
def UH:SV×List AV×List AV->Option (SV×ax×List AV)
 | (v,[a],nw)=>match HH a with | some m=>some (v,m,nw) | none=>none
 | _=>none
theorem xb {r:SV×List AV×List AV} {v:SV} {m:ax} {nw:List AV} (h:UH r=some (v,m,nw)):r=(v,[jn m],nw):=by
 unfold UH at h;split at h
 ·split at h
  ·rename_i hm;cases h;rw [Dd hm]
  ·cases h
 ·cases h
def tS (r:RT):T (Option (SV×ax×List AV)):=.aE (Ip r) (.aD (some (.iW [],r.m,[])))
def p7 (x:Nt):W:=⟨x.ae,x.gen,x.tag,x.bU,x.mark⟩
section
variable {β:Type} (I:Bool->β->β->β) (N:Bool->β->β) (L:RT->β)
def pq (r:RT):β:=I ((r.ld:Int)==0) (kU L r) (N (decide ((0:Int)<=0 /\ 0 < (r.ld:Int))) (N (decide (0 < r.m.aS.length)) (L (fF 16 ⟨5,0,0,0,p7 (r.m.aS.getD 0 bx.bK),aq⟩ r))))
end
def xJ (l:List Nt) (r:RT):RT:={r with m:={r.m with aS:=l},ld:=l.length}
theorem sf2 (σ:Sg) (f1 s1:List W->List Nt->List Nt) (f2 s2:List N1->List Nt->List Nt) (f3 s3:List Sp->List Nt->List Nt) (f4 s4:Int->List Nt->List Nt) (m:ax):(Cc jE σ (Lx f1 s1 f2 s2 f3 s3 f4 s4) 89 bS [] (jn {m with au:=2}) fQ (dp 46 (ax.wr {m with au:=2})) []).map UH =
 .aE (decide (m.notes.length=m.notes.length /\ m.seen.length=m.seen.length /\ m.seen.length<=100000 /\ m.notes.length<=100000)) (pq tI tN tS (xJ (f1 m.seen m.notes) (dI {m with au:=2}))):=by kernel_rfl
theorem sf3 (σ:Sg) (sp:List N1) (f1 s1:List W->List Nt->List Nt) (f2 s2:List N1->List Nt->List Nt) (f3 s3:List Sp->List Nt->List Nt) (f4 s4:Int->List Nt->List Nt) (m:ax):(Cc (anF sp m jE) σ (Lx f1 s1 f2 s2 f3 s3 f4 s4) 89 bS [] (jn {m with au:=3}) fQ (dp 46 (ax.wr {m with au:=3})) []).map UH =
 .aE (iI (ZB m)) (.aE (decide (m.notes.length=m.notes.length /\ sp.length=sp.length /\ sp.length<=100000 /\ m.notes.length<=100000)) (pq tI tN tS (xJ (f2 sp m.notes) (dI {m with au:=3})))):=by kernel_rfl
theorem sf4 (σ:Sg) (f1 s1:List W->List Nt->List Nt) (f2 s2:List N1->List Nt->List Nt) (f3 s3:List Sp->List Nt->List Nt) (f4 s4:Int->List Nt->List Nt) (m:ax):(Cc jE σ (Lx f1 s1 f2 s2 f3 s3 f4 s4) 89 bS [] (jn {m with au:=4}) fQ (dp 46 (ax.wr {m with au:=4})) []).map UH =
 .aE (decide (m.notes.length=m.notes.length /\ m.notes.length<=100000)) (pq tI tN tS (xJ (f4 m.clock.bU m.notes) (dI {m with au:=4}))):=by kernel_rfl
def aaa (gs:Gs):List Cell:=(iK AV.len 1 gs).map (Cell.cV (Mo 7 8))
theorem sf5 (σ:Sg) (sp:List Sp) (f1 s1:List W->List Nt->List Nt) (f2 s2:List N1->List Nt->List Nt) (f3 s3:List Sp->List Nt->List Nt) (f4 s4:Int->List Nt->List Nt) (m:ax):(Cc (anE sp m jE) σ (Lx f1 s1 f2 s2 f3 s3 f4 s4) 89 bS [] (jn {m with au:=5}) fQ (dp 46 (ax.wr {m with au:=5})) []).map UH =
 .aE (iI (Zz m)) (.aE (nJ (aaa (dp 46 (ax.wr {m with au:=5}))) fQ (aaa (dp 46 (ax.wr {m with au:=5}))) fQ) (.aE (decide (m.notes.length=m.notes.length /\ sp.length=sp.length /\ sp.length<=100000 /\ m.notes.length<=100000)) (pq tI tN tS (xJ (f3 sp m.notes) (dI {m with au:=5}))))):=by kernel_rfl
def FV (m:ax):List Nt:=if m.au=2 then fr1 m.seen m.notes else if m.au=3 then fr2 (m.seen.map Py) m.notes else if m.au=4 then fr4 m.clock.bU m.notes else fr3 (m.seen.map ql) m.notes
def sF (r:RT):ax:=pq cond (fun _ t=>t) RT.m r
def lF (m:ax):ax:=sF (xJ (FV m) (dI m))
theorem vS {r:RT} (h:ji r):(tS r).val=some (some (.iW [],r.m,[])):=by unfold tS;rw [Du h.1 h.2.1 h.2.2];rfl
theorem QK {r:RT} (h:ji r):(pq tI tN tS r).val=some (some (.iW [],sF r,[])):=by
 unfold pq sF pq;by_cases h0:r.m.aS.length=0
 ·have e:((r.ld:Int)==0)=true:=by rw [h.2.1,h0];rfl
  rw [e];exact vS (r:=dA ⟨aq,true⟩ r) (qh h)
 ·have e:((r.ld:Int)==0)=false:=by rw [h.2.1];simp only [beq_eq_false_iff_ne];omega
  rw [e];show (T.aE _ (T.aE _ (tS (fF 16 _ r)))).val=_;rw [nv (aaC ⟨adi 0,by rw [h.2.1];omega⟩),nv (aaC (by omega))];exact vS (r:=fF 16 _ r) h
def XN (m:ax):Bool:=decide (2<=m.au /\ m.au<=5 /\ m.seen.length<=100000 /\ m.notes.length<=100000)
theorem abC:cE Tryz.prog (NV σ) 89 (bJ cL bS (RI Lf iA (fun m _=>some (XN m)) fun m _=>(.iW [],lF m,[]))) :=
 Yc rfl fun m x h=>by
  obtain⟨h1,h2,h3,h4⟩:=aaF (h:XN m=true);obtain⟨cl,st,acc,wd,xA,ix,seen,aS,e,me,nA,xv,holds,span,notes,dS,bD⟩:=m;dsimp only at h1 h2 h3 h4;have he:e=2 \/ e=3 \/ e=4 \/ e=5:=by omega
  clear h h1 h2;rcases he with rfl | rfl | rfl | rfl
  ·refine⟨jE,DX,fQ,dp 46 (ax.wr ⟨cl,st,acc,wd,xA,ix,seen,aS,2,me,nA,xv,holds,span,notes,dS,bD⟩),[],nO,wF,rfl,rfl,fun _=>rfl,?_⟩;obtain⟨r,e1,e2⟩:=dw ((congrArg T.val (sf2 σ fr1 _ fr2 _ fr3 _ fr4 _ ⟨cl,st,acc,wd,xA,ix,seen,aS,2,me,nA,xv,holds,span,notes,dS,bD⟩)).trans ((nv (aaC ⟨rfl,rfl,h3,h4⟩)).trans (QK (r:=xJ _ (dI _)) ⟨rfl,rfl,rfl⟩)));rw [xb e2] at e1;exact e1
  ·refine⟨_,DX,fQ,dp 46 (ax.wr ⟨cl,st,acc,wd,xA,ix,seen,aS,3,me,nA,xv,holds,span,notes,dS,bD⟩),[],anv nO ⟨cl,st,acc,wd,xA,ix,seen,aS,3,me,nA,xv,holds,span,notes,dS,bD⟩ h3,wF,rfl,rfl,fun _=>rfl,?_⟩;obtain⟨r,e1,e2⟩:=dw ((congrArg T.val (sf3 σ (seen.map Py) fr1 _ fr2 _ fr3 _ fr4 _ ⟨cl,st,acc,wd,xA,ix,seen,aS,3,me,nA,xv,holds,span,notes,dS,bD⟩)).trans ((nv (ZA _)).trans ((nv (aaC ⟨rfl,rfl,by rw [af1];exact h3,h4⟩)).trans (QK (r:=xJ _ (dI _)) ⟨rfl,rfl,rfl⟩))));rw [xb e2] at e1;exact e1
  ·refine⟨jE,DX,fQ,dp 46 (ax.wr ⟨cl,st,acc,wd,xA,ix,seen,aS,4,me,nA,xv,holds,span,notes,dS,bD⟩),[],nO,wF,rfl,rfl,fun _=>rfl,?_⟩;obtain⟨r,e1,e2⟩:=dw ((congrArg T.val (sf4 σ fr1 _ fr2 _ fr3 _ fr4 _ ⟨cl,st,acc,wd,xA,ix,seen,aS,4,me,nA,xv,holds,span,notes,dS,bD⟩)).trans ((nv (aaC ⟨rfl,h4⟩)).trans (QK (r:=xJ _ (dI _)) ⟨rfl,rfl,rfl⟩)));rw [xb e2] at e1;exact e1
  ·refine⟨_,DX,fQ,dp 46 (ax.wr ⟨cl,st,acc,wd,xA,ix,seen,aS,5,me,nA,xv,holds,span,notes,dS,bD⟩),[],anu nO ⟨cl,st,acc,wd,xA,ix,seen,aS,5,me,nA,xv,holds,span,notes,dS,bD⟩ h3,wF,rfl,rfl,fun _=>rfl,?_⟩;obtain⟨r,e1,e2⟩:=dw ((congrArg T.val (sf5 σ (seen.map ql) fr1 _ fr2 _ fr3 _ fr4 _ ⟨cl,st,acc,wd,xA,ix,seen,aS,5,me,nA,xv,holds,span,notes,dS,bD⟩)).trans ((nv (Zy _)).trans ((nv (mn _ _)).trans ((nv (aaC ⟨rfl,rfl,by rw [af1];exact h3,h4⟩)).trans (QK (r:=xJ _ (dI _)) ⟨rfl,rfl,rfl⟩)))));rw [xb e2] at e1;exact e1
