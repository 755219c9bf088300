import Derived.Test.YtadmfaohjnjajaaGreatDoorQe
import Derived.Test.YtadmfaohjnjajaaGreatDoorRn
import Derived.Test.YtadmfaohjnjajaaGreatDoorSxOf
import Derived.Test.YtadmfaohjnjajaaGreatDoorSxOi
set_option linter.unusedVariables false
set_option linter.unusedSimpArgs false
set_option maxHeartbeats 0
set_option maxRecDepth 100000
noncomputable section
namespace Go.Proofs.YtadmfaohjnjajaaGreatDoor
section
open Go Go.Sx Go.Proofs
variable {σ:Sg} {lp:Lp}
def ksY:List Nat:=[0,4,7,8,9]
def LY:Code:=ia 2 (cA (eM Tryz.f90))
def qi (n:Int) (s:Sp):Bool:=gC s.is (s.BD != n)
def Ow (n:Int) (q:Nat) (l:List Sp) (i:Int):St AV :=
 {E:=only ksY [(0,.v (.c (.it .i64 n))),(4,.v (.c (.bl false))),(7,.v (.c (.vs 7 0 q 3 false))),(8,.v (.c (.it .i64 q))),(9,.v (.c (.it .i64 i)))] 22,H:=s9 bL [.bI (.eC l)]}
theorem yR (σ:Sg) (n:Int) (q:Nat) (l:List Sp) (i:Int):(xc (NV σ) (bs (lv (NV σ) ca 5)) (fun _=>none) 22 LY (Ow n q l i)).bind (eQ 8 22 ksY eV)=.ite (decide (i < (q:Int))) (.aJ (decide (0<=i /\ i < (q:Int))) (.aJ (decide (0+i.toNat < l.length)) (.ite (qi n (l.getD (0+i.toNat) mA.bR)) (.aE (.ret,Ow n q l i)) (.aE (.normal,Ow n q l (IntKind.wrap .i64 (i+1))))))) (.aE (.exit 0,Ow n q l i)):=by kernel_rfl
def HF (n:Int) (l:List Sp) (m:MA):St AV:=Ow n l.length l m.k
theorem Rr (σ:Sg) (n:Int) (l:List Sp) (hl:l.length<=100000) (m:MA) (r:Ex×MA) (h:(rj l (qi n) m).val=some r) :
 ((xc (NV σ) (bs (lv (NV σ) ca 5)) (fun _=>none) 22 LY (HF n l m)).bind (eQ 8 22 ksY eV)).val=some (r.1,HF n l r.2):=by
 replace h:=aD h
 obtain⟨hb,h⟩:=h
 obtain⟨h1,h2⟩:=aaV hb
 cases h
 obtain⟨k,b⟩:=m
 simp only at h1 h2
 subst h2
 have e1:0+(k:Int).toNat=k:=by omega
 have hw:IntKind.wrap .i64 ((k:Int)+1)=((k+1:Nat):Int):=lR (by omega)
 dsimp only [HF]
 rw [yR]
 by_cases hk:k < l.length
 ·rw [tG (aaS (by show (k:Int) < _;omega)),nv (aaS (by omega)),e1,nv (aaS hk),hw,gi mA.bR hk]
  cases hp:qi n (l.getD k mA.bR) with
  | true=>simp only [SK,hp];rfl
  | false=>simp only [SK,hp];rfl
 ·rw [wG (aaZ (by show ¬(k:Int) < _;omega)),ad8 (by omega)]
  rfl
def gY (an:Int->List Sp->Bool) (ix:Int->List Sp->Nat) (s:St AV):T (Ex×St AV):=match mZ s.H 0 bL with
 | some [some (.bI (.eC l))] =>
   match Sx.aF s.E 0,Sx.aF s.E 4,Sx.aF s.E 7,Sx.aF s.E 8,Sx.aF s.E 9 with
   | .v (.c (.it .i64 n)),.v (.c (.bl false)),.v (.c (.vs 7 0 q1 3 false)),.v (.c (.it .i64 q2)),.v (.c (.il .i64 0)) =>
     .aJ (decide (q1=l.length /\ q2=(q1:Int) /\ l.length<=100000)) (.ite (an n l) (.aE (.ret,Ow n l.length l (ix n l))) (.aE (.exit 0,Ow n l.length l l.length)))
   | _,_,_,_,_=>.fail "spans"
 | _=>.fail "spans"
theorem amJ {N':dV AV} (hF:N'.F=(NV σ).F) (hG:N'.G=(NV σ).G):fY Tryz.prog N' 22 LY (gY (fun n l=>l.any (qi n)) (fun n l=>je (qi n) 0 l)):=by
 have cH:gF Tryz.prog (NV σ) (bs (lv (NV σ) ca 5)):=dj (my rH tA J7 bn 5)
 refine eO (N:=NV σ) hF hG rH cH (lp:=fun _=>none) (fun _ _ _ g hg=>by cases hg) fun s s' ex cG=>?_
 obtain⟨E1,H1⟩:=s
 unfold gY at cG
 split at cG
 ·rename_i l hs
  have hs:=jj hs
  simp only at hs
  subst hs
  split at cG
  ·rename_i n q1 q2 e0 e4 e7 e8 e9
   simp only at e0 e4 e7 e8 e9
   replace cG:=aD cG
   obtain⟨hb,cG⟩:=cG
   obtain⟨rfl,rfl,hl⟩:=aaV hb
   have Qm:(ex,s')=((pY (qi n) 0 l).1,HF n l (pY (qi n) 0 l).2):=by
    cases ha:l.any (qi n) with
    | true =>
      rw [tG ha] at cG
      simp only [T.val,aaC] at cG
      rw [<- cG];unfold pY;rw [ha];rfl
    | false =>
      rw [wG ha] at cG
      simp only [T.val,aaC] at cG
      rw [<- cG];unfold pY;rw [ha]
      simp only [HF,abJ]
   simp only [aaF] at Qm
   obtain⟨rfl,rfl⟩:=Qm
   refine⟨{M:=MA,sH:=HF n l,step:=rj l (qi n),ks:=ksY,pk:=eV,zH:=(fun d a h=>by cases h),L:=8,len:=rfl,FL:=(by show 7<=8;decide),run:=Rr σ n l hl,m:=⟨0,false⟩,k:=_,m':=_,Ka:=?_,it:=LH l 0 rfl (adr _),fin:=rfl}⟩
   refine rS (N:=NV σ) (nt:=22) (E:=E1) (ks:=ksY) (E':=[(0,.v (.c (.it .i64 n))),(4,.v (.c (.bl false))),(7,.v (.c (.vs 7 0 l.length 3 false))),(8,.v (.c (.it .i64 l.length))),(9,.v (.c (.it .i64 (0:Nat))))]) fun k hk=>?_
   simp only [ksY,abk,abo,or_false] at hk
   rcases hk with rfl | rfl | rfl | rfl | rfl
   ·exact .inl e0.symm
   ·exact .inl e4.symm
   ·exact .inl e7.symm
   ·exact .inl e8.symm
   ·exact .inr ⟨by rw [e9];rintro ⟨⟩,uo _,fun ρ=>by rw [e9];rfl⟩
  ·cases cG
 ·cases cG
def lpY (an:Int->List Sp->Bool) (ix:Int->List Sp->Nat):Lp:=lV 90 2 (gY an ix) jr
theorem aqd:fH Tryz.prog (hP (lpY (fun n l=>l.any (qi n)) (fun n l=>je (qi n) 0 l)) σ) :=
 lM ou (fn:=Tryz.f90) (by kernel_rfl) (c:=eM Tryz.f90) (by kernel_rfl) (nt:=22) (by kernel_rfl) (b:=LY) (cE (by kernel_rfl)) (amJ rfl rfl)
theorem ap8 (σ:Sg) (an:Int->List Sp->Bool) (ix:Int->List Sp->Nat) (n:Int) (q:Nat) (l:List Sp):wC (lpY an ix) σ ca 90 bL [.v (.c (.it .i64 n)),.v (.c (.vs 7 0 q 3 false))] [.bI (.eC l)]=.aJ (decide (q=l.length /\ (q:Int)=(q:Int) /\ l.length<=100000)) (.ite (an n l) (.aE (Di (.v (.c (.bl false)),s9 bL [.bI (.eC l)]))) (.aE (Di (.v (.c (.bl true)),s9 bL [.bI (.eC l)])))):=by kernel_rfl
def HQ (now:Int) (x:Nt):Bool:=lL (decide (now < -9223372036854775806)) (decide (x.BM > IntKind.wrap .i64 (now - 2)))
theorem c4R (σ:Sg) (now:Int) (x:Nt):wC jr σ ca 115 bL [.v (.agg (Nt.bx x)),.v (.c (.ptr 7 0))] [.cells [.it .i64 now] 3]=.aE (Di (.v (.c (.bt (HQ now x))),s9 bL [.cells [.it .i64 now] 3])):=by kernel_rfl
def agi (may:Int->List Sp->Bool) (args:List SV) (ch:List (aG AV)):T (SV×List (aG AV)×List (aG AV)):=match args,ch with
 | [.v (.c (.it .i64 n)),.v (.c (.vs 7 0 q 3 false))],[.bI (.eC l)]=>.aJ (decide (q=l.length /\ l.length<=100000)) (.aE (.v (.c (.bt (may n l))),[.bI (.eC l)],[]))
 | _,_=>.fail "May"
theorem agh:cD Tryz.prog (NV σ) 90 (qh cJ bL (agi fun n l=>!(l.any (qi n)))):=by
 refine kT (N:=hP (lpY (fun n l=>l.any (qi n)) (fun n l=>je (qi n) 0 l)) σ) (N':=NV σ) rfl rfl (nN dE rfl fun args ch v l' nw h hlen ha hC=>?_)
 unfold agi at h
 split at h
 ·rename_i n q l
  replace h:=aD h
  obtain⟨hb,h⟩:=h
  obtain⟨rfl,hl⟩:=aaV hb
  cases h
  have hr:(wC (lpY (fun n l=>l.any (qi n)) (fun n l=>je (qi n) 0 l)) σ ca 90 bL [.v (.c (.it .i64 n)),.v (.c (.vs 7 0 l.length 3 false))] [.bI (.eC l)]).val=some (Di (.v (.c (.bl (!(l.any (qi n))))),s9 bL [.bI (.eC l)])):=by
   refine(congrArg T.val (ap8 σ (fun n l=>l.any (qi n)) (fun n l=>je (qi n) 0 l) n l.length l)).trans ?_
   rw [nv (aaS ⟨rfl,rfl,hl⟩)]
   cases hp:l.any (qi n) with
   | true=>rfl
   | false=>rfl
  exact sJ (v:=.v (.c (.bl (!(l.any (qi n)))))) (jK aqd C9 rfl hr (by rintro ⟨⟩)) ((aay _).cl _) fun ρ=>rfl
 ·cases h
def sv4 (ep:Int->Nt->Bool) (args:List SV) (ch:List (aG AV)):T (SV×List (aG AV)×List (aG AV)):=match args,ch with
 | [.v (.agg [.it .i64 a,.it .i64 b,.it .i64 c,.it .i64 d,.bt e,.it .i64 f,.it .i64 g]),.v (.c (.ptr 7 0))],[.cells [.it .i64 now] ty]=>match Nat.beq ty 3 with
   | true=>.aE (.v (.c (.bt (ep now ⟨a,b,c,d,e,f,g⟩))),[.cells [.it .i64 now] 3],[])
   | false=>.fail "epochs"
 | _,_=>.fail "epochs"
theorem Uu:cD Tryz.prog (NV σ) 115 (qh cJ bL (sv4 HQ)):=by
 refine kT (N:=hP jr σ) (N':=NV σ) rfl rfl (nN dE rfl fun args ch v l' nw h hlen ha hC=>?_)
 unfold sv4 at h
 split at h
 ·rename_i a b c d e f g now ty
  split at h
  ·rename_i qQ
   have qQ:=(aC _ _).1 qQ
   subst qQ
   cases h
   exact jK ou C9 rfl (congrArg T.val (c4R σ now ⟨a,b,c,d,e,f,g⟩)) (by rintro ⟨⟩)
  ·cases h
 ·cases h
end
section
open Go Go.Sx Go.Proofs
variable {σ:Sg} {lp:Lp}
def Pp (ep:Int->Nt->Bool):mK:=bA 115 (qh cJ bL (sv4 ep)) ca
def HK (now:Int) (q:Nat) (l:List Nt) (i:Int) (f s:List Nt) (lf ls:Nat):St AV :=
 {E:=only Hc [(1,.wJ 115 [.ptr 8 0]),(4,.v (.c (.vs 9 0 lf 7 false))),(5,.v (.c (.vs 10 0 ls 7 false))),(8,.v (.c (.vs 7 0 q 7 false))),(9,.v (.c (.it .i64 q))),(10,.v (.c (.it .i64 i)))] 28,
   H:=s9 bL [.bI (.notes l),.cells [.it .i64 now] 3,.bI (.notes f),.bI (.notes s)]}
theorem d4R (σ:Sg) (ep:Int->Nt->Bool) (now:Int) (q:Nat) (l:List Nt) (i:Int) (f s:List Nt) (lf ls:Nat):(xc (NV σ) (bs (lv (NV σ) (Pp ep) 5)) (fun _=>none) 28 LD (HK now q l i f s lf ls)).bind (eQ 9 28 Hc eV)=.ite (decide (i < (q:Int))) (.aJ (decide (0<=i /\ i < (q:Int))) (.aJ (decide (0+i.toNat < l.length))
 (.ite (ep now (oQ l i)) (.aJ (wR σ ls s) (.aE (.normal,HK now q l (IntKind.wrap .i64 (i+1)) f (s++[oQ l i]) lf (ls+1)))) (.aJ (wR σ lf f) (.aE (.normal,HK now q l (IntKind.wrap .i64 (i+1)) (f++[oQ l i]) s (lf+1) ls))))))
 (.aE (.exit 0,HK now q l i f s lf ls)):=by kernel_rfl
def JG (now:Int) (l:List Nt) (m:MD):St AV:=HK now l.length l m.k m.f m.s m.f.length m.s.length
theorem Nw (σ:Sg) (now:Int) (l:List Nt) (hl:l.length<=100000) (m:MD) (r:Ex×MD) (h:(tY l (HQ now) m).val=some r) :
 ((xc (NV σ) (bs (lv (NV σ) (Pp HQ) 5)) (fun _=>none) 28 LD (JG now l m)).bind (eQ 9 28 Hc eV)).val=some (r.1,JG now l r.2):=by
 replace h:=aD h
 obtain⟨hb,h⟩:=h
 obtain⟨h1,h2,h3⟩:=aaV hb
 cases h
 obtain⟨k,f,s⟩:=m
 simp only at h1 h2 h3
 have e1:0+(k:Int).toNat=k:=by omega
 have hw:IntKind.wrap .i64 ((k:Int)+1)=((k+1:Nat):Int):=lR (by omega)
 dsimp only [JG]
 rw [d4R]
 by_cases du:k < l.length
 ·rw [tG (aaS (by show (k:Int) < _;omega)),nv (aaS (by omega)),nv (aaS (by omega)),hw,gi bj.bR du]
  dsimp only [oQ]
  rw [e1]
  cases hp:HQ now (l.getD k bj.bR) with
  | true=>rw [tG rfl,nv (n7 rfl (by omega))];simp only [XK,hp,T.val,abl,abn,adY]
  | false=>rw [wG rfl,nv (n7 rfl (by omega))];simp only [XK,hp,T.val,abl,abn,adY]
 ·rw [wG (aaZ (by show ¬(k:Int) < _;omega)),ad8 (by omega)]
  rfl
def gD4 (fr st:Int->List Nt->List Nt) (s:St AV):T (Ex×St AV):=match mZ s.H 0 bL with
 | some [some (.bI (.notes l)),some (.cells [.it .i64 now] ty)] =>
   match Sx.aF s.E 1,Sx.aF s.E 4,Sx.aF s.E 5,Sx.aF s.E 8,Sx.aF s.E 9,Sx.aF s.E 10,Nat.beq ty 3 with
   | .wJ XX [.ptr 8 0],.v (.c .dq),.v (.c .dq),.v (.c (.vs 7 0 q1 7 false)),.v (.c (.it .i64 q2)),.v (.c (.il .i64 0)),true=>match Nat.beq XX 115 with
     | true=>.aJ (decide (q1=l.length /\ q2=(q1:Int) /\ l.length<=100000)) (.aE (.exit 0,HK now l.length l l.length (fr now l) (st now l) (fr now l).length (st now l).length))
     | false=>.fail "divide"
   | _,_,_,_,_,_,_=>.fail "divide"
 | _=>.fail "divide"
theorem ahw {N':dV AV} (hF:N'.F=(NV σ).F) (hG:N'.G=(NV σ).G):fY Tryz.prog N' 28 LD (gD4 (fun now l=>gO (HQ now) l) (fun now l=>ij (HQ now) l)):=by
 have cH:gF Tryz.prog (NV σ) (bs (lv (NV σ) (Pp HQ) 5)):=dj (my rH tA J7 (aK Uu bn) 5)
 refine eO (N:=NV σ) hF hG rH cH (lp:=fun _=>none) (fun _ _ _ g hg=>by cases hg) fun s s' ex cG=>?_
 obtain⟨E1,H1⟩:=s
 unfold gD4 at cG
 split at cG
 ·rename_i l now ty hs
  have hs:=jj hs
  simp only at hs
  subst hs
  split at cG
  ·rename_i XX q1 q2 e1 e4 e5 e8 e9 zo qQ
   have qQ:=(aC _ _).1 qQ
   subst qQ
   simp only at e1 e4 e5 e8 e9 zo
   split at cG
   ·rename_i xU
    have xU:=(aC _ _).1 xU
    subst xU
    replace cG:=aD cG
    obtain⟨hb,cG⟩:=cG
    obtain⟨rfl,rfl,hl⟩:=aaV hb
    cases cG
    refine⟨{M:=MD,sH:=JG now l,step:=tY l (HQ now),ks:=Hc,pk:=eV,zH:=(fun d a h=>by cases h),L:=9,len:=rfl,FL:=(by show 7<=9;decide),run:=Nw σ now l hl,m:=⟨0,[],[]⟩,k:=_,m':=_,Ka:=?_,it:=Qh l 0 [] [] rfl (abJ _) (adr _) (adr _),fin:=rfl}⟩
    refine ib (N:=NV σ) (s:=⟨E1,_⟩) (l:=[.notes [],.notes []]) (fun a ha=>⟨7,bj.ty,by simp only [abk,abo,or_false,or_self] at ha;rw [ha];rfl⟩) (by show 7<=9;decide) fun k hk=>?_
    simp only [Hc,abk,abo,or_false] at hk
    rcases hk with rfl | rfl | rfl | rfl | rfl | rfl
    ·exact .inl e1.symm
    ·exact .inr (.inr ⟨e4,0,7,by decide,rfl⟩)
    ·exact .inr (.inr ⟨e5,1,7,by decide,rfl⟩)
    ·exact .inl e8.symm
    ·exact .inl e9.symm
    ·exact .inr (.inl ⟨by show Sx.aF E1 10≠_;rw [zo];rintro ⟨⟩,uo _,fun ρ=>by show _=(Sx.aF E1 10).aq ρ;rw [zo];rfl⟩)
   ·cases cG
  ·cases cG
 ·cases cG
def agm (fr st:Int->List Nt->List Nt):Lp:=lV 111 2 (gD4 fr st) jr
theorem alk:fH Tryz.prog (hP (agm (fun now l=>gO (HQ now) l) (fun now l=>ij (HQ now) l)) σ) :=
 lM ou (fn:=Tryz.f111) (by kernel_rfl) (c:=eM Tryz.f111) (by kernel_rfl) (nt:=28) (by kernel_rfl) (b:=LD) (cE (by kernel_rfl)) (ahw rfl rfl)
def ano (lf ls:Nat):SV:=.ji [.c (.vs 8 0 lf 7 false),.c (.vs 9 0 ls 7 false)]
theorem arZ (σ:Sg) (ep:Int->Nt->Bool) (fr st:Int->List Nt->List Nt) (l:List Nt) (now:Int) (q:Nat):wC (agm fr st) σ (Pp ep) 107 bL [.v (.c (.vs 7 0 q 7 false)),.v (.c (.it .i64 now))] [.bI (.notes l)]=.aJ (decide (q=l.length /\ (q:Int)=(q:Int) /\ l.length<=100000)) (.aE (Di (ano (fr now l).length (st now l).length,s9 bL [.bI (.notes l),.bI (.notes (fr now l)),.bI (.notes (st now l))]))):=by kernel_rfl
def dv4 (fr st:Int->List Nt->List Nt) (args:List SV) (ch:List (aG AV)):T (SV×List (aG AV)×List (aG AV)):=match args,ch with
 | [.v (.c (.vs 7 0 q 7 false)),.v (.c (.it .i64 now))],[.bI (.notes l)]=>.aJ (decide (q=l.length /\ l.length<=100000))
     (.aE (ano (fr now l).length (st now l).length,[.bI (.notes l)],[.bI (.notes (fr now l)),.bI (.notes (st now l))]))
 | _,_=>.fail "divide"
theorem ahH:cD Tryz.prog (NV σ) 107 (qh cJ bL (dv4 (fun now l=>gO (HQ now) l) (fun now l=>ij (HQ now) l))):=by
 refine kT (N:=hP (agm (fun now l=>gO (HQ now) l) (fun now l=>ij (HQ now) l)) σ) (N':=NV σ) rfl rfl (nN dE rfl fun args ch v l' nw h hlen ha hC=>?_)
 unfold dv4 at h
 split at h
 ·rename_i q now l
  replace h:=aD h
  obtain⟨hb,h⟩:=h
  obtain⟨rfl,hl⟩:=aaV hb
  cases h
  have hr:=congrArg T.val (arZ σ HQ (fun now l=>gO (HQ now) l) (fun now l=>ij (HQ now) l) l now l.length)
  rw [nv (aaS ⟨rfl,rfl,hl⟩)] at hr
  exact jK alk (B3 (aK Uu bn)) rfl hr (by rintro ⟨⟩)
 ·cases h
end
section
open Go Go.Sx Go.Proofs
variable {σ:Sg}
def aI4:l9 (Int×Int×Int×Int) where
 bx x:=[.v (.c (.it .i64 x.1)),.v (.c (.it .i64 x.2.1)),.v (.c (.it .i64 x.2.2.1)),.v (.c (.it .i64 x.2.2.2))]
 iM:=fun | [.v (.c a),.v (.c b),.v (.c c),.v (.c d)]=>(match j6 a,j6 b,j6 c,j6 d with | some a,some b,some c,some d=>some (a,b,c,d) | _,_,_,_=>none) | _=>none
 ok:=fun l a h ρ=>by
  split at h
  ·split at h
   ·rename_i h0 h1 h2 h3
    cases h
    simp only [abv,aeU,SV.aq,V1.aq,cB h0 ρ,cB h1 ρ,cB h2 ρ,cB h3 ρ];rfl
   ·cases h
  ·cases h
 free:=fun _=>rfl
def tg {α:Type} (O:wL α):SV×List AV×List AV->Option α
 | (.ji [.c (.ptr 7 0),.c .fL],[],[a])=>O.X a
 | _=>none
theorem EU {α:Type} {O:wL α} {r:SV×List AV×List AV} {j:α} (h:tg O r=some j):r=(.ji [.c (.ptr 7 0),.c .fL],[],[O.V j]):=by
 unfold tg at h
 split at h
 ·rw [O.ok _ _ h]
 ·cases h
def sm {γ α:Type} (A:l9 γ) (O:wL α) (ok:γ->Option Bool) (mk:γ->α) (args:List SV) (l:List AV):T (SV×List AV×List AV):=match l with
 | []=>match A.iM args with
   | some x=>DU (ok x) (.aE (.ji [.c (.ptr 7 0),.c .fL],[],[O.V (mk x)]))
   | none=>.fail "maker"
 | _=>.fail "maker"
theorem sj {tab:mK} (ht:dB Tryz.prog (NV σ) tab) {f:FuncId} {M:List Bool} (hM:7=M.length) {γ α:Type} {A:l9 γ} {O:wL α} {ok:γ->Option Bool} {mk:γ->α}
 (j7:∀x,Zc (ok x)=true->∃args,jy args=true /\ (∀ρ:Nm,args.map (SV.aq ρ)=(A.bx x).map (SV.aq ρ)) /\ ((kN σ tab f M args []).map (tg O)).val=some (some (mk x))):cD Tryz.prog (NV σ) f (bP cJ M (sm A O ok mk)):=by
 refine gH dE hM fun args l v l' nw h hl bM=>?_
 unfold sm at h
 split at h
 ·split at h
  ·rename_i x hx
   replace h:=jQ h
   obtain⟨oI,h⟩:=h
   cases h
   obtain⟨Fh,e2,e3,e4⟩:=j7 x oI
   obtain⟨y,h1,h2⟩:=dp e4
   have h2:=EU h2
   subst h2
   have hc:=vD ht hM (fI e2) h1
   exact jg hc.1 fun ρ=>by rw [e3 ρ,A.ok _ _ hx ρ]
  ·cases h
 ·cases h
def amG:H9:=⟨ao,ao,ao,ao,ao,ao,ao,ao,ao⟩
def CB (x:Int×Int×Int×Int):au:=⟨aW,0,Ld,ao,ao,0,[],[],x.1,x.2.1,x.2.2.1,x.2.2.2,amG,⟨false,0,0⟩,[],0,⟨ao,false⟩⟩
def zx (e me th no:Int):Bool:=lL (decide (e < 1)) (lL (decide (e > 5)) (lL (decide (th < 1)) (lL (decide (th > 6)) (lL (decide (me < 0)) (lL (decide (me>=th)) (lL (decide (no < 1)) (decide (no > 64))))))))
theorem afN (σ:Sg) (e me th no:Int):(kN σ ca 26 bL (aI4.bx (e,me,th,no)) []).map (tg gW)=.ite (zx e me th no) (.fail "load") (.aJ true (.aE (some (CB (e,me,th,no))))):=by kernel_rfl
theorem Vr:cD Tryz.prog (NV σ) 26 (bP cJ bL (sm aI4 gW (fun x=>some (!(zx x.1 x.2.1 x.2.2.1 x.2.2.2))) CB)) :=
 sj bn rfl fun x h=>⟨aI4.bx x,rfl,fun _=>rfl,by
  obtain⟨e,me,th,no⟩:=x
  have h:(!(zx e me th no))=true:=h
  rw [afN]
  cases hb:zx e me th no with
  | true=>rw [hb] at h;cases h
  | false=>rfl⟩
end
section
open Go Go.Sx Go.Proofs
variable {σ:Sg} {lp:Lp}
def pT (w:W):Sp:=⟨match !w.mark with | true=>false | false=>true,match !w.mark with | true=>0 | false=>w.bS,match !w.mark with | true=>0 | false=>w.tag⟩
end
end Go.Proofs.YtadmfaohjnjajaaGreatDoor

namespace Go.Sx
variable {AV:Type} {P:Program} {N:dV AV}
def zs:Hp AV->Hp AV->Hp AV
 | x::H,y::R=>(match y with | some c=>some c | none=>match x with | some _=>some .j8 | none=>none)::zs H R
 | _,R=>R
theorem A8:∀{H R:Hp AV} {m:Nat} {c:aG AV},ae (zs H R) m=some c->ae R m=some c \/ c=.j8
 | [],R,m,c,h=>.inl (by simpa [zs] using h)
 | x::H,[],m,c,h=>by simp [zs,ae] at h
 | x::H,y::R,0,c,h=>by
   cases y with
   | some d=>exact .inl h
   | none=>cases x with
     | some d =>
       have h:some (aG.j8:aG AV)=some c:=h
       cases h;exact .inr rfl
     | none=>cases (h:(none:Option (aG AV))=some c)
 | x::H,y::R,m+1,c,h=>A8 (H:=H) (R:=R) (m:=m) h
theorem XT (H R:Hp AV):Fl N R (zs H R):=fun ρ w hO=>by
 have rq:∀{m c k},ae (zs H R) m=some c->c.fp ρ m k->ae R m=some c:=fun {m c k} h hk=>by
  rcases A8 h with h1 | rfl
  ·exact h1
  ·exact hk.elim
 refine⟨ρ,hO.sub ⟨fun m c h=>?_,fun m m' c d dA h h' k hk dW=>hO.qz m m' c d dA (rq h hk) (rq h' dW) k hk dW,hO.qW⟩ (fun m c k h hk=>⟨m,c,rq h hk,hk⟩),fun _=>rfl,fun m d k h hk=>⟨m,d,rq h hk,hk⟩⟩
 rcases A8 h with h1 | rfl
 ·exact hO.q m c h1
 ·trivial
def zZ:Hp AV->Hp AV->Bool
 | [],_=>true
 | none::H,none::R=>zZ H R
 | some _::H,some _::R=>zZ H R
 | _,_=>false
theorem n8:∀{H R:Hp AV},zZ H R=true->H.length<=R.length /\ (∀m c,ae H m=some c->∃c',ae R m=some c') /\ ∀m,m < H.length->ae H m=none->ae R m=none
 | [],R,_=>⟨adr _,fun m c h=>by cases m<;>simp [ae] at h,fun m h=>by simp at h⟩
 | none::H,none::R,h=>by
   obtain⟨h1,h2,h3⟩:=n8 (H:=H) (R:=R) h
   refine⟨afc h1,fun m c hm=>?_,fun m hl hm=>?_⟩
   ·cases m with
    | zero=>cases hm
    | succ m=>exact h2 m c hm
   ·cases m with
    | zero=>rfl
    | succ m=>exact h3 m (Nat.lt_of_succ_lt_succ hl) hm
 | some x::H,some y::R,h=>by
   obtain⟨h1,h2,h3⟩:=n8 (H:=H) (R:=R) h
   refine⟨afc h1,fun m c hm=>?_,fun m hl hm=>?_⟩
   ·cases m with
    | zero=>exact⟨y,rfl⟩
    | succ m=>exact h2 m c hm
   ·cases m with
    | zero=>cases hm
    | succ m=>exact h3 m (Nat.lt_of_succ_lt_succ hl) hm
 | none::_,some _::_,h=>by cases h
 | some _::_,none::_,h=>by cases h
 | _::_,[],h=>by rename_i x H;cases x<;>cases h
def ae0 (view:Hp AV->Nat->T (AV×List Nat)) (lay:AV->Option (Hp AV)) (G:Nat) (s:List SV->Hp AV->T (SV×Hp AV)) (args:List SV) (H:Hp AV):T (SV×Hp AV):=match args with
 | .v (.c (.ptr n o))::_=>match ae H n with
   | some (.cells _ _)=>(view H n).bind fun x=>match zs H (td n x.2 x.1 0 H) with
     | H1=>match zZ H H1,Bc H1 args,p6 H1 H1 with
       | true,true,true=>(s args H1).bind fun r=>match ae r.2 n with
         | some (.bI a)=>match lay a with
           | some (some c::K)=>match pG r.2 n (some c::K) with
             | R=>match Nat.ble G n,zZ H R,QN R r.1,p6 R R,p6 r.2 r.2 with
               | true,true,true,true,true=>.aE (r.1,R)
               | _,_,_,_,_=>.fail "via: behind"
           | _=>.fail "via: no layout"
         | _=>.fail "via: no object"
       | _,_,_=>.fail "via: ahead"
   | _=>s args H
 | _=>s args H
theorem Zy {view:Hp AV->Nat->T (AV×List Nat)} (Xg:Fz N view) {lay:AV->Option (Hp AV)} (aqO:∀a K l S w,lay a=some K->N.F.q a l S w->nu N K l S w) {G:Nat} (hG:N.G=G) {f:FuncId} {s:List SV->Hp AV->T (SV×Hp AV)} (hs:cD P N f s):cD P N f (ae0 view lay G s):=by
 refine cD.of fun args H v H' h ha hC=>?_
 unfold ae0 at h
 split at h
 ·rename_i n o r
  split at h
  ·rename_i l ty hn
   obtain⟨⟨a0,ns⟩,h0,h⟩:=T.bf h
   dsimp only at h
   split at h
   ·rename_i b1 b2 b3
    obtain⟨⟨v1,H2⟩,h1,h⟩:=T.bf h
    split at h
    ·rename_i a ha2
     split at h
     ·rename_i c K hK
      dsimp only at h
      split at h
      ·rename_i c1 c2 c3 c4 c5
       cases h
       dsimp only at ha2 c2 c3 c4 c5 ⊢
       have hfl:Fl N H (zs H (td n ns a0 0 H)):=(Qu (Xg H n a0 ns h0)).trans (XT H _)
       generalize zs H (td n ns a0 0 H)=H1 at *
       have Xr:MU N H H1:=fun ρ w hO=>by
        obtain⟨ρ1,o1,e1,f1⟩:=hfl ρ w hO
        exact⟨ρ1,o1,fun m _=>e1 m,f1⟩
       have hc:=hs.ctr h1 (p5.1 b2) ⟨jh.1 b3,trivial⟩
       have ho2:MU N H2 (pG H2 n (some c::K)):=DH (K:=some c::K) ⟨jh.1 c5,trivial⟩ ha2 ⟨c,rfl⟩ (by rw [hG];exact adI c1) fun l S w hq=>aqO a _ l S w hK hq
       have qe:Fld N H2 (pG H2 n (some c::K)):=fun ρ w hO=>by
        obtain⟨ρ1,o1,e1,f1⟩:=ho2 ρ w hO
        exact⟨ρ1,o1,fun m c hm=>e1 m (bQ hm),f1⟩
       obtain⟨s1,s2,s3⟩:=n8 c2
       exact ab7 Xr (n8 b1).2.1 hc qe ha (wm.1 c3) ⟨jh.1 c4,trivial⟩ s2 s3 s1
      ·cases h
     ·cases h
    ·cases h
   ·cases h
  ·exact hs.ctr h ha hC
 ·exact hs.ctr h ha hC
end Go.Sx

namespace Go.Proofs.YtadmfaohjnjajaaGreatDoor
section
open Go Go.Sx Go.Proofs
variable {σ:Sg} {lp:Lp}
def iI (p:Prop):Bool:=@decide p (Classical.propDecidable p)
theorem iY {p:Prop} (h:p):iI p=true:=@aaS p (Classical.propDecidable p) h
theorem gJ {p:Prop} (h:iI p=true):p:=@aaV p (Classical.propDecidable p) h
def Bs (lp:Lp) (σ:Sg) (tab:mK) (f:FuncId) (M:List Bool) (args:List SV) (l:List AV) (K:Hp AV):T (SV×List AV×List AV) :=
 match pG (gM M l) M.length K with
 | H=>match Q.Bc H args,Q.p6 H H with
   | true,true=>(Q.bind (Q.lv (hP lp σ) tab 24 (.fn f) args H) (Bb (CU σ) cJ M l.length [M.length])).map V9
   | _,_=>.fail "run: names"
theorem ub (qd:fH Tryz.prog (hP lp σ)) {tab:mK} (ht:dB Tryz.prog (hP lp σ) tab) {f:FuncId} {M:List Bool} (hM:7=M.length) {args:List SV} {a:AV} {l:List AV} {K:Hp AV} (Qp:∃c,ae K 0=some c) (hKq:∀l S w,(hP lp σ).F.q a l S w->nu (hP lp σ) K l S w) {v:SV} {l' nw:List AV}
 (bM:∀x∈args,fh (gM M (a::l)) x) (h:(Bs lp σ tab f M args (a::l) K).val=some (v,l',nw)):qT Tryz.prog (hP lp σ) f args (gM M (a::l)) v (gM M (l'++nw)) /\ l'.length=(a::l).length:=by
 unfold Bs at h
 dsimp only at h
 split at h
 ·rename_i h1 h2
  rw [Q.clVs_eq] at h1
  rw [Q.clHs_eq] at h2
  obtain⟨v0,rfl,h0⟩:=CC h
  rw [Q.bind_eq,Q.lv_eq] at h0
  obtain⟨⟨v1,H2⟩,hr,hc⟩:=T.bf h0
  have hn:ae (gM M (a::l)) M.length=some (.bI a):=by
   unfold gM
   rw [bo,gg,if_neg (by omega),Nat.sub_self]
   rfl
  have Xr:MU (hP lp σ) (gM M (a::l)) (pG (gM M (a::l)) M.length K):=DH ⟨(AG (σ:=σ) M _).1,trivial⟩ hn Qp (by show 7<=M.length;omega) hKq
  have XD:=(abN qd ht 24 f).ctr hr (p5.1 h1) ⟨jh.1 h2,trivial⟩
  refine(fun x=>⟨CJ x.1,x.2⟩) (wg (N:=hP lp σ) (tO rfl) dE hM bM Xr (fun m c h=>?_) XD hc)
  have du:=bQ hn
  have h:ae (gM M (a::l)) m=some c:=h
  rw [AO du (by rintro rfl;obtain⟨c,hc⟩:=Qp;cases hc)]
  by_cases e:m=M.length
  ·obtain⟨c0,wH⟩:=Qp
   rw [if_pos e,wH];exact⟨_,rfl⟩
  ·rw [if_neg e,if_pos (bQ h)];exact⟨c,h⟩
 ·cases h
def Bv (lp:Lp) (σ:Sg) (tab:mK) (f:FuncId) (M:List Bool) (args:List SV) (a:AV) (ty:TypeId) (gs:Gs) (l:List AV):T (SV×List AV×List AV) :=
 Bs lp σ tab f M (.v (.c (.ptr 7 0))::args) (a::l) (fP AV.len ty gs)
theorem KN (qd:fH Tryz.prog (hP lp σ)) {tab:mK} (ht:dB Tryz.prog (hP lp σ) tab) {f:FuncId} {M:List Bool} (hM:7=M.length) {args:List SV} {a:AV} {ty:TypeId} {gs:Gs} {l:List AV} (ho:a.FV=true) (hl:o4 σ a=some (fP AV.len ty (iQ gs))) {v:SV} {l' nw:List AV}
 (bM:∀x∈args,fh (gM M (a::l)) x) (h:(Bv lp σ tab f M args a ty gs l).val=some (v,l',nw)) :
 qT Tryz.prog (hP lp σ) f (.v (.c (.ptr 7 0))::args) (gM M (a::l)) v (gM M (l'++nw)) /\ l'.length=l.length+1 :=
 ub qd ht hM (a:=a) (K:=fP AV.len ty gs) ⟨_,rfl⟩ (fun L S w hq=>yO ((sW (N:=hP lp σ) rfl hl ho L S w).1 hq)) (fun x hx=>by
  rcases abk.1 hx with rfl | hx
  ·exact I3 hM
  ·exact bM x hx) h
theorem sK {f:FuncId} {args:List SV} {H H':Hp AV} {v:SV} (h:qT Tryz.prog (hP lp σ) f args H v H'):qT Tryz.prog (NV σ) f args H v H':=by
 obtain⟨h1,h2,h3⟩:=h
 refine⟨h1,⟨h2.1,trivial⟩,fun ρ w hO=>(h3 ρ w (nO (N:=NV σ) (N':=hP lp σ) rfl rfl hO)).mono ?_⟩
 rintro e w' ⟨ρ',he,o,ev⟩
 exact⟨ρ',he,nO (N:=hP lp σ) (N':=NV σ) rfl rfl o,zf (NV σ) ev⟩
def P1 {γ α:Type} (A:l9 γ) (O:wL α) (ok:α->γ->Option Bool) (next:α->γ->SV×α×List AV) (args:List SV) (l:List AV):T (SV×List AV×List AV):=match args,l with
 | .v (.c (.ptr 7 0))::r,[a]=>match A.iM r,O.X a with
   | some x,some j=>DU (ok j x) (.aE ((next j x).1,[O.V (next j x).2.1],(next j x).2.2))
   | _,_=>.fail "method"
 | _,_=>.fail "method"
theorem Ww {f:FuncId} {M:List Bool} (hM:7=M.length) {γ α:Type} {A:l9 γ} {O:wL α} {ok:α->γ->Option Bool} {next:α->γ->SV×α×List AV}
 (j7:∀j x,Zc (ok j x)=true->∃lp tab ty gs args,fH Tryz.prog (hP lp σ) /\ dB Tryz.prog (NV σ) tab /\ o4 σ (O.V j)=some (fP AV.len ty (iQ gs)) /\ jy args=true /\ (∀ρ:Nm,args.map (SV.aq ρ)=(A.bx x).map (SV.aq ρ)) /\
   (Bv lp σ tab f M args (O.V j) ty gs []).val=some ((next j x).1,[O.V (next j x).2.1],(next j x).2.2)) :
 cD Tryz.prog (NV σ) f (bP cJ M (P1 A O ok next)):=by
 refine gH dE hM fun args l v l' nw h hl bM=>?_
 unfold P1 at h
 split at h
 ·rename_i r a
  split at h
  ·rename_i x j hx hj
   replace h:=jQ h
   obtain⟨oI,h⟩:=h
   cases h
   have ea:=O.ok _ _ hj
   subst ea
   obtain⟨lp,tab,ty,gs,Fh,e0,e00,e1,e2,e3,e4⟩:=j7 j x oI
   have hc:=KN e0 (B3 e00) hM (O.FV j) e1 (fI e2) e4
   exact jg (sK hc.1) fun ρ=>by
    simp only [abv]
    rw [e3 ρ,A.ok _ _ hx ρ]
  ·cases h
 ·cases h
def agw (σ:Sg) (a:AV):Option (Hp AV):=match AV.FV a with | true=>o4 σ a | false=>none
theorem aa0 (a:AV) (K:Hp AV) (l:Sx.l8) (S:Nat->Prop) (w:World) (h:agw σ a=some K) (hq:(NV σ).F.q a l S w):nu (NV σ) K l S w:=by
 unfold agw at h
 split at h
 ·rename_i ho
  exact(sW (N:=NV σ) rfl h ho l S w).1 hq
 ·cases h
def Q4 (σ:Sg) (s:List SV->Hp AV->T (SV×Hp AV)):List SV->Hp AV->T (SV×Hp AV):=ae0 (CU σ) (agw σ) 7 s
theorem Iz {f:FuncId} {s:List SV->Hp AV->T (SV×Hp AV)} (h:cD Tryz.prog (NV σ) f s):cD Tryz.prog (NV σ) f (Q4 σ s):=Zy (N:=NV σ) (tO rfl) aa0 rfl h
structure MC (β:Type) where
 k:Nat
 r:List β
def goC {α β:Type} (x:Nat) (f:α->β) (m:MC β):List α->Ex×MC β
 | []=>(.exit x,m)
 | a::_=>(.normal,⟨m.k+1,m.r++[f a]⟩)
def yv {α β:Type} (x:Nat) (f:α->β) (l:List α) (m:MC β):T (Ex×MC β):=.aJ (decide (m.k<=l.length /\ m.r.length=m.k)) (.aE (goC x f m (l.drop m.k)))
theorem W8 {α β:Type} {x:Nat} {f:α->β} {l:List α}:∀(r:List α) (k:Nat) (s:List β),l.drop k=r->k+r.length=l.length->s.length=k->eJ (yv x f l) (r.length+1) ⟨k,s⟩=some (.exit x,⟨l.length,s++r.map f⟩):=by
 intro r
 induction r with
 | nil =>
   intro k s hr hk hs
   rw [adY,eJ,yv,nv (aaS ⟨by simp only [adY] at hk;show k<=_;omega,hs⟩)]
   simp only [T.val,hr,goC,aeU,aeJ]
   simp only [adY,Nat.add_zero] at hk
   rw [hk]
 | cons a r ih =>
   intro k s hr hk hs
   have qV:l.drop (k+1)=r:=by
    rw [show l.drop (k+1)=(l.drop k).drop 1 by rw [List.drop_drop],hr];rfl
   rw [abn] at hk
   rw [abn,eJ,yv,nv (aaS ⟨by show k<=_;omega,hs⟩)]
   simp only [T.val,hr,goC]
   rw [ih (k+1) (s++[f a]) qV (by omega) (by rw [abl,hs];rfl)]
   simp only [abv,acC,acS]
end
section
open Go Go.Sx Go.Proofs
variable {σ:Sg} {lp:Lp}
def hpE (e:Int) (m:au):Hp AV:=pG (gM bL [gV m]) 7 (fP AV.len fg (dh 46 (au.wr {m with ax:=e})))
def N2 (w:W):N1:=⟨w.bS⟩
def WT:List Nat:=[2,3,10,11,12]
def LS5:Code:=ia 3 (cA (eM Tryz.f91))
def Md (m:au) (i:Int) (r:List Sp) (lr:Nat):St AV :=
 {E:=only WT [(2,.v (.c .dq)),(3,.v (.c (.vs 11 0 lr 3 false))),(10,.v (.c (.vs 8 0 m.seen.length 5 false))),(11,.v (.c (.it .i64 m.seen.length))),(12,.v (.c (.it .i64 i)))] 23,H:=(hpE 5 m)++[some (.bI (.eC r))]}
def NJ (σ:Sg) (n:Nat) (l:List Sp):Bool:=decide (n=iL.len (F6 σ) (AV.eC l) /\ (n+1) * (SI.bytes PD+1)<=qU)
theorem rS5 (σ:Sg) (m:au) (i:Int) (r:List Sp) (lr:Nat):(xc (NV σ) (bs (lv (NV σ) ca 5)) (fun _=>none) 23 LS5 (Md m i r lr)).bind (eQ 11 23 WT eV) =
 .ite (decide (i < (m.seen.length:Int))) (.aJ (decide (0<=i /\ i < (m.seen.length:Int))) (.aJ (decide (0+i.toNat < m.seen.length)) (.aJ (NJ σ lr r) (.aE (.normal,Md m (IntKind.wrap .i64 (i+1)) (r++[pT (m.seen.getD (0+i.toNat) dS.bR)]) (lr+1)))))) (.aE (.exit 0,Md m i r lr)):=by kernel_rfl
theorem RC {n:Nat} {l:List Sp} (h:n=l.length) (hn:l.length<=100000):NJ σ n l=true:=by
 unfold NJ
 subst h
 exact aaS ⟨rfl,abL (adN _ (afc hn)) (by decide)⟩
def EF (m:au) (c:MC Sp):St AV:=Md m c.k c.r c.r.length
theorem Ns (σ:Sg) (m:au) (hm:m.seen.length<=100000) (c:MC Sp) (r:Ex×MC Sp) (h:(yv 0 pT m.seen c).val=some r) :
 ((xc (NV σ) (bs (lv (NV σ) ca 5)) (fun _=>none) 23 LS5 (EF m c)).bind (eQ 11 23 WT eV)).val=some (r.1,EF m r.2):=by
 replace h:=aD h
 obtain⟨hb,h⟩:=h
 obtain⟨h1,h2⟩:=aaV hb
 cases h
 obtain⟨k,s⟩:=c
 simp only at h1 h2
 have e1:0+(k:Int).toNat=k:=by omega
 have hw:IntKind.wrap .i64 ((k:Int)+1)=((k+1:Nat):Int):=lR (by omega)
 dsimp only [EF]
 rw [rS5]
 by_cases du:k < m.seen.length
 ·rw [tG (aaS (by show (k:Int) < _;omega)),nv (aaS (by omega)),nv (aaS (by omega)),nv (RC rfl (by omega)),hw,gi dS.bR du,e1]
  simp only [goC,T.val,abl,abn,adY]
 ·rw [wG (aaZ (by show ¬(k:Int) < _;omega)),ad8 (by omega)]
  rfl
def am9 (m:au) (s:St AV):Prop:=Sx.aF s.E 2=.v (.c .dq) /\ Sx.aF s.E 3=.v (.c .dq) /\ Sx.aF s.E 10=.v (.c (.vs 8 0 m.seen.length 5 false)) /\ Sx.aF s.E 11=.v (.c (.it .i64 m.seen.length)) /\ Sx.aF s.E 12=.v (.c (.il .i64 0)) /\ s.H=(hpE 5 m)
def gS5 (sp:List Sp) (m:au) (s:St AV):T (Ex×St AV):=.aJ (iI (am9 m s)) (.aE (.exit 0,Md m m.seen.length sp sp.length))
theorem ahu {N':dV AV} (hF:N'.F=(NV σ).F) (hG:N'.G=(NV σ).G) (m:au) (hm:m.seen.length<=100000):fY Tryz.prog N' 23 LS5 (gS5 (m.seen.map pT) m):=by
 have cH:gF Tryz.prog (NV σ) (bs (lv (NV σ) ca 5)):=dj (my rH tA J7 bn 5)
 refine eO (N:=NV σ) hF hG rH cH (lp:=fun _=>none) (fun _ _ _ g hg=>by cases hg) fun s s' ex cG=>?_
 obtain⟨E1,H1⟩:=s
 unfold gS5 at cG
 replace cG:=aD cG
 obtain⟨hb,cG⟩:=cG
 obtain⟨e2,e3,zo,Zn,e12,eH⟩:=gJ hb
 simp only at e2 e3 zo Zn e12 eH
 subst eH
 cases cG
 refine⟨{M:=MC Sp,sH:=EF m,step:=yv 0 pT m.seen,ks:=WT,pk:=eV,zH:=(fun d a h=>by cases h),L:=11,len:=rfl,FL:=(by show 7<=11;decide),run:=Ns σ m hm,m:=⟨0,[]⟩,k:=_,m':=_,Ka:=?_,it:=W8 m.seen 0 [] rfl (abJ _) rfl,fin:=?_}⟩
 ·refine ib (N:=NV σ) (s:=⟨E1,_⟩) (l:=[.eC []]) (fun a ha=>⟨3,mA.ty,by simp only [abk,abo,or_false] at ha;rw [ha];rfl⟩) (by show 7<=11;decide) fun k hk=>?_
  simp only [WT,abk,abo,or_false] at hk
  rcases hk with rfl | rfl | rfl | rfl | rfl
  ·exact .inl e2.symm
  ·exact .inr (.inr ⟨e3,0,3,by decide,rfl⟩)
  ·exact .inl zo.symm
  ·exact .inl Zn.symm
  ·exact .inr (.inl ⟨by show Sx.aF E1 12≠_;rw [e12];rintro ⟨⟩,uo _,fun ρ=>by show _=(Sx.aF E1 12).aq ρ;rw [e12];rfl⟩)
 ·simp only [acM,EF]
def alr (sp:List Sp) (m:au) (lp:Lp):Lp:=lV 91 3 (gS5 sp m) lp
theorem alg {lp:Lp} (h:fH Tryz.prog (hP lp σ)) (m:au) (hm:m.seen.length<=100000):fH Tryz.prog (hP (alr (m.seen.map pT) m lp) σ) :=
 lM h (fn:=Tryz.f91) (by kernel_rfl) (c:=eM Tryz.f91) (by kernel_rfl) (nt:=23) (by kernel_rfl) (b:=LS5) (cE (by kernel_rfl)) (ahu (σ:=σ) (N':=hP lp σ) rfl rfl m hm)
def X3 (m:au):Prop:=SV.v (.c .dq)=.v (.c .dq) /\ SV.v (.c .dq)=.v (.c .dq) /\ SV.v (.c (.vs 8 0 m.seen.length 5 false))=.v (.c (.vs 8 0 m.seen.length 5 false)) /\ SV.v (.c (.it .i64 m.seen.length))=.v (.c (.it .i64 m.seen.length)) /\ SV.v (.c (.il .i64 0))=.v (.c (.il .i64 0)) /\ (hpE 5 m)=(hpE 5 m)
theorem X2 (m:au):iI (X3 m)=true:=iY ⟨rfl,rfl,rfl,rfl,rfl,rfl⟩
def WU:List Nat:=[0,2,5,6,30,31,32,34,35,36]
def LS3:Code:=ia 6 (cA (eM Tryz.f89))
def Me (m:au) (i:Int) (r:List N1) (lr:Nat):St AV :=
 {E:=only WU [(0,.v (.c (.ptr 7 0))),(2,.v (.c (.vs 11 0 lr 1 false))),(5,.v (.c (.ptr 7 0))),(6,.v (.c (.ptr 7 0))),(30,.v (.c (.ptr 7 0))),(31,.v (.c (.ptr 7 0))),(32,.v (.c (.ptr 7 0))),(34,.v (.c (.vs 8 0 m.seen.length 5 false))),(35,.v (.c (.it .i64 m.seen.length))),(36,.v (.c (.it .i64 i)))] 97,H:=(hpE 3 m)++[some (.bI (.jS r))]}
def NK (σ:Sg) (n:Nat) (l:List N1):Bool:=decide (n=iL.len (F6 σ) (AV.jS l) /\ (n+1) * (SI.bytes KJ+1)<=qU)
theorem rS3 (σ:Sg) (m:au) (i:Int) (r:List N1) (lr:Nat):(xc (NV σ) (bs (lv (NV σ) ca 5)) (fun _=>none) 97 LS3 (Me m i r lr)).bind (eQ 11 97 WU eV) =
 .ite (decide (i < (m.seen.length:Int))) (.aJ (decide (0<=i /\ i < (m.seen.length:Int))) (.aJ (decide (0+i.toNat < m.seen.length)) (.aJ (NK σ lr r) (.aE (.normal,Me m (IntKind.wrap .i64 (i+1)) (r++[N2 (m.seen.getD (0+i.toNat) dS.bR)]) (lr+1)))))) (.aE (.exit 1,Me m i r lr)):=by kernel_rfl
theorem RD {n:Nat} {l:List N1} (h:n=l.length) (hn:l.length<=100000):NK σ n l=true:=by
 unfold NK
 subst h
 exact aaS ⟨rfl,abL (adN _ (afc hn)) (by decide)⟩
def EG (m:au) (c:MC N1):St AV:=Me m c.k c.r c.r.length
theorem Nu (σ:Sg) (m:au) (hm:m.seen.length<=100000) (c:MC N1) (r:Ex×MC N1) (h:(yv 1 N2 m.seen c).val=some r) :
 ((xc (NV σ) (bs (lv (NV σ) ca 5)) (fun _=>none) 97 LS3 (EG m c)).bind (eQ 11 97 WU eV)).val=some (r.1,EG m r.2):=by
 replace h:=aD h
 obtain⟨hb,h⟩:=h
 obtain⟨h1,h2⟩:=aaV hb
 cases h
 obtain⟨k,s⟩:=c
 simp only at h1 h2
 have e1:0+(k:Int).toNat=k:=by omega
 have hw:IntKind.wrap .i64 ((k:Int)+1)=((k+1:Nat):Int):=lR (by omega)
 dsimp only [EG]
 rw [rS3]
 by_cases du:k < m.seen.length
 ·rw [tG (aaS (by show (k:Int) < _;omega)),nv (aaS (by omega)),nv (aaS (by omega)),nv (RD rfl (by omega)),hw,gi dS.bR du,e1]
  simp only [goC,T.val,abl,abn,adY]
 ·rw [wG (aaZ (by show ¬(k:Int) < _;omega)),ad8 (by omega)]
  rfl
def ana (m:au) (s:St AV):Prop:=Sx.aF s.E 0=.v (.c (.ptr 7 0)) /\ Sx.aF s.E 2=.v (.c .dq) /\ Sx.aF s.E 5=.v (.c (.ptr 7 0)) /\ Sx.aF s.E 6=.v (.c (.ptr 7 0)) /\ Sx.aF s.E 30=.v (.c (.ptr 7 0)) /\ Sx.aF s.E 31=.v (.c (.ptr 7 0)) /\ Sx.aF s.E 32=.v (.c (.ptr 7 0)) /\ Sx.aF s.E 34=.v (.c (.vs 8 0 m.seen.length 5 false)) /\ Sx.aF s.E 35=.v (.c (.it .i64 m.seen.length)) /\ Sx.aF s.E 36=.v (.c (.il .i64 0)) /\ s.H=(hpE 3 m)
def gS3 (sp:List N1) (m:au) (s:St AV):T (Ex×St AV):=.aJ (iI (ana m s)) (.aE (.exit 1,Me m m.seen.length sp sp.length))
theorem ahv {N':dV AV} (hF:N'.F=(NV σ).F) (hG:N'.G=(NV σ).G) (m:au) (hm:m.seen.length<=100000):fY Tryz.prog N' 97 LS3 (gS3 (m.seen.map N2) m):=by
 have cH:gF Tryz.prog (NV σ) (bs (lv (NV σ) ca 5)):=dj (my rH tA J7 bn 5)
 refine eO (N:=NV σ) hF hG rH cH (lp:=fun _=>none) (fun _ _ _ g hg=>by cases hg) fun s s' ex cG=>?_
 obtain⟨E1,H1⟩:=s
 unfold gS3 at cG
 replace cG:=aD cG
 obtain⟨hb,cG⟩:=cG
 obtain⟨e0,e2,e5,e6,e30,e31,e32,e34,e35,e36,eH⟩:=gJ hb
 simp only at e0 e2 e5 e6 e30 e31 e32 e34 e35 e36 eH
 subst eH
 cases cG
 refine⟨{M:=MC N1,sH:=EG m,step:=yv 1 N2 m.seen,ks:=WU,pk:=eV,zH:=(fun d a h=>by cases h),L:=11,len:=rfl,FL:=(by show 7<=11;decide),run:=Nu σ m hm,m:=⟨0,[]⟩,k:=_,m':=_,Ka:=?_,it:=W8 m.seen 0 [] rfl (abJ _) rfl,fin:=?_}⟩
 ·refine ib (N:=NV σ) (s:=⟨E1,_⟩) (l:=[.jS []]) (fun a ha=>⟨1,kt.ty,by simp only [abk,abo,or_false] at ha;rw [ha];rfl⟩) (by show 7<=11;decide) fun k hk=>?_
  simp only [WU,abk,abo,or_false] at hk
  rcases hk with rfl | rfl | rfl | rfl | rfl | rfl | rfl | rfl | rfl | rfl
  ·exact .inl e0.symm
  ·exact .inr (.inr ⟨e2,0,1,by decide,rfl⟩)
  ·exact .inl e5.symm
  ·exact .inl e6.symm
  ·exact .inl e30.symm
  ·exact .inl e31.symm
  ·exact .inl e32.symm
  ·exact .inl e34.symm
  ·exact .inl e35.symm
  ·exact .inr (.inl ⟨by show Sx.aF E1 36≠_;rw [e36];rintro ⟨⟩,uo _,fun ρ=>by show _=(Sx.aF E1 36).aq ρ;rw [e36];rfl⟩)
 ·simp only [acM,EG]
def als (sp:List N1) (m:au) (lp:Lp):Lp:=lV 89 6 (gS3 sp m) lp
theorem alh {lp:Lp} (h:fH Tryz.prog (hP lp σ)) (m:au) (hm:m.seen.length<=100000):fH Tryz.prog (hP (als (m.seen.map N2) m lp) σ) :=
 lM h (fn:=Tryz.f89) (by kernel_rfl) (c:=eM Tryz.f89) (by kernel_rfl) (nt:=97) (by kernel_rfl) (b:=LS3) (cE (by kernel_rfl)) (ahv (σ:=σ) (N':=hP lp σ) rfl rfl m hm)
def X5 (m:au):Prop:=SV.v (.c (.ptr 7 0))=.v (.c (.ptr 7 0)) /\ SV.v (.c .dq)=.v (.c .dq) /\ SV.v (.c (.ptr 7 0))=.v (.c (.ptr 7 0)) /\ SV.v (.c (.ptr 7 0))=.v (.c (.ptr 7 0)) /\ SV.v (.c (.ptr 7 0))=.v (.c (.ptr 7 0)) /\ SV.v (.c (.ptr 7 0))=.v (.c (.ptr 7 0)) /\ SV.v (.c (.ptr 7 0))=.v (.c (.ptr 7 0)) /\ SV.v (.c (.vs 8 0 m.seen.length 5 false))=.v (.c (.vs 8 0 m.seen.length 5 false)) /\ SV.v (.c (.it .i64 m.seen.length))=.v (.c (.it .i64 m.seen.length)) /\ SV.v (.c (.il .i64 0))=.v (.c (.il .i64 0)) /\ (hpE 3 m)=(hpE 3 m)
theorem X4 (m:au):iI (X5 m)=true:=iY ⟨rfl,rfl,rfl,rfl,rfl,rfl,rfl,rfl,rfl,rfl,rfl⟩
end
section
open Go Go.Sx Go.Proofs
variable {σ:Sg} {lp:Lp}
def Kt (f1 s1:List W->List Nt->List Nt) (f2 s2:List N1->List Nt->List Nt) (f3 s3:List Sp->List Nt->List Nt) (f4 s4:Int->List Nt->List Nt):mK:=bA 104 (qh cJ bL (dv1 f1 s1)) (bA 105 (qh cJ bL (dv2 f2 s2)) (bA 106 (qh cJ bL (dv3 f3 s3)) (bA 107 (qh cJ bL (dv4 f4 s4)) ca)))
def fr1 (aO:List W) (l:List Nt):List Nt:=gO (fun n=>aO.any (eE n)) l
def fr2 (aO:List N1) (l:List Nt):List Nt:=gO (fun n=>aO.any (iV n)) l
def fr3 (aO:List Sp) (l:List Nt):List Nt:=gO (fun n=>aO.any (eD n)) l
def fr4 (now:Int) (l:List Nt):List Nt:=gO (HQ now) l
def C5:mK:=Kt fr1 (fun aO l=>ij (fun n=>aO.any (eE n)) l) fr2 (fun aO l=>ij (fun n=>aO.any (iV n)) l) fr3 (fun aO l=>ij (fun n=>aO.any (eD n)) l) fr4 (fun now l=>ij (HQ now) l)
theorem vv:dB Tryz.prog (NV σ) C5:=aK ahK (aK ahJ (aK ahI (aK ahH bn)))
def SU:SV×List AV×List AV->Option (SV×au×List AV)
 | (v,[a],nw)=>match GD a with | some m=>some (v,m,nw) | none=>none
 | _=>none
theorem wa {r:SV×List AV×List AV} {v:SV} {m:au} {nw:List AV} (h:SU r=some (v,m,nw)):r=(v,[gV m],nw):=by
 unfold SU at h
 split at h
 ·split at h
  ·rename_i hm
   cases h
   rw [Cv hm]
  ·cases h
 ·cases h
def tS (r:RT):T (Option (SV×au×List AV)):=.aJ (y7 r) (.aE (some (.ji [],r.m,[])))
def pD (x:Nt):W:=⟨x.af,x.gen,x.tag,x.bS,x.mark⟩
section
variable {β:Type} (I:Bool->β->β->β) (N:Bool->β->β) (L:RT->β)
def oO (r:RT):β:=I ((r.ld:Int)==0) (jM L r) (N (decide ((0:Int)<=0 /\ 0 < (r.ld:Int))) (N (decide (0 < r.m.aP.length)) (L (fA 16 ⟨5,0,0,0,pD (r.m.aP.getD 0 bj.bR),ao⟩ r))))
end
def wU (l:List Nt) (r:RT):RT:={r with m:={r.m with aP:=l},ld:=l.length}
theorem sf2 (σ:Sg) (f1 s1:List W->List Nt->List Nt) (f2 s2:List N1->List Nt->List Nt) (f3 s3:List Sp->List Nt->List Nt) (f4 s4:Int->List Nt->List Nt) (m:au):(Bv jr σ (Kt f1 s1 f2 s2 f3 s3 f4 s4) 89 bL [] (gV {m with ax:=2}) fg (dh 46 (au.wr {m with ax:=2})) []).map SU =
 .aJ (decide (m.notes.length=m.notes.length /\ m.seen.length=m.seen.length /\ m.seen.length<=100000 /\ m.notes.length<=100000)) (oO tI tN tS (wU (f1 m.seen m.notes) (dz {m with ax:=2}))):=by kernel_rfl
theorem sf3 (σ:Sg) (sp:List N1) (f1 s1:List W->List Nt->List Nt) (f2 s2:List N1->List Nt->List Nt) (f3 s3:List Sp->List Nt->List Nt) (f4 s4:Int->List Nt->List Nt) (m:au):(Bv (als sp m jr) σ (Kt f1 s1 f2 s2 f3 s3 f4 s4) 89 bL [] (gV {m with ax:=3}) fg (dh 46 (au.wr {m with ax:=3})) []).map SU =
 .aJ (iI (X5 m)) (.aJ (decide (m.notes.length=m.notes.length /\ sp.length=sp.length /\ sp.length<=100000 /\ m.notes.length<=100000)) (oO tI tN tS (wU (f2 sp m.notes) (dz {m with ax:=3})))):=by kernel_rfl
theorem sf4 (σ:Sg) (f1 s1:List W->List Nt->List Nt) (f2 s2:List N1->List Nt->List Nt) (f3 s3:List Sp->List Nt->List Nt) (f4 s4:Int->List Nt->List Nt) (m:au):(Bv jr σ (Kt f1 s1 f2 s2 f3 s3 f4 s4) 89 bL [] (gV {m with ax:=4}) fg (dh 46 (au.wr {m with ax:=4})) []).map SU =
 .aJ (decide (m.notes.length=m.notes.length /\ m.notes.length<=100000)) (oO tI tN tS (wU (f4 m.clock.bS m.notes) (dz {m with ax:=4}))):=by kernel_rfl
def YC (gs:Gs):List Cell:=(gB AV.len 1 gs).map (Cell.cN (K5 7 8))
theorem sf5 (σ:Sg) (sp:List Sp) (f1 s1:List W->List Nt->List Nt) (f2 s2:List N1->List Nt->List Nt) (f3 s3:List Sp->List Nt->List Nt) (f4 s4:Int->List Nt->List Nt) (m:au):(Bv (alr sp m jr) σ (Kt f1 s1 f2 s2 f3 s3 f4 s4) 89 bL [] (gV {m with ax:=5}) fg (dh 46 (au.wr {m with ax:=5})) []).map SU =
 .aJ (iI (X3 m)) (.aJ (m7 (YC (dh 46 (au.wr {m with ax:=5}))) fg (YC (dh 46 (au.wr {m with ax:=5}))) fg) (.aJ (decide (m.notes.length=m.notes.length /\ sp.length=sp.length /\ sp.length<=100000 /\ m.notes.length<=100000)) (oO tI tN tS (wU (f3 sp m.notes) (dz {m with ax:=5}))))):=by kernel_rfl
def ER (m:au):List Nt:=if m.ax=2 then fr1 m.seen m.notes else if m.ax=3 then fr2 (m.seen.map N2) m.notes else if m.ax=4 then fr4 m.clock.bS m.notes else fr3 (m.seen.map pT) m.notes
def rD (r:RT):au:=oO cond (fun _ t=>t) RT.m r
def kL (m:au):au:=rD (wU (ER m) (dz m))
theorem vS {r:RT} (h:iJ r):(tS r).val=some (some (.ji [],r.m,[])):=by
 unfold tS
 rw [CG h.1 h.2.1 h.2.2]
 rfl
theorem Pe {r:RT} (h:iJ r):(oO tI tN tS r).val=some (some (.ji [],rD r,[])):=by
 unfold oO rD oO
 by_cases h0:r.m.aP.length=0
 ·have e:((r.ld:Int)==0)=true:=by rw [h.2.1,h0];rfl
  rw [e]
  exact vS (r:=dt ⟨ao,true⟩ r) (pN h)
 ·have e:((r.ld:Int)==0)=false:=by rw [h.2.1];simp only [beq_eq_false_iff_ne];omega
  rw [e]
  show (T.aJ _ (T.aJ _ (tS (fA 16 _ r)))).val=_
  rw [nv (aaS ⟨aef 0,by rw [h.2.1];omega⟩),nv (aaS (by omega))]
  exact vS (r:=fA 16 _ r) h
def V0 (m:au):Bool:=decide (2<=m.ax /\ m.ax<=5 /\ m.seen.length<=100000 /\ m.notes.length<=100000)
theorem Z4:cD Tryz.prog (NV σ) 89 (bP cJ bL (P1 Kb gW (fun m _=>some (V0 m)) fun m _=>(.ji [],kL m,[]))) :=
 Ww rfl fun m x h=>by
  obtain⟨h1,h2,h3,h4⟩:=aaV (h:V0 m=true)
  obtain⟨cl,st,acc,wd,wK,ix,seen,aP,e,me,mS,wE,holds,span,notes,dK,bz⟩:=m
  dsimp only at h1 h2 h3 h4
  have he:e=2 \/ e=3 \/ e=4 \/ e=5:=by omega
  clear h h1 h2
  rcases he with rfl | rfl | rfl | rfl
  ·refine⟨jr,C5,fg,dh 46 (au.wr ⟨cl,st,acc,wd,wK,ix,seen,aP,2,me,mS,wE,holds,span,notes,dK,bz⟩),[],ou,vv,rfl,rfl,fun _=>rfl,?_⟩
   obtain⟨r,e1,e2⟩:=dp ((congrArg T.val (sf2 σ fr1 _ fr2 _ fr3 _ fr4 _ ⟨cl,st,acc,wd,wK,ix,seen,aP,2,me,mS,wE,holds,span,notes,dK,bz⟩)).trans ((nv (aaS ⟨rfl,rfl,h3,h4⟩)).trans (Pe (r:=wU _ (dz _)) ⟨rfl,rfl,rfl⟩)))
   rw [wa e2] at e1
   exact e1
  ·refine⟨_,C5,fg,dh 46 (au.wr ⟨cl,st,acc,wd,wK,ix,seen,aP,3,me,mS,wE,holds,span,notes,dK,bz⟩),[],alh ou ⟨cl,st,acc,wd,wK,ix,seen,aP,3,me,mS,wE,holds,span,notes,dK,bz⟩ h3,vv,rfl,rfl,fun _=>rfl,?_⟩
   obtain⟨r,e1,e2⟩:=dp ((congrArg T.val (sf3 σ (seen.map N2) fr1 _ fr2 _ fr3 _ fr4 _ ⟨cl,st,acc,wd,wK,ix,seen,aP,3,me,mS,wE,holds,span,notes,dK,bz⟩)).trans ((nv (X4 _)).trans ((nv (aaS ⟨rfl,rfl,by rw [agR];exact h3,h4⟩)).trans (Pe (r:=wU _ (dz _)) ⟨rfl,rfl,rfl⟩))))
   rw [wa e2] at e1
   exact e1
  ·refine⟨jr,C5,fg,dh 46 (au.wr ⟨cl,st,acc,wd,wK,ix,seen,aP,4,me,mS,wE,holds,span,notes,dK,bz⟩),[],ou,vv,rfl,rfl,fun _=>rfl,?_⟩
   obtain⟨r,e1,e2⟩:=dp ((congrArg T.val (sf4 σ fr1 _ fr2 _ fr3 _ fr4 _ ⟨cl,st,acc,wd,wK,ix,seen,aP,4,me,mS,wE,holds,span,notes,dK,bz⟩)).trans ((nv (aaS ⟨rfl,h4⟩)).trans (Pe (r:=wU _ (dz _)) ⟨rfl,rfl,rfl⟩)))
   rw [wa e2] at e1
   exact e1
  ·refine⟨_,C5,fg,dh 46 (au.wr ⟨cl,st,acc,wd,wK,ix,seen,aP,5,me,mS,wE,holds,span,notes,dK,bz⟩),[],alg ou ⟨cl,st,acc,wd,wK,ix,seen,aP,5,me,mS,wE,holds,span,notes,dK,bz⟩ h3,vv,rfl,rfl,fun _=>rfl,?_⟩
   obtain⟨r,e1,e2⟩:=dp ((congrArg T.val (sf5 σ (seen.map pT) fr1 _ fr2 _ fr3 _ fr4 _ ⟨cl,st,acc,wd,wK,ix,seen,aP,5,me,mS,wE,holds,span,notes,dK,bz⟩)).trans ((nv (X2 _)).trans ((nv (lS _ _)).trans ((nv (aaS ⟨rfl,rfl,by rw [agR];exact h3,h4⟩)).trans (Pe (r:=wU _ (dz _)) ⟨rfl,rfl,rfl⟩)))))
   rw [wa e2] at e1
   exact e1
