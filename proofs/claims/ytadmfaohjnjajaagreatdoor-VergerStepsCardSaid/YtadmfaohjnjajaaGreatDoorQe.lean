import Derived.Test.YtadmfaohjnjajaaGreatDoorSxOi
set_option linter.unusedVariables false
set_option linter.unusedSimpArgs false
set_option maxHeartbeats 0
set_option maxRecDepth 100000
noncomputable section
namespace Go.Proofs.YtadmfaohjnjajaaGreatDoor
section
open Go Go.Sx Go.Proofs
variable {σ:Sg} {lp:Lp}
abbrev Ni:Nat:=90
abbrev Nh:Nat:=204
abbrev Ng:Nat:=117
abbrev Gq:Nat:=151
structure MA where
 k:Nat
 b:Bool
def SK {α:Type} (p:α->Bool) (m:MA):List α->Ex×MA
 | []=>(.exit 0,m)
 | a::_=>match p a with | true=>(.ret,⟨m.k,true⟩) | false=>(.normal,⟨m.k+1,false⟩)
def rj {α:Type} (l:List α) (p:α->Bool) (m:MA):T (Ex×MA):=.aJ (decide (m.k<=l.length /\ m.b=false)) (.aE (SK p m (l.drop m.k)))
def je {α:Type} (p:α->Bool):Nat->List α->Nat
 | k,[]=>k
 | k,a::r=>match p a with | true=>k | false=>je p (k+1) r
def pY {α:Type} (p:α->Bool) (k:Nat) (l:List α):Ex×MA:=match l.any p with | true=>(.ret,⟨je p k l,true⟩) | false=>(.exit 0,⟨k+l.length,false⟩)
theorem LH {α:Type} {l:List α} {p:α->Bool}:∀(r:List α) (k:Nat),l.drop k=r->k<=l.length->eJ (rj l p) (r.length+1) ⟨k,false⟩=some (pY p k r):=by
 intro r
 induction r with
 | nil =>
   intro k hr hk
   rw [adY,eJ,rj,nv (aaS ⟨hk,rfl⟩)]
   simp only [T.val,hr,SK]
   rfl
 | cons a r ih =>
   intro k hr hk
   have du:k < l.length:=by
    rcases Nat.lt_or_ge k l.length with h | h
    ·exact h
    ·rw [ad8 h] at hr;cases hr
   have qV:l.drop (k+1)=r:=by
    rw [show l.drop (k+1)=(l.drop k).drop 1 by rw [List.drop_drop],hr];rfl
   rw [abn,eJ,rj,nv (aaS ⟨hk,rfl⟩)]
   simp only [T.val,hr,SK]
   cases ha:p a with
   | true=>simp only [pY,List.any_cons,ha,Bool.true_or,je]
   | false =>
     simp only [ih (k+1) qV (by omega),pY,List.any_cons,ha,Bool.false_or,je,abn]
     rw [show k+1+r.length=k+(r.length+1) by omega]
theorem C9:dB Tryz.prog (hP lp σ) ca:=fun f g h=>by cases h
def J5:List Nat:=[2,3,6,7,8]
def eE (x:Nt) (w:W):Bool:=w.af==x.af
def iV (x:Nt) (e:N1):Bool:=gC (decide (e.val > 0)) (gC (decide (x.zv<=e.val)) (decide (e.val<=x.BM)))
def eD (x:Nt) (s:Sp):Bool:=gC s.is (gC (decide (s.BD<=x.BM)) (decide (s.Jy>=x.zv)))
theorem gi {α:Type} (d:α):∀{l:List α} {k:Nat},k < l.length->l.drop k=l.getD k d::l.drop (k+1)
 | [],k,h=>by cases h
 | a::r,0,h=>rfl
 | a::r,k+1,h=>by
   have:=gi d (l:=r) (k:=k) (Nat.lt_of_succ_lt_succ h)
   exact this
theorem aay (b:Bool):tm (.v (.c (.bt b))):=by intro x hx;simp [V1.cells] at hx;subst hx;rfl
theorem uo (n:Int):tm (.v (.c (.it .i64 n))):=by intro x hx;simp [V1.cells] at hx;subst hx;rfl
def L1:Code:=ia 2 (cA (eM Tryz.f112))
def YA (q:Nat) (l:List W):List (aG AV):=[.cells [.vs 8 0 q 5 false] Ng,.bI (.eU l)]
def OA (x:Nt) (q:Nat) (l:List W) (i:Int) (b:Bool):St AV :=
 {E:=only J5 [(2,.v (.c (.ptr 9 0))),(3,.v (.c (.bl b))),(6,.v (.c (.vs 8 0 q 5 false))),(7,.v (.c (.it .i64 q))),(8,.v (.c (.it .i64 i)))] 19,H:=s9 bL [.cells [.vs 8 0 q 5 false] Ng,.bI (.eU l),.cells (Nt.bx x) Gq]}
theorem s1R (σ:Sg) (x:Nt) (q:Nat) (l:List W) (i:Int):(xc (NV σ) (bs (lv (NV σ) ca 5)) (fun _=>none) 19 L1 (OA x q l i false)).bind (eQ 10 19 J5 eV)=.ite (decide (i < (q:Int))) (.aJ (decide (0<=i /\ i < (q:Int))) (.aJ (decide (0+i.toNat < l.length)) (.ite (eE x (l.getD (0+i.toNat) dS.bR)) (.aE (.ret,OA x q l i true)) (.aE (.normal,OA x q l (IntKind.wrap .i64 (i+1)) false))))) (.aE (.exit 0,OA x q l i false)):=by kernel_rfl
def HI (x:Nt) (l:List W) (m:MA):St AV:=OA x l.length l m.k m.b
theorem Rx (σ:Sg) (x:Nt) (l:List W) (hl:l.length<=100000) (m:MA) (r:Ex×MA) (h:(rj l (eE x) m).val=some r) :
 ((xc (NV σ) (bs (lv (NV σ) ca 5)) (fun _=>none) 19 L1 (HI x l m)).bind (eQ 10 19 J5 eV)).val=some (r.1,HI x l r.2):=by
 replace h:=aD h
 obtain⟨hb,h⟩:=h
 obtain⟨h1,h2⟩:=aaV hb
 cases h
 obtain⟨k,b⟩:=m
 simp only at h1 h2
 subst h2
 have e1:0+(k:Int).toNat=k:=by omega
 have hw:IntKind.wrap .i64 ((k:Int)+1)=((k+1:Nat):Int):=lR (by omega)
 dsimp only [HI]
 rw [s1R]
 by_cases hk:k < l.length
 ·rw [tG (aaS (by show (k:Int) < _;omega)),nv (aaS (by omega)),e1,nv (aaS hk),hw]
  have ed:l.drop k=l.getD k dS.bR::l.drop (k+1):=by
   exact gi _ hk
  rw [ed]
  cases hp:eE x (l.getD k dS.bR) with
  | true=>simp only [SK,hp];rfl
  | false=>simp only [SK,hp];rfl
 ·rw [wG (aaZ (by show ¬(k:Int) < _;omega)),ad8 (by omega)]
  rfl
def g1 (an:Nt->List W->Bool) (ix:Nt->List W->Nat) (s:St AV):T (Ex×St AV):=match mZ s.H 0 bL with
 | some [some (.cells [.vs 8 0 q 5 false] ty),some (.bI (.eU l)),some (.cells [.it .i64 a,.it .i64 b,.it .i64 c,.it .i64 d,.bt e,.it .i64 f,.it .i64 g] Kp)] =>
   match Sx.aF s.E 2,Sx.aF s.E 3,Sx.aF s.E 6,Sx.aF s.E 7,Sx.aF s.E 8,Nat.beq ty Ng,Nat.beq Kp Gq with
   | .v (.c (.ptr 9 0)),.v (.c (.bl false)),.v (.c (.vs 8 0 q1 5 false)),.v (.c (.it .i64 q2)),.v (.c (.il .i64 0)),true,true =>
     .aJ (decide (q=l.length /\ q1=q /\ q2=(q:Int) /\ l.length<=100000)) (.ite (an ⟨a,b,c,d,e,f,g⟩ l) (.aE (.ret,OA ⟨a,b,c,d,e,f,g⟩ l.length l (ix ⟨a,b,c,d,e,f,g⟩ l) true)) (.aE (.exit 0,OA ⟨a,b,c,d,e,f,g⟩ l.length l l.length false)))
   | _,_,_,_,_,_,_=>.fail "kept"
 | _=>.fail "kept"
theorem amP {N':dV AV} (hF:N'.F=(NV σ).F) (hG:N'.G=(NV σ).G):fY Tryz.prog N' 19 L1 (g1 (fun x l=>l.any (eE x)) (fun x l=>je (eE x) 0 l)):=by
 have cH:gF Tryz.prog (NV σ) (bs (lv (NV σ) ca 5)):=dj (my rH tA J7 bn 5)
 refine eO (N:=NV σ) hF hG rH cH (lp:=fun _=>none) (fun _ _ _ g hg=>by cases hg) fun s s' ex cG=>?_
 obtain⟨E1,H1⟩:=s
 unfold g1 at cG
 split at cG
 ·rename_i q ty l a b c d e f g Kp hs
  have hs:=jj hs
  simp only at hs
  subst hs
  split at cG
  ·rename_i q1 q2 e2 e3 e6 e7 e8 qQ EI
   have qQ:=(aC _ _).1 qQ
   have EI:=(aC _ _).1 EI
   subst qQ EI
   simp only at e2 e3 e6 e7 e8
   replace cG:=aD cG
   obtain⟨hb,cG⟩:=cG
   obtain⟨rfl,rfl,rfl,hl⟩:=aaV hb
   have Qm:(ex,s')=((pY (eE ⟨a,b,c,d,e,f,g⟩) 0 l).1,HI ⟨a,b,c,d,e,f,g⟩ l (pY (eE ⟨a,b,c,d,e,f,g⟩) 0 l).2):=by
    cases ha:l.any (eE ⟨a,b,c,d,e,f,g⟩) with
    | true =>
      rw [tG ha] at cG
      simp only [T.val,aaC] at cG
      rw [<- cG];unfold pY;rw [ha];rfl
    | false =>
      rw [wG ha] at cG
      simp only [T.val,aaC] at cG
      rw [<- cG];unfold pY;rw [ha]
      simp only [HI,abJ]
   simp only [aaF] at Qm
   obtain⟨rfl,rfl⟩:=Qm
   refine⟨{M:=MA,sH:=HI ⟨a,b,c,d,e,f,g⟩ l,step:=rj l (eE ⟨a,b,c,d,e,f,g⟩),ks:=J5,pk:=eV,zH:=(fun d a h=>by cases h),L:=10,len:=rfl,FL:=(by show 7<=10;decide),run:=Rx σ ⟨a,b,c,d,e,f,g⟩ l hl,m:=⟨0,false⟩,k:=_,m':=_,Ka:=?_,it:=LH l 0 rfl (adr _),fin:=rfl}⟩
   refine rS (N:=NV σ) (nt:=19) (E:=E1) (ks:=J5) (E':=[(2,.v (.c (.ptr 9 0))),(3,.v (.c (.bl false))),(6,.v (.c (.vs 8 0 l.length 5 false))),(7,.v (.c (.it .i64 l.length))),(8,.v (.c (.it .i64 (0:Nat))))]) fun k hk=>?_
   simp only [J5,abk,abo,or_false] at hk
   rcases hk with rfl | rfl | rfl | rfl | rfl
   ·exact .inl e2.symm
   ·exact .inl e3.symm
   ·exact .inl e6.symm
   ·exact .inl e7.symm
   ·exact .inr ⟨by rw [e8];rintro ⟨⟩,uo _,fun ρ=>by rw [e8];rfl⟩
  ·cases cG
 ·cases cG
def lp1 (an:Nt->List W->Bool) (ix:Nt->List W->Nat):Lp:=lV 112 2 (g1 an ix) jr
theorem aqh:fH Tryz.prog (hP (lp1 (fun x l=>l.any (eE x)) (fun x l=>je (eE x) 0 l)) σ) :=
 lM ou (fn:=Tryz.f112) (by kernel_rfl) (c:=eM Tryz.f112) (by kernel_rfl) (nt:=19) (by kernel_rfl) (b:=L1) (cE (by kernel_rfl)) (amP rfl rfl)
theorem c1R (σ:Sg) (an:Nt->List W->Bool) (ix:Nt->List W->Nat) (x:Nt) (q:Nat) (l:List W):wC (lp1 an ix) σ ca 112 bL [.v (.agg (Nt.bx x)),.v (.c (.ptr 7 0))] (YA q l) =
 .aJ (decide (q=l.length /\ q=q /\ (q:Int)=(q:Int) /\ l.length<=100000)) (.ite (an x l) (.aE (Di (.v (.c (.bl true)),s9 bL (YA l.length l)))) (.aE (Di (.v (.c (.bl false)),s9 bL (YA l.length l))))):=by kernel_rfl
def sv1 (an:Nt->List W->Bool) (args:List SV) (ch:List (aG AV)):T (SV×List (aG AV)×List (aG AV)):=match args,ch with
 | [.v (.agg [.it .i64 a,.it .i64 b,.it .i64 c,.it .i64 d,.bt e,.it .i64 f,.it .i64 g]),.v (.c (.ptr 7 0))],[.cells [.vs 8 0 q 5 false] ty,.bI (.eU l)]=>match Nat.beq ty Ng with
   | true=>.aJ (decide (q=l.length /\ l.length<=100000)) (.aE (.v (.c (.bt (an ⟨a,b,c,d,e,f,g⟩ l))),YA q l,[]))
   | false=>.fail "kept"
 | _,_=>.fail "kept"
theorem Ux:cD Tryz.prog (NV σ) 112 (qh cJ bL (sv1 fun x l=>l.any (eE x))):=by
 refine kT (N:=hP (lp1 (fun x l=>l.any (eE x)) (fun x l=>je (eE x) 0 l)) σ) (N':=NV σ) rfl rfl (nN dE rfl fun args ch v l' nw h hlen ha hC=>?_)
 unfold sv1 at h
 split at h
 ·rename_i a b c d e f g q ty l
  split at h
  ·rename_i qQ
   have qQ:=(aC _ _).1 qQ
   subst qQ
   replace h:=aD h
   obtain⟨hb,h⟩:=h
   obtain⟨rfl,hl⟩:=aaV hb
   cases h
   have hr:(wC (lp1 (fun x l=>l.any (eE x)) (fun x l=>je (eE x) 0 l)) σ ca 112 bL [.v (.agg [.it .i64 a,.it .i64 b,.it .i64 c,.it .i64 d,.bt e,.it .i64 f,.it .i64 g]),.v (.c (.ptr 7 0))] [.cells [.vs 8 0 l.length 5 false] Ng,.bI (.eU l)]).val=some (Di (.v (.c (.bl (l.any (eE ⟨a,b,c,d,e,f,g⟩)))),s9 bL (YA l.length l))):=by
    refine(congrArg T.val (c1R σ (fun x l=>l.any (eE x)) (fun x l=>je (eE x) 0 l) ⟨a,b,c,d,e,f,g⟩ l.length l)).trans ?_
    rw [nv (aaS ⟨rfl,rfl,rfl,hl⟩)]
    cases hp:l.any (eE ⟨a,b,c,d,e,f,g⟩) with
    | true=>rfl
    | false=>rfl
   exact sJ (v:=.v (.c (.bl (l.any (eE ⟨a,b,c,d,e,f,g⟩))))) (jK aqh C9 rfl hr (by rintro ⟨⟩)) ((aay _).cl _) fun ρ=>rfl
  ·cases h
 ·cases h
def L2:Code:=ia 2 (cA (eM Tryz.f113))
def Yz (q:Nat) (l:List N1):List (aG AV):=[.cells [.vs 8 0 q 1 false] Ni,.bI (.jS l)]
def Oz (x:Nt) (q:Nat) (l:List N1) (i:Int) (b:Bool):St AV :=
 {E:=only J5 [(2,.v (.c (.ptr 9 0))),(3,.v (.c (.bl b))),(6,.v (.c (.vs 8 0 q 1 false))),(7,.v (.c (.it .i64 q))),(8,.v (.c (.it .i64 i)))] 27,H:=s9 bL [.cells [.vs 8 0 q 1 false] Ni,.bI (.jS l),.cells (Nt.bx x) Gq]}
theorem s2R (σ:Sg) (x:Nt) (q:Nat) (l:List N1) (i:Int):(xc (NV σ) (bs (lv (NV σ) ca 5)) (fun _=>none) 27 L2 (Oz x q l i false)).bind (eQ 10 27 J5 eV)=.ite (decide (i < (q:Int))) (.aJ (match decide (0<=i /\ i < (q:Int)) with | true=>decide (0+i.toNat < l.length) | false=>false) (.ite (iV x (l.getD (0+i.toNat) kt.bR)) (.aE (.ret,Oz x q l i true)) (.aE (.normal,Oz x q l (IntKind.wrap .i64 (i+1)) false)))) (.aE (.exit 0,Oz x q l i false)):=by kernel_rfl
def HH (x:Nt) (l:List N1) (m:MA):St AV:=Oz x l.length l m.k m.b
theorem Rw (σ:Sg) (x:Nt) (l:List N1) (hl:l.length<=100000) (m:MA) (r:Ex×MA) (h:(rj l (iV x) m).val=some r) :
 ((xc (NV σ) (bs (lv (NV σ) ca 5)) (fun _=>none) 27 L2 (HH x l m)).bind (eQ 10 27 J5 eV)).val=some (r.1,HH x l r.2):=by
 replace h:=aD h
 obtain⟨hb,h⟩:=h
 obtain⟨h1,h2⟩:=aaV hb
 cases h
 obtain⟨k,b⟩:=m
 simp only at h1 h2
 subst h2
 have e1:0+(k:Int).toNat=k:=by omega
 have hw:IntKind.wrap .i64 ((k:Int)+1)=((k+1:Nat):Int):=lR (by omega)
 dsimp only [HH]
 rw [s2R]
 by_cases hk:k < l.length
 ·rw [tG (aaS (by show (k:Int) < _;omega)),e1,nv (by rw [aaS (show 0<=(k:Int) /\ (k:Int) < (l.length:Int) by omega),aaS hk]),hw]
  have ed:l.drop k=l.getD k kt.bR::l.drop (k+1):=by
   exact gi _ hk
  rw [ed]
  cases hp:iV x (l.getD k kt.bR) with
  | true=>simp only [SK,hp];rfl
  | false=>simp only [SK,hp];rfl
 ·rw [wG (aaZ (by show ¬(k:Int) < _;omega)),ad8 (by omega)]
  rfl
def g2 (an:Nt->List N1->Bool) (ix:Nt->List N1->Nat) (s:St AV):T (Ex×St AV):=match mZ s.H 0 bL with
 | some [some (.cells [.vs 8 0 q 1 false] ty),some (.bI (.jS l)),some (.cells [.it .i64 a,.it .i64 b,.it .i64 c,.it .i64 d,.bt e,.it .i64 f,.it .i64 g] Kp)] =>
   match Sx.aF s.E 2,Sx.aF s.E 3,Sx.aF s.E 6,Sx.aF s.E 7,Sx.aF s.E 8,Nat.beq ty Ni,Nat.beq Kp Gq with
   | .v (.c (.ptr 9 0)),.v (.c (.bl false)),.v (.c (.vs 8 0 q1 1 false)),.v (.c (.it .i64 q2)),.v (.c (.il .i64 0)),true,true =>
     .aJ (decide (q=l.length /\ q1=q /\ q2=(q:Int) /\ l.length<=100000)) (.ite (an ⟨a,b,c,d,e,f,g⟩ l) (.aE (.ret,Oz ⟨a,b,c,d,e,f,g⟩ l.length l (ix ⟨a,b,c,d,e,f,g⟩ l) true)) (.aE (.exit 0,Oz ⟨a,b,c,d,e,f,g⟩ l.length l l.length false)))
   | _,_,_,_,_,_,_=>.fail "kept"
 | _=>.fail "kept"
theorem amO {N':dV AV} (hF:N'.F=(NV σ).F) (hG:N'.G=(NV σ).G):fY Tryz.prog N' 27 L2 (g2 (fun x l=>l.any (iV x)) (fun x l=>je (iV x) 0 l)):=by
 have cH:gF Tryz.prog (NV σ) (bs (lv (NV σ) ca 5)):=dj (my rH tA J7 bn 5)
 refine eO (N:=NV σ) hF hG rH cH (lp:=fun _=>none) (fun _ _ _ g hg=>by cases hg) fun s s' ex cG=>?_
 obtain⟨E1,H1⟩:=s
 unfold g2 at cG
 split at cG
 ·rename_i q ty l a b c d e f g Kp hs
  have hs:=jj hs
  simp only at hs
  subst hs
  split at cG
  ·rename_i q1 q2 e2 e3 e6 e7 e8 qQ EI
   have qQ:=(aC _ _).1 qQ
   have EI:=(aC _ _).1 EI
   subst qQ EI
   simp only at e2 e3 e6 e7 e8
   replace cG:=aD cG
   obtain⟨hb,cG⟩:=cG
   obtain⟨rfl,rfl,rfl,hl⟩:=aaV hb
   have Qm:(ex,s')=((pY (iV ⟨a,b,c,d,e,f,g⟩) 0 l).1,HH ⟨a,b,c,d,e,f,g⟩ l (pY (iV ⟨a,b,c,d,e,f,g⟩) 0 l).2):=by
    cases ha:l.any (iV ⟨a,b,c,d,e,f,g⟩) with
    | true =>
      rw [tG ha] at cG
      simp only [T.val,aaC] at cG
      rw [<- cG];unfold pY;rw [ha];rfl
    | false =>
      rw [wG ha] at cG
      simp only [T.val,aaC] at cG
      rw [<- cG];unfold pY;rw [ha]
      simp only [HH,abJ]
   simp only [aaF] at Qm
   obtain⟨rfl,rfl⟩:=Qm
   refine⟨{M:=MA,sH:=HH ⟨a,b,c,d,e,f,g⟩ l,step:=rj l (iV ⟨a,b,c,d,e,f,g⟩),ks:=J5,pk:=eV,zH:=(fun d a h=>by cases h),L:=10,len:=rfl,FL:=(by show 7<=10;decide),run:=Rw σ ⟨a,b,c,d,e,f,g⟩ l hl,m:=⟨0,false⟩,k:=_,m':=_,Ka:=?_,it:=LH l 0 rfl (adr _),fin:=rfl}⟩
   refine rS (N:=NV σ) (nt:=27) (E:=E1) (ks:=J5) (E':=[(2,.v (.c (.ptr 9 0))),(3,.v (.c (.bl false))),(6,.v (.c (.vs 8 0 l.length 1 false))),(7,.v (.c (.it .i64 l.length))),(8,.v (.c (.it .i64 (0:Nat))))]) fun k hk=>?_
   simp only [J5,abk,abo,or_false] at hk
   rcases hk with rfl | rfl | rfl | rfl | rfl
   ·exact .inl e2.symm
   ·exact .inl e3.symm
   ·exact .inl e6.symm
   ·exact .inl e7.symm
   ·exact .inr ⟨by rw [e8];rintro ⟨⟩,uo _,fun ρ=>by rw [e8];rfl⟩
  ·cases cG
 ·cases cG
def lp2 (an:Nt->List N1->Bool) (ix:Nt->List N1->Nat):Lp:=lV 113 2 (g2 an ix) jr
theorem aqg:fH Tryz.prog (hP (lp2 (fun x l=>l.any (iV x)) (fun x l=>je (iV x) 0 l)) σ) :=
 lM ou (fn:=Tryz.f113) (by kernel_rfl) (c:=eM Tryz.f113) (by kernel_rfl) (nt:=27) (by kernel_rfl) (b:=L2) (cE (by kernel_rfl)) (amO rfl rfl)
theorem c2R (σ:Sg) (an:Nt->List N1->Bool) (ix:Nt->List N1->Nat) (x:Nt) (q:Nat) (l:List N1):wC (lp2 an ix) σ ca 113 bL [.v (.agg (Nt.bx x)),.v (.c (.ptr 7 0))] (Yz q l) =
 .aJ (decide (q=l.length /\ q=q /\ (q:Int)=(q:Int) /\ l.length<=100000)) (.ite (an x l) (.aE (Di (.v (.c (.bl true)),s9 bL (Yz l.length l)))) (.aE (Di (.v (.c (.bl false)),s9 bL (Yz l.length l))))):=by kernel_rfl
def sv2 (an:Nt->List N1->Bool) (args:List SV) (ch:List (aG AV)):T (SV×List (aG AV)×List (aG AV)):=match args,ch with
 | [.v (.agg [.it .i64 a,.it .i64 b,.it .i64 c,.it .i64 d,.bt e,.it .i64 f,.it .i64 g]),.v (.c (.ptr 7 0))],[.cells [.vs 8 0 q 1 false] ty,.bI (.jS l)]=>match Nat.beq ty Ni with
   | true=>.aJ (decide (q=l.length /\ l.length<=100000)) (.aE (.v (.c (.bt (an ⟨a,b,c,d,e,f,g⟩ l))),Yz q l,[]))
   | false=>.fail "kept"
 | _,_=>.fail "kept"
theorem Uw:cD Tryz.prog (NV σ) 113 (qh cJ bL (sv2 fun x l=>l.any (iV x))):=by
 refine kT (N:=hP (lp2 (fun x l=>l.any (iV x)) (fun x l=>je (iV x) 0 l)) σ) (N':=NV σ) rfl rfl (nN dE rfl fun args ch v l' nw h hlen ha hC=>?_)
 unfold sv2 at h
 split at h
 ·rename_i a b c d e f g q ty l
  split at h
  ·rename_i qQ
   have qQ:=(aC _ _).1 qQ
   subst qQ
   replace h:=aD h
   obtain⟨hb,h⟩:=h
   obtain⟨rfl,hl⟩:=aaV hb
   cases h
   have hr:(wC (lp2 (fun x l=>l.any (iV x)) (fun x l=>je (iV x) 0 l)) σ ca 113 bL [.v (.agg [.it .i64 a,.it .i64 b,.it .i64 c,.it .i64 d,.bt e,.it .i64 f,.it .i64 g]),.v (.c (.ptr 7 0))] [.cells [.vs 8 0 l.length 1 false] Ni,.bI (.jS l)]).val=some (Di (.v (.c (.bl (l.any (iV ⟨a,b,c,d,e,f,g⟩)))),s9 bL (Yz l.length l))):=by
    refine(congrArg T.val (c2R σ (fun x l=>l.any (iV x)) (fun x l=>je (iV x) 0 l) ⟨a,b,c,d,e,f,g⟩ l.length l)).trans ?_
    rw [nv (aaS ⟨rfl,rfl,rfl,hl⟩)]
    cases hp:l.any (iV ⟨a,b,c,d,e,f,g⟩) with
    | true=>rfl
    | false=>rfl
   exact sJ (v:=.v (.c (.bl (l.any (iV ⟨a,b,c,d,e,f,g⟩))))) (jK aqg C9 rfl hr (by rintro ⟨⟩)) ((aay _).cl _) fun ρ=>rfl
  ·cases h
 ·cases h
def L3:Code:=ia 2 (cA (eM Tryz.f114))
def Yy (q:Nat) (l:List Sp):List (aG AV):=[.cells [.vs 8 0 q 3 false] Nh,.bI (.eC l)]
def Oy (x:Nt) (q:Nat) (l:List Sp) (i:Int) (b:Bool):St AV :=
 {E:=only J5 [(2,.v (.c (.ptr 9 0))),(3,.v (.c (.bl b))),(6,.v (.c (.vs 8 0 q 3 false))),(7,.v (.c (.it .i64 q))),(8,.v (.c (.it .i64 i)))] 29,H:=s9 bL [.cells [.vs 8 0 q 3 false] Nh,.bI (.eC l),.cells (Nt.bx x) Gq]}
theorem s3R (σ:Sg) (x:Nt) (q:Nat) (l:List Sp) (i:Int):(xc (NV σ) (bs (lv (NV σ) ca 5)) (fun _=>none) 29 L3 (Oy x q l i false)).bind (eQ 10 29 J5 eV)=.ite (decide (i < (q:Int))) (.aJ (decide (0<=i /\ i < (q:Int))) (.aJ (decide (0+i.toNat < l.length)) (.ite (eD x (l.getD (0+i.toNat) mA.bR)) (.aE (.ret,Oy x q l i true)) (.aE (.normal,Oy x q l (IntKind.wrap .i64 (i+1)) false))))) (.aE (.exit 0,Oy x q l i false)):=by kernel_rfl
def HG (x:Nt) (l:List Sp) (m:MA):St AV:=Oy x l.length l m.k m.b
theorem Rv (σ:Sg) (x:Nt) (l:List Sp) (hl:l.length<=100000) (m:MA) (r:Ex×MA) (h:(rj l (eD x) m).val=some r) :
 ((xc (NV σ) (bs (lv (NV σ) ca 5)) (fun _=>none) 29 L3 (HG x l m)).bind (eQ 10 29 J5 eV)).val=some (r.1,HG x l r.2):=by
 replace h:=aD h
 obtain⟨hb,h⟩:=h
 obtain⟨h1,h2⟩:=aaV hb
 cases h
 obtain⟨k,b⟩:=m
 simp only at h1 h2
 subst h2
 have e1:0+(k:Int).toNat=k:=by omega
 have hw:IntKind.wrap .i64 ((k:Int)+1)=((k+1:Nat):Int):=lR (by omega)
 dsimp only [HG]
 rw [s3R]
 by_cases hk:k < l.length
 ·rw [tG (aaS (by show (k:Int) < _;omega)),nv (aaS (by omega)),e1,nv (aaS hk),hw]
  have ed:l.drop k=l.getD k mA.bR::l.drop (k+1):=by
   exact gi _ hk
  rw [ed]
  cases hp:eD x (l.getD k mA.bR) with
  | true=>simp only [SK,hp];rfl
  | false=>simp only [SK,hp];rfl
 ·rw [wG (aaZ (by show ¬(k:Int) < _;omega)),ad8 (by omega)]
  rfl
def g3 (an:Nt->List Sp->Bool) (ix:Nt->List Sp->Nat) (s:St AV):T (Ex×St AV):=match mZ s.H 0 bL with
 | some [some (.cells [.vs 8 0 q 3 false] ty),some (.bI (.eC l)),some (.cells [.it .i64 a,.it .i64 b,.it .i64 c,.it .i64 d,.bt e,.it .i64 f,.it .i64 g] Kp)] =>
   match Sx.aF s.E 2,Sx.aF s.E 3,Sx.aF s.E 6,Sx.aF s.E 7,Sx.aF s.E 8,Nat.beq ty Nh,Nat.beq Kp Gq with
   | .v (.c (.ptr 9 0)),.v (.c (.bl false)),.v (.c (.vs 8 0 q1 3 false)),.v (.c (.it .i64 q2)),.v (.c (.il .i64 0)),true,true =>
     .aJ (decide (q=l.length /\ q1=q /\ q2=(q:Int) /\ l.length<=100000)) (.ite (an ⟨a,b,c,d,e,f,g⟩ l) (.aE (.ret,Oy ⟨a,b,c,d,e,f,g⟩ l.length l (ix ⟨a,b,c,d,e,f,g⟩ l) true)) (.aE (.exit 0,Oy ⟨a,b,c,d,e,f,g⟩ l.length l l.length false)))
   | _,_,_,_,_,_,_=>.fail "kept"
 | _=>.fail "kept"
theorem amN {N':dV AV} (hF:N'.F=(NV σ).F) (hG:N'.G=(NV σ).G):fY Tryz.prog N' 29 L3 (g3 (fun x l=>l.any (eD x)) (fun x l=>je (eD x) 0 l)):=by
 have cH:gF Tryz.prog (NV σ) (bs (lv (NV σ) ca 5)):=dj (my rH tA J7 bn 5)
 refine eO (N:=NV σ) hF hG rH cH (lp:=fun _=>none) (fun _ _ _ g hg=>by cases hg) fun s s' ex cG=>?_
 obtain⟨E1,H1⟩:=s
 unfold g3 at cG
 split at cG
 ·rename_i q ty l a b c d e f g Kp hs
  have hs:=jj hs
  simp only at hs
  subst hs
  split at cG
  ·rename_i q1 q2 e2 e3 e6 e7 e8 qQ EI
   have qQ:=(aC _ _).1 qQ
   have EI:=(aC _ _).1 EI
   subst qQ EI
   simp only at e2 e3 e6 e7 e8
   replace cG:=aD cG
   obtain⟨hb,cG⟩:=cG
   obtain⟨rfl,rfl,rfl,hl⟩:=aaV hb
   have Qm:(ex,s')=((pY (eD ⟨a,b,c,d,e,f,g⟩) 0 l).1,HG ⟨a,b,c,d,e,f,g⟩ l (pY (eD ⟨a,b,c,d,e,f,g⟩) 0 l).2):=by
    cases ha:l.any (eD ⟨a,b,c,d,e,f,g⟩) with
    | true =>
      rw [tG ha] at cG
      simp only [T.val,aaC] at cG
      rw [<- cG];unfold pY;rw [ha];rfl
    | false =>
      rw [wG ha] at cG
      simp only [T.val,aaC] at cG
      rw [<- cG];unfold pY;rw [ha]
      simp only [HG,abJ]
   simp only [aaF] at Qm
   obtain⟨rfl,rfl⟩:=Qm
   refine⟨{M:=MA,sH:=HG ⟨a,b,c,d,e,f,g⟩ l,step:=rj l (eD ⟨a,b,c,d,e,f,g⟩),ks:=J5,pk:=eV,zH:=(fun d a h=>by cases h),L:=10,len:=rfl,FL:=(by show 7<=10;decide),run:=Rv σ ⟨a,b,c,d,e,f,g⟩ l hl,m:=⟨0,false⟩,k:=_,m':=_,Ka:=?_,it:=LH l 0 rfl (adr _),fin:=rfl}⟩
   refine rS (N:=NV σ) (nt:=29) (E:=E1) (ks:=J5) (E':=[(2,.v (.c (.ptr 9 0))),(3,.v (.c (.bl false))),(6,.v (.c (.vs 8 0 l.length 3 false))),(7,.v (.c (.it .i64 l.length))),(8,.v (.c (.it .i64 (0:Nat))))]) fun k hk=>?_
   simp only [J5,abk,abo,or_false] at hk
   rcases hk with rfl | rfl | rfl | rfl | rfl
   ·exact .inl e2.symm
   ·exact .inl e3.symm
   ·exact .inl e6.symm
   ·exact .inl e7.symm
   ·exact .inr ⟨by rw [e8];rintro ⟨⟩,uo _,fun ρ=>by rw [e8];rfl⟩
  ·cases cG
 ·cases cG
def lp3 (an:Nt->List Sp->Bool) (ix:Nt->List Sp->Nat):Lp:=lV 114 2 (g3 an ix) jr
theorem aqf:fH Tryz.prog (hP (lp3 (fun x l=>l.any (eD x)) (fun x l=>je (eD x) 0 l)) σ) :=
 lM ou (fn:=Tryz.f114) (by kernel_rfl) (c:=eM Tryz.f114) (by kernel_rfl) (nt:=29) (by kernel_rfl) (b:=L3) (cE (by kernel_rfl)) (amN rfl rfl)
theorem c3R (σ:Sg) (an:Nt->List Sp->Bool) (ix:Nt->List Sp->Nat) (x:Nt) (q:Nat) (l:List Sp):wC (lp3 an ix) σ ca 114 bL [.v (.agg (Nt.bx x)),.v (.c (.ptr 7 0))] (Yy q l) =
 .aJ (decide (q=l.length /\ q=q /\ (q:Int)=(q:Int) /\ l.length<=100000)) (.ite (an x l) (.aE (Di (.v (.c (.bl true)),s9 bL (Yy l.length l)))) (.aE (Di (.v (.c (.bl false)),s9 bL (Yy l.length l))))):=by kernel_rfl
def sv3 (an:Nt->List Sp->Bool) (args:List SV) (ch:List (aG AV)):T (SV×List (aG AV)×List (aG AV)):=match args,ch with
 | [.v (.agg [.it .i64 a,.it .i64 b,.it .i64 c,.it .i64 d,.bt e,.it .i64 f,.it .i64 g]),.v (.c (.ptr 7 0))],[.cells [.vs 8 0 q 3 false] ty,.bI (.eC l)]=>match Nat.beq ty Nh with
   | true=>.aJ (decide (q=l.length /\ l.length<=100000)) (.aE (.v (.c (.bt (an ⟨a,b,c,d,e,f,g⟩ l))),Yy q l,[]))
   | false=>.fail "kept"
 | _,_=>.fail "kept"
theorem Uv:cD Tryz.prog (NV σ) 114 (qh cJ bL (sv3 fun x l=>l.any (eD x))):=by
 refine kT (N:=hP (lp3 (fun x l=>l.any (eD x)) (fun x l=>je (eD x) 0 l)) σ) (N':=NV σ) rfl rfl (nN dE rfl fun args ch v l' nw h hlen ha hC=>?_)
 unfold sv3 at h
 split at h
 ·rename_i a b c d e f g q ty l
  split at h
  ·rename_i qQ
   have qQ:=(aC _ _).1 qQ
   subst qQ
   replace h:=aD h
   obtain⟨hb,h⟩:=h
   obtain⟨rfl,hl⟩:=aaV hb
   cases h
   have hr:(wC (lp3 (fun x l=>l.any (eD x)) (fun x l=>je (eD x) 0 l)) σ ca 114 bL [.v (.agg [.it .i64 a,.it .i64 b,.it .i64 c,.it .i64 d,.bt e,.it .i64 f,.it .i64 g]),.v (.c (.ptr 7 0))] [.cells [.vs 8 0 l.length 3 false] Nh,.bI (.eC l)]).val=some (Di (.v (.c (.bl (l.any (eD ⟨a,b,c,d,e,f,g⟩)))),s9 bL (Yy l.length l))):=by
    refine(congrArg T.val (c3R σ (fun x l=>l.any (eD x)) (fun x l=>je (eD x) 0 l) ⟨a,b,c,d,e,f,g⟩ l.length l)).trans ?_
    rw [nv (aaS ⟨rfl,rfl,rfl,hl⟩)]
    cases hp:l.any (eD ⟨a,b,c,d,e,f,g⟩) with
    | true=>rfl
    | false=>rfl
   exact sJ (v:=.v (.c (.bl (l.any (eD ⟨a,b,c,d,e,f,g⟩))))) (jK aqf C9 rfl hr (by rintro ⟨⟩)) ((aay _).cl _) fun ρ=>rfl
  ·cases h
 ·cases h
end
section
open Go Go.Sx Go.Proofs
variable {σ:Sg} {lp:Lp}
def Hc:List Nat:=[1,4,5,8,9,10]
def LD:Code:=ia 2 (cA (eM Tryz.f111))
def Pt (an:Nt->List W->Bool):mK:=bA 112 (qh cJ bL (sv1 an)) ca
def Ps (an:Nt->List N1->Bool):mK:=bA 113 (qh cJ bL (sv2 an)) ca
def Pq (an:Nt->List Sp->Bool):mK:=bA 114 (qh cJ bL (sv3 an)) ca
abbrev oQ (l:List Nt) (i:Int):Nt:=l.getD (0+i.toNat) bj.bR
def wR (σ:Sg) (n:Nat) (l:List Nt):Bool:=decide (n=iL.len (F6 σ) (AV.notes l) /\ (n+1) * (SI.bytes U2+1)<=qU)
def HN (aO:List W) (kq:Nat) (q:Nat) (l:List Nt) (i:Int) (f s:List Nt) (lf ls:Nat):St AV :=
 {E:=only Hc [(1,.wJ 112 [.ptr 9 0]),(4,.v (.c (.vs 10 0 lf 7 false))),(5,.v (.c (.vs 11 0 ls 7 false))),(8,.v (.c (.vs 7 0 q 7 false))),(9,.v (.c (.it .i64 q))),(10,.v (.c (.it .i64 i)))] 28,
   H:=s9 bL [.bI (.notes l),.bI (.eU aO),.cells [.vs 8 0 kq 5 false] Ng,.bI (.notes f),.bI (.notes s)]}
theorem d1R (σ:Sg) (an:Nt->List W->Bool) (aO:List W) (kq q:Nat) (l:List Nt) (i:Int) (f s:List Nt) (lf ls:Nat):(xc (NV σ) (bs (lv (NV σ) (Pt an) 5)) (fun _=>none) 28 LD (HN aO kq q l i f s lf ls)).bind (eQ 10 28 Hc eV)=.ite (decide (i < (q:Int))) (.aJ (decide (0<=i /\ i < (q:Int))) (.aJ (decide (0+i.toNat < l.length)) (.aJ (decide (kq=aO.length /\ aO.length<=100000))
 (.ite (an (oQ l i) aO) (.aJ (wR σ ls s) (.aE (.normal,HN aO kq q l (IntKind.wrap .i64 (i+1)) f (s++[oQ l i]) lf (ls+1)))) (.aJ (wR σ lf f) (.aE (.normal,HN aO kq q l (IntKind.wrap .i64 (i+1)) (f++[oQ l i]) s (lf+1) ls)))))))
 (.aE (.exit 0,HN aO kq q l i f s lf ls)):=by kernel_rfl
def HM (aO:List N1) (kq:Nat) (q:Nat) (l:List Nt) (i:Int) (f s:List Nt) (lf ls:Nat):St AV :=
 {E:=only Hc [(1,.wJ 113 [.ptr 9 0]),(4,.v (.c (.vs 10 0 lf 7 false))),(5,.v (.c (.vs 11 0 ls 7 false))),(8,.v (.c (.vs 7 0 q 7 false))),(9,.v (.c (.it .i64 q))),(10,.v (.c (.it .i64 i)))] 28,
   H:=s9 bL [.bI (.notes l),.bI (.jS aO),.cells [.vs 8 0 kq 1 false] Ni,.bI (.notes f),.bI (.notes s)]}
theorem d2R (σ:Sg) (an:Nt->List N1->Bool) (aO:List N1) (kq q:Nat) (l:List Nt) (i:Int) (f s:List Nt) (lf ls:Nat):(xc (NV σ) (bs (lv (NV σ) (Ps an) 5)) (fun _=>none) 28 LD (HM aO kq q l i f s lf ls)).bind (eQ 10 28 Hc eV)=.ite (decide (i < (q:Int))) (.aJ (decide (0<=i /\ i < (q:Int))) (.aJ (decide (0+i.toNat < l.length)) (.aJ (decide (kq=aO.length /\ aO.length<=100000))
 (.ite (an (oQ l i) aO) (.aJ (wR σ ls s) (.aE (.normal,HM aO kq q l (IntKind.wrap .i64 (i+1)) f (s++[oQ l i]) lf (ls+1)))) (.aJ (wR σ lf f) (.aE (.normal,HM aO kq q l (IntKind.wrap .i64 (i+1)) (f++[oQ l i]) s (lf+1) ls)))))))
 (.aE (.exit 0,HM aO kq q l i f s lf ls)):=by kernel_rfl
def HL (aO:List Sp) (kq:Nat) (q:Nat) (l:List Nt) (i:Int) (f s:List Nt) (lf ls:Nat):St AV :=
 {E:=only Hc [(1,.wJ 114 [.ptr 9 0]),(4,.v (.c (.vs 10 0 lf 7 false))),(5,.v (.c (.vs 11 0 ls 7 false))),(8,.v (.c (.vs 7 0 q 7 false))),(9,.v (.c (.it .i64 q))),(10,.v (.c (.it .i64 i)))] 28,
   H:=s9 bL [.bI (.notes l),.bI (.eC aO),.cells [.vs 8 0 kq 3 false] Nh,.bI (.notes f),.bI (.notes s)]}
theorem d3R (σ:Sg) (an:Nt->List Sp->Bool) (aO:List Sp) (kq q:Nat) (l:List Nt) (i:Int) (f s:List Nt) (lf ls:Nat):(xc (NV σ) (bs (lv (NV σ) (Pq an) 5)) (fun _=>none) 28 LD (HL aO kq q l i f s lf ls)).bind (eQ 10 28 Hc eV)=.ite (decide (i < (q:Int))) (.aJ (decide (0<=i /\ i < (q:Int))) (.aJ (decide (0+i.toNat < l.length)) (.aJ (decide (kq=aO.length /\ aO.length<=100000))
 (.ite (an (oQ l i) aO) (.aJ (wR σ ls s) (.aE (.normal,HL aO kq q l (IntKind.wrap .i64 (i+1)) f (s++[oQ l i]) lf (ls+1)))) (.aJ (wR σ lf f) (.aE (.normal,HL aO kq q l (IntKind.wrap .i64 (i+1)) (f++[oQ l i]) s (lf+1) ls)))))))
 (.aE (.exit 0,HL aO kq q l i f s lf ls)):=by kernel_rfl
end
section
open Go Go.Sx Go.Proofs
variable {σ:Sg} {lp:Lp}
theorem ib {nt:Nat} {N:dV AV} {s:St AV} {ks:List Nat} {E':Ev} {l:List AV} (hl:∀a∈l,∃es ty,N.F.fW a=some (es,ty,[])) (hG:N.G<=s.H.length)
 (hE:∀k∈ks,Sx.aF E' k=Sx.aF s.E k \/ (Sx.aF s.E k≠.lE /\ tm (Sx.aF E' k) /\ ∀ρ,(Sx.aF E' k).aq ρ=(Sx.aF s.E k).aq ρ) \/ (Sx.aF s.E k=.v (.c .dq) /\ ∃j es,j < l.length /\ Sx.aF E' k=.v (.c (.vs (s.H.length+j) 0 0 es false)))):rX N nt s {E:=only ks E' nt,H:=s.H++eN l}:=by
 refine OI (l:=l) rfl hl hG (fun k hk=>?_) fun k hk=>by simp only [iF,if_neg (show ¬k < nt by omega)]
 simp only [iF,if_pos hk]
 cases hh:nD ks k with
 | false=>exact .inl rfl
 | true=>exact .inr (hE k ((gw _ _).1 hh))
structure MD where
 k:Nat
 f:List Nt
 s:List Nt
def XK (p:Nt->Bool) (m:MD):List Nt->Ex×MD
 | []=>(.exit 0,m)
 | a::_=>match p a with | true=>(.normal,⟨m.k+1,m.f,m.s++[a]⟩) | false=>(.normal,⟨m.k+1,m.f++[a],m.s⟩)
def tY (l:List Nt) (p:Nt->Bool) (m:MD):T (Ex×MD):=.aJ (decide (m.k<=l.length /\ m.f.length<=m.k /\ m.s.length<=m.k)) (.aE (XK p m (l.drop m.k)))
def gO (p:Nt->Bool) (l:List Nt):List Nt:=l.filter fun n=>!(p n)
def ij (p:Nt->Bool) (l:List Nt):List Nt:=l.filter p
theorem Qh {l:List Nt} {p:Nt->Bool}:∀(r:List Nt) (k:Nat) (f s:List Nt),l.drop k=r->k+r.length=l.length->f.length<=k->s.length<=k->eJ (tY l p) (r.length+1) ⟨k,f,s⟩=some (.exit 0,⟨l.length,f++gO p r,s++ij p r⟩):=by
 intro r
 induction r with
 | nil =>
   intro k f s hr hk hf hs
   rw [adY,eJ,tY,nv (aaS ⟨by simp only [adY] at hk;show k<=_;omega,hf,hs⟩)]
   simp only [T.val,hr,XK,gO,ij,List.filter_nil,aeJ]
   simp only [adY,Nat.add_zero] at hk
   rw [hk]
 | cons a r ih =>
   intro k f s hr hk hf hs
   have qV:l.drop (k+1)=r:=by
    rw [show l.drop (k+1)=(l.drop k).drop 1 by rw [List.drop_drop],hr];rfl
   rw [abn] at hk
   rw [abn,eJ,tY,nv (aaS ⟨by show k<=_;omega,hf,hs⟩)]
   simp only [T.val,hr,XK]
   cases ha:p a with
   | true =>
     simp only
     rw [ih (k+1) f (s++[a]) qV (by omega) (by omega) (by rw [abl];simp only [abn,adY];omega)]
     simp only [gO,ij,aeB,ha,Bool.not_true,acC,acS]
     rfl
   | false =>
     simp only
     rw [ih (k+1) (f++[a]) s qV (by omega) (by rw [abl];simp only [abn,adY];omega) (by omega)]
     simp only [gO,ij,aeB,ha,Bool.not_false,acC,acS]
     rfl
theorem n7 {n:Nat} {l:List Nt} (h:n=l.length) (hn:l.length<=100000):wR σ n l=true:=by
 unfold wR
 subst h
 exact aaS ⟨rfl,abL (adN _ (afc hn)) (by decide)⟩
def JJ (aO:List W) (l:List Nt) (m:MD):St AV:=HN aO aO.length l.length l m.k m.f m.s m.f.length m.s.length
theorem Nz (σ:Sg) (aO:List W) (l:List Nt) (hk:aO.length<=100000) (hl:l.length<=100000) (m:MD) (r:Ex×MD) (h:(tY l (fun n=>aO.any (eE n)) m).val=some r) :
 ((xc (NV σ) (bs (lv (NV σ) (Pt (fun x l=>l.any (eE x))) 5)) (fun _=>none) 28 LD (JJ aO l m)).bind (eQ 10 28 Hc eV)).val=some (r.1,JJ aO l r.2):=by
 replace h:=aD h
 obtain⟨hb,h⟩:=h
 obtain⟨h1,h2,h3⟩:=aaV hb
 cases h
 obtain⟨k,f,s⟩:=m
 simp only at h1 h2 h3
 have e1:0+(k:Int).toNat=k:=by omega
 have hw:IntKind.wrap .i64 ((k:Int)+1)=((k+1:Nat):Int):=lR (by omega)
 dsimp only [JJ]
 rw [d1R]
 by_cases du:k < l.length
 ·rw [tG (aaS (by show (k:Int) < _;omega)),nv (aaS (by omega)),nv (aaS (by omega)),nv (aaS ⟨rfl,hk⟩),hw,gi bj.bR du]
  dsimp only [oQ]
  rw [e1]
  cases hp:aO.any (eE (l.getD k bj.bR)) with
  | true=>rw [tG rfl,nv (n7 rfl (by omega))];simp only [XK,hp,T.val,abl,abn,adY]
  | false=>rw [wG rfl,nv (n7 rfl (by omega))];simp only [XK,hp,T.val,abl,abn,adY]
 ·rw [wG (aaZ (by show ¬(k:Int) < _;omega)),ad8 (by omega)]
  rfl
def gD1 (fr st:List W->List Nt->List Nt) (s:St AV):T (Ex×St AV):=match mZ s.H 0 bL with
 | some [some (.bI (.notes l)),some (.bI (.eU aO)),some (.cells [.vs 8 0 kq 5 false] ty)] =>
   match Sx.aF s.E 1,Sx.aF s.E 4,Sx.aF s.E 5,Sx.aF s.E 8,Sx.aF s.E 9,Sx.aF s.E 10,Nat.beq ty Ng with
   | .wJ XX [.ptr 9 0],.v (.c .dq),.v (.c .dq),.v (.c (.vs 7 0 q1 7 false)),.v (.c (.it .i64 q2)),.v (.c (.il .i64 0)),true=>match Nat.beq XX 112 with
     | true=>.aJ (decide (q1=l.length /\ q2=(q1:Int) /\ kq=aO.length /\ aO.length<=100000 /\ l.length<=100000)) (.aE (.exit 0,HN aO aO.length l.length l l.length (fr aO l) (st aO l) (fr aO l).length (st aO l).length))
     | false=>.fail "divide"
   | _,_,_,_,_,_,_=>.fail "divide"
 | _=>.fail "divide"
theorem ahz {N':dV AV} (hF:N'.F=(NV σ).F) (hG:N'.G=(NV σ).G):fY Tryz.prog N' 28 LD (gD1 (fun aO l=>gO (fun n=>aO.any (eE n)) l) (fun aO l=>ij (fun n=>aO.any (eE n)) l)):=by
 have cH:gF Tryz.prog (NV σ) (bs (lv (NV σ) (Pt (fun x l=>l.any (eE x))) 5)):=dj (my rH tA J7 (aK Ux bn) 5)
 refine eO (N:=NV σ) hF hG rH cH (lp:=fun _=>none) (fun _ _ _ g hg=>by cases hg) fun s s' ex cG=>?_
 obtain⟨E1,H1⟩:=s
 unfold gD1 at cG
 split at cG
 ·rename_i l aO kq ty hs
  have hs:=jj hs
  simp only at hs
  subst hs
  split at cG
  ·rename_i XX q1 q2 e1 e4 e5 e8 e9 zo qQ
   have qQ:=(aC _ _).1 qQ
   subst qQ
   simp only at e1 e4 e5 e8 e9 zo
   split at cG
   ·rename_i xU
    have xU:=(aC _ _).1 xU
    subst xU
    replace cG:=aD cG
    obtain⟨hb,cG⟩:=cG
    obtain⟨rfl,rfl,rfl,hk,hl⟩:=aaV hb
    cases cG
    refine⟨{M:=MD,sH:=JJ aO l,step:=tY l (fun n=>aO.any (eE n)),ks:=Hc,pk:=eV,zH:=(fun d a h=>by cases h),L:=10,len:=rfl,FL:=(by show 7<=10;decide),run:=Nz σ aO l hk hl,m:=⟨0,[],[]⟩,k:=_,m':=_,Ka:=?_,it:=Qh l 0 [] [] rfl (abJ _) (adr _) (adr _),fin:=rfl}⟩
    refine ib (N:=NV σ) (s:=⟨E1,_⟩) (l:=[.notes [],.notes []]) (fun a ha=>⟨7,bj.ty,by simp only [abk,abo,or_false,or_self] at ha;rw [ha];rfl⟩) (by show 7<=10;decide) fun k hk=>?_
    simp only [Hc,abk,abo,or_false] at hk
    rcases hk with rfl | rfl | rfl | rfl | rfl | rfl
    ·exact .inl e1.symm
    ·exact .inr (.inr ⟨e4,0,7,by decide,rfl⟩)
    ·exact .inr (.inr ⟨e5,1,7,by decide,rfl⟩)
    ·exact .inl e8.symm
    ·exact .inl e9.symm
    ·exact .inr (.inl ⟨by show Sx.aF E1 10≠_;rw [zo];rintro ⟨⟩,uo _,fun ρ=>by show _=(Sx.aF E1 10).aq ρ;rw [zo];rfl⟩)
   ·cases cG
  ·cases cG
 ·cases cG
def JI (aO:List N1) (l:List Nt) (m:MD):St AV:=HM aO aO.length l.length l m.k m.f m.s m.f.length m.s.length
theorem Ny (σ:Sg) (aO:List N1) (l:List Nt) (hk:aO.length<=100000) (hl:l.length<=100000) (m:MD) (r:Ex×MD) (h:(tY l (fun n=>aO.any (iV n)) m).val=some r) :
 ((xc (NV σ) (bs (lv (NV σ) (Ps (fun x l=>l.any (iV x))) 5)) (fun _=>none) 28 LD (JI aO l m)).bind (eQ 10 28 Hc eV)).val=some (r.1,JI aO l r.2):=by
 replace h:=aD h
 obtain⟨hb,h⟩:=h
 obtain⟨h1,h2,h3⟩:=aaV hb
 cases h
 obtain⟨k,f,s⟩:=m
 simp only at h1 h2 h3
 have e1:0+(k:Int).toNat=k:=by omega
 have hw:IntKind.wrap .i64 ((k:Int)+1)=((k+1:Nat):Int):=lR (by omega)
 dsimp only [JI]
 rw [d2R]
 by_cases du:k < l.length
 ·rw [tG (aaS (by show (k:Int) < _;omega)),nv (aaS (by omega)),nv (aaS (by omega)),nv (aaS ⟨rfl,hk⟩),hw,gi bj.bR du]
  dsimp only [oQ]
  rw [e1]
  cases hp:aO.any (iV (l.getD k bj.bR)) with
  | true=>rw [tG rfl,nv (n7 rfl (by omega))];simp only [XK,hp,T.val,abl,abn,adY]
  | false=>rw [wG rfl,nv (n7 rfl (by omega))];simp only [XK,hp,T.val,abl,abn,adY]
 ·rw [wG (aaZ (by show ¬(k:Int) < _;omega)),ad8 (by omega)]
  rfl
def gD2 (fr st:List N1->List Nt->List Nt) (s:St AV):T (Ex×St AV):=match mZ s.H 0 bL with
 | some [some (.bI (.notes l)),some (.bI (.jS aO)),some (.cells [.vs 8 0 kq 1 false] ty)] =>
   match Sx.aF s.E 1,Sx.aF s.E 4,Sx.aF s.E 5,Sx.aF s.E 8,Sx.aF s.E 9,Sx.aF s.E 10,Nat.beq ty Ni with
   | .wJ XX [.ptr 9 0],.v (.c .dq),.v (.c .dq),.v (.c (.vs 7 0 q1 7 false)),.v (.c (.it .i64 q2)),.v (.c (.il .i64 0)),true=>match Nat.beq XX 113 with
     | true=>.aJ (decide (q1=l.length /\ q2=(q1:Int) /\ kq=aO.length /\ aO.length<=100000 /\ l.length<=100000)) (.aE (.exit 0,HM aO aO.length l.length l l.length (fr aO l) (st aO l) (fr aO l).length (st aO l).length))
     | false=>.fail "divide"
   | _,_,_,_,_,_,_=>.fail "divide"
 | _=>.fail "divide"
theorem ahy {N':dV AV} (hF:N'.F=(NV σ).F) (hG:N'.G=(NV σ).G):fY Tryz.prog N' 28 LD (gD2 (fun aO l=>gO (fun n=>aO.any (iV n)) l) (fun aO l=>ij (fun n=>aO.any (iV n)) l)):=by
 have cH:gF Tryz.prog (NV σ) (bs (lv (NV σ) (Ps (fun x l=>l.any (iV x))) 5)):=dj (my rH tA J7 (aK Uw bn) 5)
 refine eO (N:=NV σ) hF hG rH cH (lp:=fun _=>none) (fun _ _ _ g hg=>by cases hg) fun s s' ex cG=>?_
 obtain⟨E1,H1⟩:=s
 unfold gD2 at cG
 split at cG
 ·rename_i l aO kq ty hs
  have hs:=jj hs
  simp only at hs
  subst hs
  split at cG
  ·rename_i XX q1 q2 e1 e4 e5 e8 e9 zo qQ
   have qQ:=(aC _ _).1 qQ
   subst qQ
   simp only at e1 e4 e5 e8 e9 zo
   split at cG
   ·rename_i xU
    have xU:=(aC _ _).1 xU
    subst xU
    replace cG:=aD cG
    obtain⟨hb,cG⟩:=cG
    obtain⟨rfl,rfl,rfl,hk,hl⟩:=aaV hb
    cases cG
    refine⟨{M:=MD,sH:=JI aO l,step:=tY l (fun n=>aO.any (iV n)),ks:=Hc,pk:=eV,zH:=(fun d a h=>by cases h),L:=10,len:=rfl,FL:=(by show 7<=10;decide),run:=Ny σ aO l hk hl,m:=⟨0,[],[]⟩,k:=_,m':=_,Ka:=?_,it:=Qh l 0 [] [] rfl (abJ _) (adr _) (adr _),fin:=rfl}⟩
    refine ib (N:=NV σ) (s:=⟨E1,_⟩) (l:=[.notes [],.notes []]) (fun a ha=>⟨7,bj.ty,by simp only [abk,abo,or_false,or_self] at ha;rw [ha];rfl⟩) (by show 7<=10;decide) fun k hk=>?_
    simp only [Hc,abk,abo,or_false] at hk
    rcases hk with rfl | rfl | rfl | rfl | rfl | rfl
    ·exact .inl e1.symm
    ·exact .inr (.inr ⟨e4,0,7,by decide,rfl⟩)
    ·exact .inr (.inr ⟨e5,1,7,by decide,rfl⟩)
    ·exact .inl e8.symm
    ·exact .inl e9.symm
    ·exact .inr (.inl ⟨by show Sx.aF E1 10≠_;rw [zo];rintro ⟨⟩,uo _,fun ρ=>by show _=(Sx.aF E1 10).aq ρ;rw [zo];rfl⟩)
   ·cases cG
  ·cases cG
 ·cases cG
def JH (aO:List Sp) (l:List Nt) (m:MD):St AV:=HL aO aO.length l.length l m.k m.f m.s m.f.length m.s.length
theorem Nx (σ:Sg) (aO:List Sp) (l:List Nt) (hk:aO.length<=100000) (hl:l.length<=100000) (m:MD) (r:Ex×MD) (h:(tY l (fun n=>aO.any (eD n)) m).val=some r) :
 ((xc (NV σ) (bs (lv (NV σ) (Pq (fun x l=>l.any (eD x))) 5)) (fun _=>none) 28 LD (JH aO l m)).bind (eQ 10 28 Hc eV)).val=some (r.1,JH aO l r.2):=by
 replace h:=aD h
 obtain⟨hb,h⟩:=h
 obtain⟨h1,h2,h3⟩:=aaV hb
 cases h
 obtain⟨k,f,s⟩:=m
 simp only at h1 h2 h3
 have e1:0+(k:Int).toNat=k:=by omega
 have hw:IntKind.wrap .i64 ((k:Int)+1)=((k+1:Nat):Int):=lR (by omega)
 dsimp only [JH]
 rw [d3R]
 by_cases du:k < l.length
 ·rw [tG (aaS (by show (k:Int) < _;omega)),nv (aaS (by omega)),nv (aaS (by omega)),nv (aaS ⟨rfl,hk⟩),hw,gi bj.bR du]
  dsimp only [oQ]
  rw [e1]
  cases hp:aO.any (eD (l.getD k bj.bR)) with
  | true=>rw [tG rfl,nv (n7 rfl (by omega))];simp only [XK,hp,T.val,abl,abn,adY]
  | false=>rw [wG rfl,nv (n7 rfl (by omega))];simp only [XK,hp,T.val,abl,abn,adY]
 ·rw [wG (aaZ (by show ¬(k:Int) < _;omega)),ad8 (by omega)]
  rfl
def gD3 (fr st:List Sp->List Nt->List Nt) (s:St AV):T (Ex×St AV):=match mZ s.H 0 bL with
 | some [some (.bI (.notes l)),some (.bI (.eC aO)),some (.cells [.vs 8 0 kq 3 false] ty)] =>
   match Sx.aF s.E 1,Sx.aF s.E 4,Sx.aF s.E 5,Sx.aF s.E 8,Sx.aF s.E 9,Sx.aF s.E 10,Nat.beq ty Nh with
   | .wJ XX [.ptr 9 0],.v (.c .dq),.v (.c .dq),.v (.c (.vs 7 0 q1 7 false)),.v (.c (.it .i64 q2)),.v (.c (.il .i64 0)),true=>match Nat.beq XX 114 with
     | true=>.aJ (decide (q1=l.length /\ q2=(q1:Int) /\ kq=aO.length /\ aO.length<=100000 /\ l.length<=100000)) (.aE (.exit 0,HL aO aO.length l.length l l.length (fr aO l) (st aO l) (fr aO l).length (st aO l).length))
     | false=>.fail "divide"
   | _,_,_,_,_,_,_=>.fail "divide"
 | _=>.fail "divide"
theorem ahx {N':dV AV} (hF:N'.F=(NV σ).F) (hG:N'.G=(NV σ).G):fY Tryz.prog N' 28 LD (gD3 (fun aO l=>gO (fun n=>aO.any (eD n)) l) (fun aO l=>ij (fun n=>aO.any (eD n)) l)):=by
 have cH:gF Tryz.prog (NV σ) (bs (lv (NV σ) (Pq (fun x l=>l.any (eD x))) 5)):=dj (my rH tA J7 (aK Uv bn) 5)
 refine eO (N:=NV σ) hF hG rH cH (lp:=fun _=>none) (fun _ _ _ g hg=>by cases hg) fun s s' ex cG=>?_
 obtain⟨E1,H1⟩:=s
 unfold gD3 at cG
 split at cG
 ·rename_i l aO kq ty hs
  have hs:=jj hs
  simp only at hs
  subst hs
  split at cG
  ·rename_i XX q1 q2 e1 e4 e5 e8 e9 zo qQ
   have qQ:=(aC _ _).1 qQ
   subst qQ
   simp only at e1 e4 e5 e8 e9 zo
   split at cG
   ·rename_i xU
    have xU:=(aC _ _).1 xU
    subst xU
    replace cG:=aD cG
    obtain⟨hb,cG⟩:=cG
    obtain⟨rfl,rfl,rfl,hk,hl⟩:=aaV hb
    cases cG
    refine⟨{M:=MD,sH:=JH aO l,step:=tY l (fun n=>aO.any (eD n)),ks:=Hc,pk:=eV,zH:=(fun d a h=>by cases h),L:=10,len:=rfl,FL:=(by show 7<=10;decide),run:=Nx σ aO l hk hl,m:=⟨0,[],[]⟩,k:=_,m':=_,Ka:=?_,it:=Qh l 0 [] [] rfl (abJ _) (adr _) (adr _),fin:=rfl}⟩
    refine ib (N:=NV σ) (s:=⟨E1,_⟩) (l:=[.notes [],.notes []]) (fun a ha=>⟨7,bj.ty,by simp only [abk,abo,or_false,or_self] at ha;rw [ha];rfl⟩) (by show 7<=10;decide) fun k hk=>?_
    simp only [Hc,abk,abo,or_false] at hk
    rcases hk with rfl | rfl | rfl | rfl | rfl | rfl
    ·exact .inl e1.symm
    ·exact .inr (.inr ⟨e4,0,7,by decide,rfl⟩)
    ·exact .inr (.inr ⟨e5,1,7,by decide,rfl⟩)
    ·exact .inl e8.symm
    ·exact .inl e9.symm
    ·exact .inr (.inl ⟨by show Sx.aF E1 10≠_;rw [zo];rintro ⟨⟩,uo _,fun ρ=>by show _=(Sx.aF E1 10).aq ρ;rw [zo];rfl⟩)
   ·cases cG
  ·cases cG
 ·cases cG
end
section
open Go Go.Sx Go.Proofs
variable {σ:Sg} {lp:Lp}
def agp (fr st:List W->List Nt->List Nt):Lp:=lV 111 2 (gD1 fr st) jr
theorem alo:fH Tryz.prog (hP (agp (fun aO l=>gO (fun n=>aO.any (eE n)) l) (fun aO l=>ij (fun n=>aO.any (eE n)) l)) σ) :=
 lM ou (fn:=Tryz.f111) (by kernel_rfl) (c:=eM Tryz.f111) (by kernel_rfl) (nt:=28) (by kernel_rfl) (b:=LD) (cE (by kernel_rfl)) (ahz rfl rfl)
def dvV (lf ls:Nat):SV:=.ji [.c (.vs 9 0 lf 7 false),.c (.vs 10 0 ls 7 false)]
theorem ar5 (σ:Sg) (an:Nt->List W->Bool) (fr st:List W->List Nt->List Nt) (l:List Nt) (aO:List W) (q kq:Nat):wC (agp fr st) σ (Pt an) 104 bL [.v (.c (.vs 7 0 q 7 false)),.v (.c (.vs 8 0 kq 5 false))] [.bI (.notes l),.bI (.eU aO)]=.aJ (decide (q=l.length /\ (q:Int)=(q:Int) /\ kq=aO.length /\ aO.length<=100000 /\ l.length<=100000)) (.aE (Di (dvV (fr aO l).length (st aO l).length,s9 bL [.bI (.notes l),.bI (.eU aO),.bI (.notes (fr aO l)),.bI (.notes (st aO l))]))):=by kernel_rfl
def dv1 (fr st:List W->List Nt->List Nt) (args:List SV) (ch:List (aG AV)):T (SV×List (aG AV)×List (aG AV)):=match args,ch with
 | [.v (.c (.vs 7 0 q 7 false)),.v (.c (.vs 8 0 kq 5 false))],[.bI (.notes l),.bI (.eU aO)]=>.aJ (decide (q=l.length /\ kq=aO.length /\ aO.length<=100000 /\ l.length<=100000))
     (.aE (dvV (fr aO l).length (st aO l).length,[.bI (.notes l),.bI (.eU aO)],[.bI (.notes (fr aO l)),.bI (.notes (st aO l))]))
 | _,_=>.fail "divide"
theorem ahK:cD Tryz.prog (NV σ) 104 (qh cJ bL (dv1 (fun aO l=>gO (fun n=>aO.any (eE n)) l) (fun aO l=>ij (fun n=>aO.any (eE n)) l))):=by
 refine kT (N:=hP (agp (fun aO l=>gO (fun n=>aO.any (eE n)) l) (fun aO l=>ij (fun n=>aO.any (eE n)) l)) σ) (N':=NV σ) rfl rfl (nN dE rfl fun args ch v l' nw h hlen ha hC=>?_)
 unfold dv1 at h
 split at h
 ·rename_i q kq l aO
  replace h:=aD h
  obtain⟨hb,h⟩:=h
  obtain⟨rfl,rfl,hk,hl⟩:=aaV hb
  cases h
  have hr:=congrArg T.val (ar5 σ (fun x l=>l.any (eE x)) (fun aO l=>gO (fun n=>aO.any (eE n)) l) (fun aO l=>ij (fun n=>aO.any (eE n)) l) l aO l.length aO.length)
  rw [nv (aaS ⟨rfl,rfl,rfl,hk,hl⟩)] at hr
  exact jK alo (B3 (aK Ux bn)) rfl hr (by rintro ⟨⟩)
 ·cases h
def ago (fr st:List N1->List Nt->List Nt):Lp:=lV 111 2 (gD2 fr st) jr
theorem aln:fH Tryz.prog (hP (ago (fun aO l=>gO (fun n=>aO.any (iV n)) l) (fun aO l=>ij (fun n=>aO.any (iV n)) l)) σ) :=
 lM ou (fn:=Tryz.f111) (by kernel_rfl) (c:=eM Tryz.f111) (by kernel_rfl) (nt:=28) (by kernel_rfl) (b:=LD) (cE (by kernel_rfl)) (ahy rfl rfl)
theorem ar3 (σ:Sg) (an:Nt->List N1->Bool) (fr st:List N1->List Nt->List Nt) (l:List Nt) (aO:List N1) (q kq:Nat):wC (ago fr st) σ (Ps an) 105 bL [.v (.c (.vs 7 0 q 7 false)),.v (.c (.vs 8 0 kq 1 false))] [.bI (.notes l),.bI (.jS aO)]=.aJ (decide (q=l.length /\ (q:Int)=(q:Int) /\ kq=aO.length /\ aO.length<=100000 /\ l.length<=100000)) (.aE (Di (dvV (fr aO l).length (st aO l).length,s9 bL [.bI (.notes l),.bI (.jS aO),.bI (.notes (fr aO l)),.bI (.notes (st aO l))]))):=by kernel_rfl
def dv2 (fr st:List N1->List Nt->List Nt) (args:List SV) (ch:List (aG AV)):T (SV×List (aG AV)×List (aG AV)):=match args,ch with
 | [.v (.c (.vs 7 0 q 7 false)),.v (.c (.vs 8 0 kq 1 false))],[.bI (.notes l),.bI (.jS aO)]=>.aJ (decide (q=l.length /\ kq=aO.length /\ aO.length<=100000 /\ l.length<=100000))
     (.aE (dvV (fr aO l).length (st aO l).length,[.bI (.notes l),.bI (.jS aO)],[.bI (.notes (fr aO l)),.bI (.notes (st aO l))]))
 | _,_=>.fail "divide"
theorem ahJ:cD Tryz.prog (NV σ) 105 (qh cJ bL (dv2 (fun aO l=>gO (fun n=>aO.any (iV n)) l) (fun aO l=>ij (fun n=>aO.any (iV n)) l))):=by
 refine kT (N:=hP (ago (fun aO l=>gO (fun n=>aO.any (iV n)) l) (fun aO l=>ij (fun n=>aO.any (iV n)) l)) σ) (N':=NV σ) rfl rfl (nN dE rfl fun args ch v l' nw h hlen ha hC=>?_)
 unfold dv2 at h
 split at h
 ·rename_i q kq l aO
  replace h:=aD h
  obtain⟨hb,h⟩:=h
  obtain⟨rfl,rfl,hk,hl⟩:=aaV hb
  cases h
  have hr:=congrArg T.val (ar3 σ (fun x l=>l.any (iV x)) (fun aO l=>gO (fun n=>aO.any (iV n)) l) (fun aO l=>ij (fun n=>aO.any (iV n)) l) l aO l.length aO.length)
  rw [nv (aaS ⟨rfl,rfl,rfl,hk,hl⟩)] at hr
  exact jK aln (B3 (aK Uw bn)) rfl hr (by rintro ⟨⟩)
 ·cases h
def agn (fr st:List Sp->List Nt->List Nt):Lp:=lV 111 2 (gD3 fr st) jr
theorem alm:fH Tryz.prog (hP (agn (fun aO l=>gO (fun n=>aO.any (eD n)) l) (fun aO l=>ij (fun n=>aO.any (eD n)) l)) σ) :=
 lM ou (fn:=Tryz.f111) (by kernel_rfl) (c:=eM Tryz.f111) (by kernel_rfl) (nt:=28) (by kernel_rfl) (b:=LD) (cE (by kernel_rfl)) (ahx rfl rfl)
theorem ar1 (σ:Sg) (an:Nt->List Sp->Bool) (fr st:List Sp->List Nt->List Nt) (l:List Nt) (aO:List Sp) (q kq:Nat):wC (agn fr st) σ (Pq an) 106 bL [.v (.c (.vs 7 0 q 7 false)),.v (.c (.vs 8 0 kq 3 false))] [.bI (.notes l),.bI (.eC aO)]=.aJ (decide (q=l.length /\ (q:Int)=(q:Int) /\ kq=aO.length /\ aO.length<=100000 /\ l.length<=100000)) (.aE (Di (dvV (fr aO l).length (st aO l).length,s9 bL [.bI (.notes l),.bI (.eC aO),.bI (.notes (fr aO l)),.bI (.notes (st aO l))]))):=by kernel_rfl
def dv3 (fr st:List Sp->List Nt->List Nt) (args:List SV) (ch:List (aG AV)):T (SV×List (aG AV)×List (aG AV)):=match args,ch with
 | [.v (.c (.vs 7 0 q 7 false)),.v (.c (.vs 8 0 kq 3 false))],[.bI (.notes l),.bI (.eC aO)]=>.aJ (decide (q=l.length /\ kq=aO.length /\ aO.length<=100000 /\ l.length<=100000))
     (.aE (dvV (fr aO l).length (st aO l).length,[.bI (.notes l),.bI (.eC aO)],[.bI (.notes (fr aO l)),.bI (.notes (st aO l))]))
 | _,_=>.fail "divide"
theorem ahI:cD Tryz.prog (NV σ) 106 (qh cJ bL (dv3 (fun aO l=>gO (fun n=>aO.any (eD n)) l) (fun aO l=>ij (fun n=>aO.any (eD n)) l))):=by
 refine kT (N:=hP (agn (fun aO l=>gO (fun n=>aO.any (eD n)) l) (fun aO l=>ij (fun n=>aO.any (eD n)) l)) σ) (N':=NV σ) rfl rfl (nN dE rfl fun args ch v l' nw h hlen ha hC=>?_)
 unfold dv3 at h
 split at h
 ·rename_i q kq l aO
  replace h:=aD h
  obtain⟨hb,h⟩:=h
  obtain⟨rfl,rfl,hk,hl⟩:=aaV hb
  cases h
  have hr:=congrArg T.val (ar1 σ (fun x l=>l.any (eD x)) (fun aO l=>gO (fun n=>aO.any (eD n)) l) (fun aO l=>ij (fun n=>aO.any (eD n)) l) l aO l.length aO.length)
  rw [nv (aaS ⟨rfl,rfl,rfl,hk,hl⟩)] at hr
  exact jK alm (B3 (aK Uv bn)) rfl hr (by rintro ⟨⟩)
 ·cases h
