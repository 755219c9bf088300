import Derived.Test.YtadmfaohjnjajaaGreatDoorSxOi
set_option linter.unusedVariables false
set_option linter.unusedSimpArgs false
set_option maxHeartbeats 4000000
namespace Go.Proofs.YtadmfaohjnjajaaGreatDoor
section
open Go Go.Sx Go.Proofs
set_option maxRecDepth 100000
variable {σ:Sg} {lp:Lp}
abbrev D2:Nat:=90
abbrev D1:Nat:=204
abbrev D0:Nat:=117
abbrev y5:Nat:=151
structure MA where
 k:Nat
 b:Bool
def goA {α:Type} (p:α->Bool) (m:MA):List α->Ex×MA
 | []=>(.exit 0,m)
 | a::_=>match p a with | true=>(.ret,⟨m.k,true⟩) | false=>(.normal,⟨m.k+1,false⟩)
def l5 {α:Type} (l:List α) (p:α->Bool) (m:MA):T (Ex×MA):=.need (decide (m.k<=l.length /\ m.b=false)) (.leaf (goA p m (l.drop m.k)))
def eW {α:Type} (p:α->Bool):Nat->List α->Nat
 | k,[]=>k
 | k,a::r=>match p a with | true=>k | false=>eW p (k+1) r
def kO {α:Type} (p:α->Bool) (k:Nat) (l:List α):Ex×MA:=match l.any p with | true=>(.ret,⟨eW p k l,true⟩) | false=>(.exit 0,⟨k+l.length,false⟩)
theorem C8 {α:Type} {l:List α} {p:α->Bool}:∀(r:List α) (k:Nat),l.drop k=r->k<=l.length->dj (l5 l p) (r.length+1) ⟨k,false⟩=some (kO p k r):=by
 intro r
 induction r with
 | nil =>
   intro k hr hk
   rw [List.length_nil,dj,l5,nv (decide_eq_true ⟨hk,rfl⟩)]
   simp only [T.val,hr,goA]
   rfl
 | cons a r ih =>
   intro k hr hk
   have hlt:k < l.length:=by
    rcases Nat.lt_or_ge k l.length with h | h
    ·exact h
    ·rw [List.drop_eq_nil_of_le h] at hr;cases hr
   have hr2:l.drop (k+1)=r:=by
    rw [show l.drop (k+1)=(l.drop k).drop 1 by rw [List.drop_drop],hr];rfl
   rw [List.length_cons,dj,l5,nv (decide_eq_true ⟨hk,rfl⟩)]
   simp only [T.val,hr,goA]
   cases ha:p a with
   | true=>simp only [kO,List.any_cons,ha,Bool.true_or,eW]
   | false =>
     simp only [ih (k+1) hr2 (by omega),kO,List.any_cons,ha,Bool.false_or,eW,List.length_cons]
     rw [show k+1+r.length=k+(r.length+1) by omega]
theorem wo:bO Tryz.prog (NVl lp σ) bm:=fun f g h=>by cases h
def ks1:List Nat:=[2,3,6,7,8]
def ca (x:Nt) (w:W):Bool:=w.slot==x.slot
def eR (x:Nt) (e:N1):Bool:=eB (decide (e.val > 0)) (eB (decide (x.birth<=e.val)) (decide (e.val<=x.death)))
def b9 (x:Nt) (s:Sp):Bool:=eB s.is (eB (decide (s.low<=x.death)) (decide (s.high>=x.birth)))
theorem dx {α:Type} (d:α):∀{l:List α} {k:Nat},k < l.length->l.drop k=l.getD k d::l.drop (k+1)
 | [],k,h=>by cases h
 | a::r,0,h=>rfl
 | a::r,k+1,h=>by
   have:=dx d (l:=r) (k:=k) (Nat.lt_of_succ_lt_succ h)
   exact this
theorem O4 (b:Bool):Plain (.v (.c (.bt b))):=by intro x hx;simp [V1.cells] at hx;subst hx;rfl
theorem pL (n:Int):Plain (.v (.c (.it .i64 n))):=by intro x hx;simp [V1.cells] at hx;subst hx;rfl
noncomputable def L1:Code:=fv 2 (bx (cB Tryz.f112))
def Ns (q:Nat) (l:List W):List (Chunk AV):=[.cells [.vs 8 0 q 5 false] D0,.abs (.words l)]
def E6 (x:Nt) (q:Nat) (l:List W) (i:Int) (b:Bool):St AV :=
 {E:=only ks1 [(2,.v (.c (.ptr 9 0))),(3,.v (.c (.bl b))),(6,.v (.c (.vs 8 0 q 5 false))),(7,.v (.c (.it .i64 q))),(8,.v (.c (.it .i64 i)))] 19,H:=hpC noM [.cells [.vs 8 0 q 5 false] D0,.abs (.words l),.cells (Nt.enc x) y5]}
theorem s1R (σ:Sg) (x:Nt) (q:Nat) (l:List W) (i:Int):(xc (NV σ) (aN (lv (NV σ) bm 5)) (fun _=>none) 19 L1 (E6 x q l i false)).bind (cM 10 19 ks1 cP)=.ite (decide (i < (q:Int))) (.need (decide (0<=i /\ i < (q:Int))) (.need (decide (0+i.toNat < l.length)) (.ite (ca x (l.getD (0+i.toNat) kwords.dflt)) (.leaf (.ret,E6 x q l i true)) (.leaf (.normal,E6 x q l (IntKind.wrap .i64 (i+1)) false))))) (.leaf (.exit 0,E6 x q l i false)):=by kernel_rfl
def z6 (x:Nt) (l:List W) (m:MA):St AV:=E6 x l.length l m.k m.b
theorem HN (σ:Sg) (x:Nt) (l:List W) (hl:l.length<=100000) (m:MA) (r:Ex×MA) (h:(l5 l (ca x) m).val=some r) :
 ((xc (NV σ) (aN (lv (NV σ) bm 5)) (fun _=>none) 19 L1 (z6 x l m)).bind (cM 10 19 ks1 cP)).val=some (r.1,z6 x l r.2):=by
 replace h:=aj h
 obtain⟨hb,h⟩:=h
 obtain⟨h1,h2⟩:=of_decide_eq_true hb
 simp only [T.val,Option.some.injEq] at h
 subst h
 obtain⟨k,b⟩:=m
 simp only at h1 h2
 subst h2
 have e1:0+(k:Int).toNat=k:=by omega
 have hw:IntKind.wrap .i64 ((k:Int)+1)=((k+1:Nat):Int):=gM (by omega)
 dsimp only [z6]
 rw [s1R]
 by_cases hk:k < l.length
 ·rw [ivT (decide_eq_true (by show (k:Int) < _;omega)),nv (decide_eq_true (by omega)),e1,nv (decide_eq_true hk),hw]
  have ed:l.drop k=l.getD k kwords.dflt::l.drop (k+1):=by
   exact dx _ hk
  rw [ed]
  cases hp:ca x (l.getD k kwords.dflt) with
  | true=>simp only [goA,hp];rfl
  | false=>simp only [goA,hp];rfl
 ·rw [ivF (decide_eq_false (by show ¬(k:Int) < _;omega)),List.drop_eq_nil_of_le (by omega)]
  rfl
noncomputable def g1 (an:Nt->List W->Bool) (ix:Nt->List W->Nat) (s:St AV):T (Ex×St AV):=match iK s.H 0 noM with
 | some [some (.cells [.vs 8 0 q 5 false] ty),some (.abs (.words l)),some (.cells [.it .i64 a,.it .i64 b,.it .i64 c,.it .i64 d,.bt e,.it .i64 f,.it .i64 g] ty2)] =>
   match Sx.look s.E 2,Sx.look s.E 3,Sx.look s.E 6,Sx.look s.E 7,Sx.look s.E 8,Nat.beq ty D0,Nat.beq ty2 y5 with
   | .v (.c (.ptr 9 0)),.v (.c (.bl false)),.v (.c (.vs 8 0 q1 5 false)),.v (.c (.it .i64 q2)),.v (.c (.il .i64 0)),true,true =>
     .need (decide (q=l.length /\ q1=q /\ q2=(q:Int) /\ l.length<=100000)) (.ite (an ⟨a,b,c,d,e,f,g⟩ l) (.leaf (.ret,E6 ⟨a,b,c,d,e,f,g⟩ l.length l (ix ⟨a,b,c,d,e,f,g⟩ l) true)) (.leaf (.exit 0,E6 ⟨a,b,c,d,e,f,g⟩ l.length l l.length false)))
   | _,_,_,_,_,_,_=>.fail "kept"
 | _=>.fail "kept"
theorem WZ {N':Env AV} (hF:N'.F=(NV σ).F) (hG:N'.G=(NV σ).G):dG Tryz.prog N' 19 L1 (g1 (fun x l=>l.any (ca x)) (fun x l=>eW (ca x) 0 l)):=by
 have hcal:dM Tryz.prog (NV σ) (aN (lv (NV σ) bm 5)):=bK (iH okV oq hvV aJ 5)
 refine cJ (N:=NV σ) hF hG okV hcal (lp:=fun _=>none) (fun _ _ _ g hg=>by cases hg) fun s s' ex hgs=>?_
 obtain⟨E1,H1⟩:=s
 unfold g1 at hgs
 split at hgs
 ·rename_i q ty l a b c d e f g ty2 hs
  have hs:=fa hs
  simp only at hs
  subst hs
  split at hgs
  ·rename_i q1 q2 e2 e3 e6 e7 e8 ety ety2
   have ety:=(ai _ _).1 ety
   have ety2:=(ai _ _).1 ety2
   subst ety ety2
   simp only at e2 e3 e6 e7 e8
   replace hgs:=aj hgs
   obtain⟨hb,hgs⟩:=hgs
   obtain⟨rfl,rfl,rfl,hl⟩:=of_decide_eq_true hb
   have hgo:(ex,s')=((kO (ca ⟨a,b,c,d,e,f,g⟩) 0 l).1,z6 ⟨a,b,c,d,e,f,g⟩ l (kO (ca ⟨a,b,c,d,e,f,g⟩) 0 l).2):=by
    cases ha:l.any (ca ⟨a,b,c,d,e,f,g⟩) with
    | true =>
      rw [ivT ha] at hgs
      simp only [T.val,Option.some.injEq] at hgs
      rw [<- hgs];unfold kO;rw [ha];rfl
    | false =>
      rw [ivF ha] at hgs
      simp only [T.val,Option.some.injEq] at hgs
      rw [<- hgs];unfold kO;rw [ha]
      simp only [z6,Nat.zero_add]
   simp only [Prod.mk.injEq] at hgo
   obtain⟨rfl,rfl⟩:=hgo
   refine⟨{M:=MA,fam:=z6 ⟨a,b,c,d,e,f,g⟩ l,step:=l5 l (ca ⟨a,b,c,d,e,f,g⟩),ks:=ks1,pk:=cP,hpk:=(fun d a h=>by cases h),L:=10,len:=rfl,hGL:=(by show 7<=10;decide),run:=HN σ ⟨a,b,c,d,e,f,g⟩ l hl,m:=⟨0,false⟩,k:=_,m':=_,ent:=?_,it:=C8 l 0 rfl (Nat.zero_le _),fin:=rfl}⟩
   refine mz (N:=NV σ) (nt:=19) (E:=E1) (ks:=ks1) (E':=[(2,.v (.c (.ptr 9 0))),(3,.v (.c (.bl false))),(6,.v (.c (.vs 8 0 l.length 5 false))),(7,.v (.c (.it .i64 l.length))),(8,.v (.c (.it .i64 (0:Nat))))]) fun k hk=>?_
   simp only [ks1,List.mem_cons,List.not_mem_nil,or_false] at hk
   rcases hk with rfl | rfl | rfl | rfl | rfl
   ·exact .inl e2.symm
   ·exact .inl e3.symm
   ·exact .inl e6.symm
   ·exact .inl e7.symm
   ·exact .inr ⟨by rw [e8];rintro ⟨⟩,pL _,fun ρ=>by rw [e8];rfl⟩
  ·simp [T.val] at hgs
 ·simp [T.val] at hgs
noncomputable def lp1 (an:Nt->List W->Bool) (ix:Nt->List W->Nat):Lp:=gT 112 2 (g1 an ix) fJ
theorem X5:cV Tryz.prog (NVl (lp1 (fun x l=>l.any (ca x)) (fun x l=>eW (ca x) 0 l)) σ) :=
 gJ jM (fn:=Tryz.f112) (by kernel_rfl) (c:=cB Tryz.f112) (by kernel_rfl) (nt:=19) (by kernel_rfl) (b:=L1) (br (by kernel_rfl)) (WZ rfl rfl)
theorem c1R (σ:Sg) (an:Nt->List W->Bool) (ix:Nt->List W->Nat) (x:Nt) (q:Nat) (l:List W):pK (lp1 an ix) σ bm 112 noM [.v (.agg (Nt.enc x)),.v (.c (.ptr 7 0))] (Ns q l) =
 .need (decide (q=l.length /\ q=q /\ (q:Int)=(q:Int) /\ l.length<=100000)) (.ite (an x l) (.leaf (stV (.v (.c (.bl true)),hpC noM (Ns l.length l)))) (.leaf (stV (.v (.c (.bl false)),hpC noM (Ns l.length l))))):=by kernel_rfl
def sv1 (an:Nt->List W->Bool) (args:List SV) (ch:List (Chunk AV)):T (SV×List (Chunk AV)×List (Chunk AV)):=match args,ch with
 | [.v (.agg [.it .i64 a,.it .i64 b,.it .i64 c,.it .i64 d,.bt e,.it .i64 f,.it .i64 g]),.v (.c (.ptr 7 0))],[.cells [.vs 8 0 q 5 false] ty,.abs (.words l)]=>match Nat.beq ty D0 with
   | true=>.need (decide (q=l.length /\ l.length<=100000)) (.leaf (.v (.c (.bt (an ⟨a,b,c,d,e,f,g⟩ l))),Ns q l,[]))
   | false=>.fail "kept"
 | _,_=>.fail "kept"
theorem J3:FnOk Tryz.prog (NV σ) 112 (kW isS noM (sv1 fun x l=>l.any (ca x))):=by
 refine gm (N:=NVl (lp1 (fun x l=>l.any (ca x)) (fun x l=>eW (ca x) 0 l)) σ) (N':=NV σ) rfl rfl (jd bR rfl fun args ch v l' nw h hlen ha hC=>?_)
 unfold sv1 at h
 split at h
 ·rename_i a b c d e f g q ty l
  split at h
  ·rename_i ety
   have ety:=(ai _ _).1 ety
   subst ety
   replace h:=aj h
   obtain⟨hb,h⟩:=h
   obtain⟨rfl,hl⟩:=of_decide_eq_true hb
   simp only [T.val,Option.some.injEq,Prod.mk.injEq] at h
   obtain⟨rfl,rfl,rfl⟩:=h
   have hr:(pK (lp1 (fun x l=>l.any (ca x)) (fun x l=>eW (ca x) 0 l)) σ bm 112 noM [.v (.agg [.it .i64 a,.it .i64 b,.it .i64 c,.it .i64 d,.bt e,.it .i64 f,.it .i64 g]),.v (.c (.ptr 7 0))] [.cells [.vs 8 0 l.length 5 false] D0,.abs (.words l)]).val=some (stV (.v (.c (.bl (l.any (ca ⟨a,b,c,d,e,f,g⟩)))),hpC noM (Ns l.length l))):=by
    refine(congrArg T.val (c1R σ (fun x l=>l.any (ca x)) (fun x l=>eW (ca x) 0 l) ⟨a,b,c,d,e,f,g⟩ l.length l)).trans ?_
    rw [nv (decide_eq_true ⟨rfl,rfl,rfl,hl⟩)]
    cases hp:l.any (ca ⟨a,b,c,d,e,f,g⟩) with
    | true=>rfl
    | false=>rfl
   exact mZ (v:=.v (.c (.bl (l.any (ca ⟨a,b,c,d,e,f,g⟩))))) (fF X5 wo rfl hr (by rintro ⟨⟩)) ((O4 _).cl _) fun ρ=>rfl
  ·simp [T.val] at h
 ·simp [T.val] at h
noncomputable def L2:Code:=fv 2 (bx (cB Tryz.f113))
def Nr (q:Nat) (l:List N1):List (Chunk AV):=[.cells [.vs 8 0 q 1 false] D2,.abs (.ints l)]
def E5 (x:Nt) (q:Nat) (l:List N1) (i:Int) (b:Bool):St AV :=
 {E:=only ks1 [(2,.v (.c (.ptr 9 0))),(3,.v (.c (.bl b))),(6,.v (.c (.vs 8 0 q 1 false))),(7,.v (.c (.it .i64 q))),(8,.v (.c (.it .i64 i)))] 27,H:=hpC noM [.cells [.vs 8 0 q 1 false] D2,.abs (.ints l),.cells (Nt.enc x) y5]}
theorem s2R (σ:Sg) (x:Nt) (q:Nat) (l:List N1) (i:Int):(xc (NV σ) (aN (lv (NV σ) bm 5)) (fun _=>none) 27 L2 (E5 x q l i false)).bind (cM 10 27 ks1 cP)=.ite (decide (i < (q:Int))) (.need (match decide (0<=i /\ i < (q:Int)) with | true=>decide (0+i.toNat < l.length) | false=>false) (.ite (eR x (l.getD (0+i.toNat) kints.dflt)) (.leaf (.ret,E5 x q l i true)) (.leaf (.normal,E5 x q l (IntKind.wrap .i64 (i+1)) false)))) (.leaf (.exit 0,E5 x q l i false)):=by kernel_rfl
def z5 (x:Nt) (l:List N1) (m:MA):St AV:=E5 x l.length l m.k m.b
theorem HM (σ:Sg) (x:Nt) (l:List N1) (hl:l.length<=100000) (m:MA) (r:Ex×MA) (h:(l5 l (eR x) m).val=some r) :
 ((xc (NV σ) (aN (lv (NV σ) bm 5)) (fun _=>none) 27 L2 (z5 x l m)).bind (cM 10 27 ks1 cP)).val=some (r.1,z5 x l r.2):=by
 replace h:=aj h
 obtain⟨hb,h⟩:=h
 obtain⟨h1,h2⟩:=of_decide_eq_true hb
 simp only [T.val,Option.some.injEq] at h
 subst h
 obtain⟨k,b⟩:=m
 simp only at h1 h2
 subst h2
 have e1:0+(k:Int).toNat=k:=by omega
 have hw:IntKind.wrap .i64 ((k:Int)+1)=((k+1:Nat):Int):=gM (by omega)
 dsimp only [z5]
 rw [s2R]
 by_cases hk:k < l.length
 ·rw [ivT (decide_eq_true (by show (k:Int) < _;omega)),e1,nv (by rw [decide_eq_true (show 0<=(k:Int) /\ (k:Int) < (l.length:Int) by omega),decide_eq_true hk]),hw]
  have ed:l.drop k=l.getD k kints.dflt::l.drop (k+1):=by
   exact dx _ hk
  rw [ed]
  cases hp:eR x (l.getD k kints.dflt) with
  | true=>simp only [goA,hp];rfl
  | false=>simp only [goA,hp];rfl
 ·rw [ivF (decide_eq_false (by show ¬(k:Int) < _;omega)),List.drop_eq_nil_of_le (by omega)]
  rfl
noncomputable def g2 (an:Nt->List N1->Bool) (ix:Nt->List N1->Nat) (s:St AV):T (Ex×St AV):=match iK s.H 0 noM with
 | some [some (.cells [.vs 8 0 q 1 false] ty),some (.abs (.ints l)),some (.cells [.it .i64 a,.it .i64 b,.it .i64 c,.it .i64 d,.bt e,.it .i64 f,.it .i64 g] ty2)] =>
   match Sx.look s.E 2,Sx.look s.E 3,Sx.look s.E 6,Sx.look s.E 7,Sx.look s.E 8,Nat.beq ty D2,Nat.beq ty2 y5 with
   | .v (.c (.ptr 9 0)),.v (.c (.bl false)),.v (.c (.vs 8 0 q1 1 false)),.v (.c (.it .i64 q2)),.v (.c (.il .i64 0)),true,true =>
     .need (decide (q=l.length /\ q1=q /\ q2=(q:Int) /\ l.length<=100000)) (.ite (an ⟨a,b,c,d,e,f,g⟩ l) (.leaf (.ret,E5 ⟨a,b,c,d,e,f,g⟩ l.length l (ix ⟨a,b,c,d,e,f,g⟩ l) true)) (.leaf (.exit 0,E5 ⟨a,b,c,d,e,f,g⟩ l.length l l.length false)))
   | _,_,_,_,_,_,_=>.fail "kept"
 | _=>.fail "kept"
theorem WY {N':Env AV} (hF:N'.F=(NV σ).F) (hG:N'.G=(NV σ).G):dG Tryz.prog N' 27 L2 (g2 (fun x l=>l.any (eR x)) (fun x l=>eW (eR x) 0 l)):=by
 have hcal:dM Tryz.prog (NV σ) (aN (lv (NV σ) bm 5)):=bK (iH okV oq hvV aJ 5)
 refine cJ (N:=NV σ) hF hG okV hcal (lp:=fun _=>none) (fun _ _ _ g hg=>by cases hg) fun s s' ex hgs=>?_
 obtain⟨E1,H1⟩:=s
 unfold g2 at hgs
 split at hgs
 ·rename_i q ty l a b c d e f g ty2 hs
  have hs:=fa hs
  simp only at hs
  subst hs
  split at hgs
  ·rename_i q1 q2 e2 e3 e6 e7 e8 ety ety2
   have ety:=(ai _ _).1 ety
   have ety2:=(ai _ _).1 ety2
   subst ety ety2
   simp only at e2 e3 e6 e7 e8
   replace hgs:=aj hgs
   obtain⟨hb,hgs⟩:=hgs
   obtain⟨rfl,rfl,rfl,hl⟩:=of_decide_eq_true hb
   have hgo:(ex,s')=((kO (eR ⟨a,b,c,d,e,f,g⟩) 0 l).1,z5 ⟨a,b,c,d,e,f,g⟩ l (kO (eR ⟨a,b,c,d,e,f,g⟩) 0 l).2):=by
    cases ha:l.any (eR ⟨a,b,c,d,e,f,g⟩) with
    | true =>
      rw [ivT ha] at hgs
      simp only [T.val,Option.some.injEq] at hgs
      rw [<- hgs];unfold kO;rw [ha];rfl
    | false =>
      rw [ivF ha] at hgs
      simp only [T.val,Option.some.injEq] at hgs
      rw [<- hgs];unfold kO;rw [ha]
      simp only [z5,Nat.zero_add]
   simp only [Prod.mk.injEq] at hgo
   obtain⟨rfl,rfl⟩:=hgo
   refine⟨{M:=MA,fam:=z5 ⟨a,b,c,d,e,f,g⟩ l,step:=l5 l (eR ⟨a,b,c,d,e,f,g⟩),ks:=ks1,pk:=cP,hpk:=(fun d a h=>by cases h),L:=10,len:=rfl,hGL:=(by show 7<=10;decide),run:=HM σ ⟨a,b,c,d,e,f,g⟩ l hl,m:=⟨0,false⟩,k:=_,m':=_,ent:=?_,it:=C8 l 0 rfl (Nat.zero_le _),fin:=rfl}⟩
   refine mz (N:=NV σ) (nt:=27) (E:=E1) (ks:=ks1) (E':=[(2,.v (.c (.ptr 9 0))),(3,.v (.c (.bl false))),(6,.v (.c (.vs 8 0 l.length 1 false))),(7,.v (.c (.it .i64 l.length))),(8,.v (.c (.it .i64 (0:Nat))))]) fun k hk=>?_
   simp only [ks1,List.mem_cons,List.not_mem_nil,or_false] at hk
   rcases hk with rfl | rfl | rfl | rfl | rfl
   ·exact .inl e2.symm
   ·exact .inl e3.symm
   ·exact .inl e6.symm
   ·exact .inl e7.symm
   ·exact .inr ⟨by rw [e8];rintro ⟨⟩,pL _,fun ρ=>by rw [e8];rfl⟩
  ·simp [T.val] at hgs
 ·simp [T.val] at hgs
noncomputable def lp2 (an:Nt->List N1->Bool) (ix:Nt->List N1->Nat):Lp:=gT 113 2 (g2 an ix) fJ
theorem X4:cV Tryz.prog (NVl (lp2 (fun x l=>l.any (eR x)) (fun x l=>eW (eR x) 0 l)) σ) :=
 gJ jM (fn:=Tryz.f113) (by kernel_rfl) (c:=cB Tryz.f113) (by kernel_rfl) (nt:=27) (by kernel_rfl) (b:=L2) (br (by kernel_rfl)) (WY rfl rfl)
theorem c2R (σ:Sg) (an:Nt->List N1->Bool) (ix:Nt->List N1->Nat) (x:Nt) (q:Nat) (l:List N1):pK (lp2 an ix) σ bm 113 noM [.v (.agg (Nt.enc x)),.v (.c (.ptr 7 0))] (Nr q l) =
 .need (decide (q=l.length /\ q=q /\ (q:Int)=(q:Int) /\ l.length<=100000)) (.ite (an x l) (.leaf (stV (.v (.c (.bl true)),hpC noM (Nr l.length l)))) (.leaf (stV (.v (.c (.bl false)),hpC noM (Nr l.length l))))):=by kernel_rfl
def sv2 (an:Nt->List N1->Bool) (args:List SV) (ch:List (Chunk AV)):T (SV×List (Chunk AV)×List (Chunk AV)):=match args,ch with
 | [.v (.agg [.it .i64 a,.it .i64 b,.it .i64 c,.it .i64 d,.bt e,.it .i64 f,.it .i64 g]),.v (.c (.ptr 7 0))],[.cells [.vs 8 0 q 1 false] ty,.abs (.ints l)]=>match Nat.beq ty D2 with
   | true=>.need (decide (q=l.length /\ l.length<=100000)) (.leaf (.v (.c (.bt (an ⟨a,b,c,d,e,f,g⟩ l))),Nr q l,[]))
   | false=>.fail "kept"
 | _,_=>.fail "kept"
theorem J2:FnOk Tryz.prog (NV σ) 113 (kW isS noM (sv2 fun x l=>l.any (eR x))):=by
 refine gm (N:=NVl (lp2 (fun x l=>l.any (eR x)) (fun x l=>eW (eR x) 0 l)) σ) (N':=NV σ) rfl rfl (jd bR rfl fun args ch v l' nw h hlen ha hC=>?_)
 unfold sv2 at h
 split at h
 ·rename_i a b c d e f g q ty l
  split at h
  ·rename_i ety
   have ety:=(ai _ _).1 ety
   subst ety
   replace h:=aj h
   obtain⟨hb,h⟩:=h
   obtain⟨rfl,hl⟩:=of_decide_eq_true hb
   simp only [T.val,Option.some.injEq,Prod.mk.injEq] at h
   obtain⟨rfl,rfl,rfl⟩:=h
   have hr:(pK (lp2 (fun x l=>l.any (eR x)) (fun x l=>eW (eR x) 0 l)) σ bm 113 noM [.v (.agg [.it .i64 a,.it .i64 b,.it .i64 c,.it .i64 d,.bt e,.it .i64 f,.it .i64 g]),.v (.c (.ptr 7 0))] [.cells [.vs 8 0 l.length 1 false] D2,.abs (.ints l)]).val=some (stV (.v (.c (.bl (l.any (eR ⟨a,b,c,d,e,f,g⟩)))),hpC noM (Nr l.length l))):=by
    refine(congrArg T.val (c2R σ (fun x l=>l.any (eR x)) (fun x l=>eW (eR x) 0 l) ⟨a,b,c,d,e,f,g⟩ l.length l)).trans ?_
    rw [nv (decide_eq_true ⟨rfl,rfl,rfl,hl⟩)]
    cases hp:l.any (eR ⟨a,b,c,d,e,f,g⟩) with
    | true=>rfl
    | false=>rfl
   exact mZ (v:=.v (.c (.bl (l.any (eR ⟨a,b,c,d,e,f,g⟩))))) (fF X4 wo rfl hr (by rintro ⟨⟩)) ((O4 _).cl _) fun ρ=>rfl
  ·simp [T.val] at h
 ·simp [T.val] at h
noncomputable def L3:Code:=fv 2 (bx (cB Tryz.f114))
def Nq (q:Nat) (l:List Sp):List (Chunk AV):=[.cells [.vs 8 0 q 3 false] D1,.abs (.spans l)]
def E4 (x:Nt) (q:Nat) (l:List Sp) (i:Int) (b:Bool):St AV :=
 {E:=only ks1 [(2,.v (.c (.ptr 9 0))),(3,.v (.c (.bl b))),(6,.v (.c (.vs 8 0 q 3 false))),(7,.v (.c (.it .i64 q))),(8,.v (.c (.it .i64 i)))] 29,H:=hpC noM [.cells [.vs 8 0 q 3 false] D1,.abs (.spans l),.cells (Nt.enc x) y5]}
theorem s3R (σ:Sg) (x:Nt) (q:Nat) (l:List Sp) (i:Int):(xc (NV σ) (aN (lv (NV σ) bm 5)) (fun _=>none) 29 L3 (E4 x q l i false)).bind (cM 10 29 ks1 cP)=.ite (decide (i < (q:Int))) (.need (decide (0<=i /\ i < (q:Int))) (.need (decide (0+i.toNat < l.length)) (.ite (b9 x (l.getD (0+i.toNat) kspans.dflt)) (.leaf (.ret,E4 x q l i true)) (.leaf (.normal,E4 x q l (IntKind.wrap .i64 (i+1)) false))))) (.leaf (.exit 0,E4 x q l i false)):=by kernel_rfl
def zZ (x:Nt) (l:List Sp) (m:MA):St AV:=E4 x l.length l m.k m.b
theorem HL (σ:Sg) (x:Nt) (l:List Sp) (hl:l.length<=100000) (m:MA) (r:Ex×MA) (h:(l5 l (b9 x) m).val=some r) :
 ((xc (NV σ) (aN (lv (NV σ) bm 5)) (fun _=>none) 29 L3 (zZ x l m)).bind (cM 10 29 ks1 cP)).val=some (r.1,zZ x l r.2):=by
 replace h:=aj h
 obtain⟨hb,h⟩:=h
 obtain⟨h1,h2⟩:=of_decide_eq_true hb
 simp only [T.val,Option.some.injEq] at h
 subst h
 obtain⟨k,b⟩:=m
 simp only at h1 h2
 subst h2
 have e1:0+(k:Int).toNat=k:=by omega
 have hw:IntKind.wrap .i64 ((k:Int)+1)=((k+1:Nat):Int):=gM (by omega)
 dsimp only [zZ]
 rw [s3R]
 by_cases hk:k < l.length
 ·rw [ivT (decide_eq_true (by show (k:Int) < _;omega)),nv (decide_eq_true (by omega)),e1,nv (decide_eq_true hk),hw]
  have ed:l.drop k=l.getD k kspans.dflt::l.drop (k+1):=by
   exact dx _ hk
  rw [ed]
  cases hp:b9 x (l.getD k kspans.dflt) with
  | true=>simp only [goA,hp];rfl
  | false=>simp only [goA,hp];rfl
 ·rw [ivF (decide_eq_false (by show ¬(k:Int) < _;omega)),List.drop_eq_nil_of_le (by omega)]
  rfl
noncomputable def g3 (an:Nt->List Sp->Bool) (ix:Nt->List Sp->Nat) (s:St AV):T (Ex×St AV):=match iK s.H 0 noM with
 | some [some (.cells [.vs 8 0 q 3 false] ty),some (.abs (.spans l)),some (.cells [.it .i64 a,.it .i64 b,.it .i64 c,.it .i64 d,.bt e,.it .i64 f,.it .i64 g] ty2)] =>
   match Sx.look s.E 2,Sx.look s.E 3,Sx.look s.E 6,Sx.look s.E 7,Sx.look s.E 8,Nat.beq ty D1,Nat.beq ty2 y5 with
   | .v (.c (.ptr 9 0)),.v (.c (.bl false)),.v (.c (.vs 8 0 q1 3 false)),.v (.c (.it .i64 q2)),.v (.c (.il .i64 0)),true,true =>
     .need (decide (q=l.length /\ q1=q /\ q2=(q:Int) /\ l.length<=100000)) (.ite (an ⟨a,b,c,d,e,f,g⟩ l) (.leaf (.ret,E4 ⟨a,b,c,d,e,f,g⟩ l.length l (ix ⟨a,b,c,d,e,f,g⟩ l) true)) (.leaf (.exit 0,E4 ⟨a,b,c,d,e,f,g⟩ l.length l l.length false)))
   | _,_,_,_,_,_,_=>.fail "kept"
 | _=>.fail "kept"
theorem WX {N':Env AV} (hF:N'.F=(NV σ).F) (hG:N'.G=(NV σ).G):dG Tryz.prog N' 29 L3 (g3 (fun x l=>l.any (b9 x)) (fun x l=>eW (b9 x) 0 l)):=by
 have hcal:dM Tryz.prog (NV σ) (aN (lv (NV σ) bm 5)):=bK (iH okV oq hvV aJ 5)
 refine cJ (N:=NV σ) hF hG okV hcal (lp:=fun _=>none) (fun _ _ _ g hg=>by cases hg) fun s s' ex hgs=>?_
 obtain⟨E1,H1⟩:=s
 unfold g3 at hgs
 split at hgs
 ·rename_i q ty l a b c d e f g ty2 hs
  have hs:=fa hs
  simp only at hs
  subst hs
  split at hgs
  ·rename_i q1 q2 e2 e3 e6 e7 e8 ety ety2
   have ety:=(ai _ _).1 ety
   have ety2:=(ai _ _).1 ety2
   subst ety ety2
   simp only at e2 e3 e6 e7 e8
   replace hgs:=aj hgs
   obtain⟨hb,hgs⟩:=hgs
   obtain⟨rfl,rfl,rfl,hl⟩:=of_decide_eq_true hb
   have hgo:(ex,s')=((kO (b9 ⟨a,b,c,d,e,f,g⟩) 0 l).1,zZ ⟨a,b,c,d,e,f,g⟩ l (kO (b9 ⟨a,b,c,d,e,f,g⟩) 0 l).2):=by
    cases ha:l.any (b9 ⟨a,b,c,d,e,f,g⟩) with
    | true =>
      rw [ivT ha] at hgs
      simp only [T.val,Option.some.injEq] at hgs
      rw [<- hgs];unfold kO;rw [ha];rfl
    | false =>
      rw [ivF ha] at hgs
      simp only [T.val,Option.some.injEq] at hgs
      rw [<- hgs];unfold kO;rw [ha]
      simp only [zZ,Nat.zero_add]
   simp only [Prod.mk.injEq] at hgo
   obtain⟨rfl,rfl⟩:=hgo
   refine⟨{M:=MA,fam:=zZ ⟨a,b,c,d,e,f,g⟩ l,step:=l5 l (b9 ⟨a,b,c,d,e,f,g⟩),ks:=ks1,pk:=cP,hpk:=(fun d a h=>by cases h),L:=10,len:=rfl,hGL:=(by show 7<=10;decide),run:=HL σ ⟨a,b,c,d,e,f,g⟩ l hl,m:=⟨0,false⟩,k:=_,m':=_,ent:=?_,it:=C8 l 0 rfl (Nat.zero_le _),fin:=rfl}⟩
   refine mz (N:=NV σ) (nt:=29) (E:=E1) (ks:=ks1) (E':=[(2,.v (.c (.ptr 9 0))),(3,.v (.c (.bl false))),(6,.v (.c (.vs 8 0 l.length 3 false))),(7,.v (.c (.it .i64 l.length))),(8,.v (.c (.it .i64 (0:Nat))))]) fun k hk=>?_
   simp only [ks1,List.mem_cons,List.not_mem_nil,or_false] at hk
   rcases hk with rfl | rfl | rfl | rfl | rfl
   ·exact .inl e2.symm
   ·exact .inl e3.symm
   ·exact .inl e6.symm
   ·exact .inl e7.symm
   ·exact .inr ⟨by rw [e8];rintro ⟨⟩,pL _,fun ρ=>by rw [e8];rfl⟩
  ·simp [T.val] at hgs
 ·simp [T.val] at hgs
noncomputable def lp3 (an:Nt->List Sp->Bool) (ix:Nt->List Sp->Nat):Lp:=gT 114 2 (g3 an ix) fJ
theorem X3:cV Tryz.prog (NVl (lp3 (fun x l=>l.any (b9 x)) (fun x l=>eW (b9 x) 0 l)) σ) :=
 gJ jM (fn:=Tryz.f114) (by kernel_rfl) (c:=cB Tryz.f114) (by kernel_rfl) (nt:=29) (by kernel_rfl) (b:=L3) (br (by kernel_rfl)) (WX rfl rfl)
theorem c3R (σ:Sg) (an:Nt->List Sp->Bool) (ix:Nt->List Sp->Nat) (x:Nt) (q:Nat) (l:List Sp):pK (lp3 an ix) σ bm 114 noM [.v (.agg (Nt.enc x)),.v (.c (.ptr 7 0))] (Nq q l) =
 .need (decide (q=l.length /\ q=q /\ (q:Int)=(q:Int) /\ l.length<=100000)) (.ite (an x l) (.leaf (stV (.v (.c (.bl true)),hpC noM (Nq l.length l)))) (.leaf (stV (.v (.c (.bl false)),hpC noM (Nq l.length l))))):=by kernel_rfl
def sv3 (an:Nt->List Sp->Bool) (args:List SV) (ch:List (Chunk AV)):T (SV×List (Chunk AV)×List (Chunk AV)):=match args,ch with
 | [.v (.agg [.it .i64 a,.it .i64 b,.it .i64 c,.it .i64 d,.bt e,.it .i64 f,.it .i64 g]),.v (.c (.ptr 7 0))],[.cells [.vs 8 0 q 3 false] ty,.abs (.spans l)]=>match Nat.beq ty D1 with
   | true=>.need (decide (q=l.length /\ l.length<=100000)) (.leaf (.v (.c (.bt (an ⟨a,b,c,d,e,f,g⟩ l))),Nq q l,[]))
   | false=>.fail "kept"
 | _,_=>.fail "kept"
theorem J1:FnOk Tryz.prog (NV σ) 114 (kW isS noM (sv3 fun x l=>l.any (b9 x))):=by
 refine gm (N:=NVl (lp3 (fun x l=>l.any (b9 x)) (fun x l=>eW (b9 x) 0 l)) σ) (N':=NV σ) rfl rfl (jd bR rfl fun args ch v l' nw h hlen ha hC=>?_)
 unfold sv3 at h
 split at h
 ·rename_i a b c d e f g q ty l
  split at h
  ·rename_i ety
   have ety:=(ai _ _).1 ety
   subst ety
   replace h:=aj h
   obtain⟨hb,h⟩:=h
   obtain⟨rfl,hl⟩:=of_decide_eq_true hb
   simp only [T.val,Option.some.injEq,Prod.mk.injEq] at h
   obtain⟨rfl,rfl,rfl⟩:=h
   have hr:(pK (lp3 (fun x l=>l.any (b9 x)) (fun x l=>eW (b9 x) 0 l)) σ bm 114 noM [.v (.agg [.it .i64 a,.it .i64 b,.it .i64 c,.it .i64 d,.bt e,.it .i64 f,.it .i64 g]),.v (.c (.ptr 7 0))] [.cells [.vs 8 0 l.length 3 false] D1,.abs (.spans l)]).val=some (stV (.v (.c (.bl (l.any (b9 ⟨a,b,c,d,e,f,g⟩)))),hpC noM (Nq l.length l))):=by
    refine(congrArg T.val (c3R σ (fun x l=>l.any (b9 x)) (fun x l=>eW (b9 x) 0 l) ⟨a,b,c,d,e,f,g⟩ l.length l)).trans ?_
    rw [nv (decide_eq_true ⟨rfl,rfl,rfl,hl⟩)]
    cases hp:l.any (b9 ⟨a,b,c,d,e,f,g⟩) with
    | true=>rfl
    | false=>rfl
   exact mZ (v:=.v (.c (.bl (l.any (b9 ⟨a,b,c,d,e,f,g⟩))))) (fF X3 wo rfl hr (by rintro ⟨⟩)) ((O4 _).cl _) fun ρ=>rfl
  ·simp [T.val] at h
 ·simp [T.val] at h
end
section
open Go Go.Sx Go.Proofs
set_option maxRecDepth 100000
variable {σ:Sg} {lp:Lp}
def ksD:List Nat:=[1,4,5,8,9,10]
noncomputable def LD:Code:=fv 2 (bx (cB Tryz.f111))
noncomputable def FZ (an:Nt->List W->Bool):Tab:=aQ 112 (kW isS noM (sv1 an)) bm
noncomputable def FY (an:Nt->List N1->Bool):Tab:=aQ 113 (kW isS noM (sv2 an)) bm
noncomputable def FX (an:Nt->List Sp->Bool):Tab:=aQ 114 (kW isS noM (sv3 an)) bm
abbrev jT (l:List Nt) (i:Int):Nt:=l.getD (0+i.toNat) knotes.dflt
def pU (σ:Sg) (n:Nat) (l:List Nt):Bool:=decide (n=Intf.len (F6 σ) (AV.notes l) /\ (n+1) * (SI.bytes Kw+1)<=lim)
def Ae (kept:List W) (kq:Nat) (q:Nat) (l:List Nt) (i:Int) (f s:List Nt) (lf ls:Nat):St AV :=
 {E:=only ksD [(1,.clo 112 [.ptr 9 0]),(4,.v (.c (.vs 10 0 lf 7 false))),(5,.v (.c (.vs 11 0 ls 7 false))),(8,.v (.c (.vs 7 0 q 7 false))),(9,.v (.c (.it .i64 q))),(10,.v (.c (.it .i64 i)))] 28,
   H:=hpC noM [.abs (.notes l),.abs (.words kept),.cells [.vs 8 0 kq 5 false] D0,.abs (.notes f),.abs (.notes s)]}
theorem d1R (σ:Sg) (an:Nt->List W->Bool) (kept:List W) (kq q:Nat) (l:List Nt) (i:Int) (f s:List Nt) (lf ls:Nat):(xc (NV σ) (aN (lv (NV σ) (FZ an) 5)) (fun _=>none) 28 LD (Ae kept kq q l i f s lf ls)).bind (cM 10 28 ksD cP)=.ite (decide (i < (q:Int))) (.need (decide (0<=i /\ i < (q:Int))) (.need (decide (0+i.toNat < l.length)) (.need (decide (kq=kept.length /\ kept.length<=100000))
 (.ite (an (jT l i) kept) (.need (pU σ ls s) (.leaf (.normal,Ae kept kq q l (IntKind.wrap .i64 (i+1)) f (s++[jT l i]) lf (ls+1)))) (.need (pU σ lf f) (.leaf (.normal,Ae kept kq q l (IntKind.wrap .i64 (i+1)) (f++[jT l i]) s (lf+1) ls)))))))
 (.leaf (.exit 0,Ae kept kq q l i f s lf ls)):=by kernel_rfl
def Ac (kept:List N1) (kq:Nat) (q:Nat) (l:List Nt) (i:Int) (f s:List Nt) (lf ls:Nat):St AV :=
 {E:=only ksD [(1,.clo 113 [.ptr 9 0]),(4,.v (.c (.vs 10 0 lf 7 false))),(5,.v (.c (.vs 11 0 ls 7 false))),(8,.v (.c (.vs 7 0 q 7 false))),(9,.v (.c (.it .i64 q))),(10,.v (.c (.it .i64 i)))] 28,
   H:=hpC noM [.abs (.notes l),.abs (.ints kept),.cells [.vs 8 0 kq 1 false] D2,.abs (.notes f),.abs (.notes s)]}
theorem d2R (σ:Sg) (an:Nt->List N1->Bool) (kept:List N1) (kq q:Nat) (l:List Nt) (i:Int) (f s:List Nt) (lf ls:Nat):(xc (NV σ) (aN (lv (NV σ) (FY an) 5)) (fun _=>none) 28 LD (Ac kept kq q l i f s lf ls)).bind (cM 10 28 ksD cP)=.ite (decide (i < (q:Int))) (.need (decide (0<=i /\ i < (q:Int))) (.need (decide (0+i.toNat < l.length)) (.need (decide (kq=kept.length /\ kept.length<=100000))
 (.ite (an (jT l i) kept) (.need (pU σ ls s) (.leaf (.normal,Ac kept kq q l (IntKind.wrap .i64 (i+1)) f (s++[jT l i]) lf (ls+1)))) (.need (pU σ lf f) (.leaf (.normal,Ac kept kq q l (IntKind.wrap .i64 (i+1)) (f++[jT l i]) s (lf+1) ls)))))))
 (.leaf (.exit 0,Ac kept kq q l i f s lf ls)):=by kernel_rfl
def Ab (kept:List Sp) (kq:Nat) (q:Nat) (l:List Nt) (i:Int) (f s:List Nt) (lf ls:Nat):St AV :=
 {E:=only ksD [(1,.clo 114 [.ptr 9 0]),(4,.v (.c (.vs 10 0 lf 7 false))),(5,.v (.c (.vs 11 0 ls 7 false))),(8,.v (.c (.vs 7 0 q 7 false))),(9,.v (.c (.it .i64 q))),(10,.v (.c (.it .i64 i)))] 28,
   H:=hpC noM [.abs (.notes l),.abs (.spans kept),.cells [.vs 8 0 kq 3 false] D1,.abs (.notes f),.abs (.notes s)]}
theorem d3R (σ:Sg) (an:Nt->List Sp->Bool) (kept:List Sp) (kq q:Nat) (l:List Nt) (i:Int) (f s:List Nt) (lf ls:Nat):(xc (NV σ) (aN (lv (NV σ) (FX an) 5)) (fun _=>none) 28 LD (Ab kept kq q l i f s lf ls)).bind (cM 10 28 ksD cP)=.ite (decide (i < (q:Int))) (.need (decide (0<=i /\ i < (q:Int))) (.need (decide (0+i.toNat < l.length)) (.need (decide (kq=kept.length /\ kept.length<=100000))
 (.ite (an (jT l i) kept) (.need (pU σ ls s) (.leaf (.normal,Ab kept kq q l (IntKind.wrap .i64 (i+1)) f (s++[jT l i]) lf (ls+1)))) (.need (pU σ lf f) (.leaf (.normal,Ab kept kq q l (IntKind.wrap .i64 (i+1)) (f++[jT l i]) s (lf+1) ls)))))))
 (.leaf (.exit 0,Ab kept kq q l i f s lf ls)):=by kernel_rfl
end
section
open Go Go.Sx Go.Proofs
set_option maxRecDepth 100000
variable {σ:Sg} {lp:Lp}
theorem eT {nt:Nat} {N:Env AV} {s:St AV} {ks:List Nat} {E':Ev} {l:List AV} (hl:∀a∈l,∃es ty,N.F.arr a=some (es,ty,[])) (hG:N.G<=s.H.length)
 (hE:∀k∈ks,Sx.look E' k=Sx.look s.E k \/ (Sx.look s.E k≠.unk /\ Plain (Sx.look E' k) /\ ∀ρ,(Sx.look E' k).den ρ=(Sx.look s.E k).den ρ) \/ (Sx.look s.E k=.v (.c .snil) /\ ∃j es,j < l.length /\ Sx.look E' k=.v (.c (.vs (s.H.length+j) 0 0 es false)))):Enter N nt s {E:=only ks E' nt,H:=s.H++cr l}:=by
 refine Fc (l:=l) rfl hl hG (fun k hk=>?_) fun k hk=>by simp only [eu,if_neg (show ¬k < nt by omega)]
 simp only [eu,if_pos hk]
 cases hh:iU ks k with
 | false=>exact .inl rfl
 | true=>exact .inr (hE k ((dB _ _).1 hh))
structure MD where
 k:Nat
 f:List Nt
 s:List Nt
def goD (p:Nt->Bool) (m:MD):List Nt->Ex×MD
 | []=>(.exit 0,m)
 | a::_=>match p a with | true=>(.normal,⟨m.k+1,m.f,m.s++[a]⟩) | false=>(.normal,⟨m.k+1,m.f++[a],m.s⟩)
def nN (l:List Nt) (p:Nt->Bool) (m:MD):T (Ex×MD):=.need (decide (m.k<=l.length /\ m.f.length<=m.k /\ m.s.length<=m.k)) (.leaf (goD p m (l.drop m.k)))
def dV (p:Nt->Bool) (l:List Nt):List Nt:=l.filter fun n=>!(p n)
def dZ (p:Nt->Bool) (l:List Nt):List Nt:=l.filter p
theorem GQ {l:List Nt} {p:Nt->Bool}:∀(r:List Nt) (k:Nat) (f s:List Nt),l.drop k=r->k+r.length=l.length->f.length<=k->s.length<=k->dj (nN l p) (r.length+1) ⟨k,f,s⟩=some (.exit 0,⟨l.length,f++dV p r,s++dZ p r⟩):=by
 intro r
 induction r with
 | nil =>
   intro k f s hr hk hf hs
   rw [List.length_nil,dj,nN,nv (decide_eq_true ⟨by simp only [List.length_nil] at hk;show k<=_;omega,hf,hs⟩)]
   simp only [T.val,hr,goD,dV,dZ,List.filter_nil,List.append_nil]
   simp only [List.length_nil,Nat.add_zero] at hk
   rw [hk]
 | cons a r ih =>
   intro k f s hr hk hf hs
   have hr2:l.drop (k+1)=r:=by
    rw [show l.drop (k+1)=(l.drop k).drop 1 by rw [List.drop_drop],hr];rfl
   rw [List.length_cons] at hk
   rw [List.length_cons,dj,nN,nv (decide_eq_true ⟨by show k<=_;omega,hf,hs⟩)]
   simp only [T.val,hr,goD]
   cases ha:p a with
   | true =>
     simp only
     rw [ih (k+1) f (s++[a]) hr2 (by omega) (by omega) (by rw [List.length_append];simp only [List.length_cons,List.length_nil];omega)]
     simp only [dV,dZ,List.filter_cons,ha,Bool.not_true,List.append_assoc,List.singleton_append]
     rfl
   | false =>
     simp only
     rw [ih (k+1) (f++[a]) s hr2 (by omega) (by rw [List.length_append];simp only [List.length_cons,List.length_nil];omega) (by omega)]
     simp only [dV,dZ,List.filter_cons,ha,Bool.not_false,List.append_assoc,List.singleton_append]
     rfl
theorem jq {n:Nat} {l:List Nt} (h:n=l.length) (hn:l.length<=100000):pU σ n l=true:=by
 unfold pU
 subst h
 exact decide_eq_true ⟨rfl,Nat.le_trans (Nat.mul_le_mul_right _ (Nat.succ_le_succ hn)) (by decide)⟩
def BL (kept:List W) (l:List Nt) (m:MD):St AV:=Ae kept kept.length l.length l m.k m.f m.s m.f.length m.s.length
theorem Ef (σ:Sg) (kept:List W) (l:List Nt) (hk:kept.length<=100000) (hl:l.length<=100000) (m:MD) (r:Ex×MD) (h:(nN l (fun n=>kept.any (ca n)) m).val=some r) :
 ((xc (NV σ) (aN (lv (NV σ) (FZ (fun x l=>l.any (ca x))) 5)) (fun _=>none) 28 LD (BL kept l m)).bind (cM 10 28 ksD cP)).val=some (r.1,BL kept l r.2):=by
 replace h:=aj h
 obtain⟨hb,h⟩:=h
 obtain⟨h1,h2,h3⟩:=of_decide_eq_true hb
 simp only [T.val,Option.some.injEq] at h
 subst h
 obtain⟨k,f,s⟩:=m
 simp only at h1 h2 h3
 have e1:0+(k:Int).toNat=k:=by omega
 have hw:IntKind.wrap .i64 ((k:Int)+1)=((k+1:Nat):Int):=gM (by omega)
 dsimp only [BL]
 rw [d1R]
 by_cases hlt:k < l.length
 ·rw [ivT (decide_eq_true (by show (k:Int) < _;omega)),nv (decide_eq_true (by omega)),nv (decide_eq_true (by omega)),nv (decide_eq_true ⟨rfl,hk⟩),hw,dx knotes.dflt hlt]
  dsimp only [jT]
  rw [e1]
  cases hp:kept.any (ca (l.getD k knotes.dflt)) with
  | true=>rw [ivT rfl,nv (jq rfl (by omega))];simp only [goD,hp,T.val,List.length_append,List.length_cons,List.length_nil]
  | false=>rw [ivF rfl,nv (jq rfl (by omega))];simp only [goD,hp,T.val,List.length_append,List.length_cons,List.length_nil]
 ·rw [ivF (decide_eq_false (by show ¬(k:Int) < _;omega)),List.drop_eq_nil_of_le (by omega)]
  rfl
noncomputable def gD1 (fr st:List W->List Nt->List Nt) (s:St AV):T (Ex×St AV):=match iK s.H 0 noM with
 | some [some (.abs (.notes l)),some (.abs (.words kept)),some (.cells [.vs 8 0 kq 5 false] ty)] =>
   match Sx.look s.E 1,Sx.look s.E 4,Sx.look s.E 5,Sx.look s.E 8,Sx.look s.E 9,Sx.look s.E 10,Nat.beq ty D0 with
   | .clo fid [.ptr 9 0],.v (.c .snil),.v (.c .snil),.v (.c (.vs 7 0 q1 7 false)),.v (.c (.it .i64 q2)),.v (.c (.il .i64 0)),true=>match Nat.beq fid 112 with
     | true=>.need (decide (q1=l.length /\ q2=(q1:Int) /\ kq=kept.length /\ kept.length<=100000 /\ l.length<=100000)) (.leaf (.exit 0,Ae kept kept.length l.length l l.length (fr kept l) (st kept l) (fr kept l).length (st kept l).length))
     | false=>.fail "divide"
   | _,_,_,_,_,_,_=>.fail "divide"
 | _=>.fail "divide"
theorem TQ {N':Env AV} (hF:N'.F=(NV σ).F) (hG:N'.G=(NV σ).G):dG Tryz.prog N' 28 LD (gD1 (fun kept l=>dV (fun n=>kept.any (ca n)) l) (fun kept l=>dZ (fun n=>kept.any (ca n)) l)):=by
 have hcal:dM Tryz.prog (NV σ) (aN (lv (NV σ) (FZ (fun x l=>l.any (ca x))) 5)):=bK (iH okV oq hvV (au J3 aJ) 5)
 refine cJ (N:=NV σ) hF hG okV hcal (lp:=fun _=>none) (fun _ _ _ g hg=>by cases hg) fun s s' ex hgs=>?_
 obtain⟨E1,H1⟩:=s
 unfold gD1 at hgs
 split at hgs
 ·rename_i l kept kq ty hs
  have hs:=fa hs
  simp only at hs
  subst hs
  split at hgs
  ·rename_i fid q1 q2 e1 e4 e5 e8 e9 e10 ety
   have ety:=(ai _ _).1 ety
   subst ety
   simp only at e1 e4 e5 e8 e9 e10
   split at hgs
   ·rename_i efid
    have efid:=(ai _ _).1 efid
    subst efid
    replace hgs:=aj hgs
    obtain⟨hb,hgs⟩:=hgs
    obtain⟨rfl,rfl,rfl,hk,hl⟩:=of_decide_eq_true hb
    simp only [T.val,Option.some.injEq,Prod.mk.injEq] at hgs
    obtain⟨rfl,rfl⟩:=hgs
    refine⟨{M:=MD,fam:=BL kept l,step:=nN l (fun n=>kept.any (ca n)),ks:=ksD,pk:=cP,hpk:=(fun d a h=>by cases h),L:=10,len:=rfl,hGL:=(by show 7<=10;decide),run:=Ef σ kept l hk hl,m:=⟨0,[],[]⟩,k:=_,m':=_,ent:=?_,it:=GQ l 0 [] [] rfl (Nat.zero_add _) (Nat.zero_le _) (Nat.zero_le _),fin:=rfl}⟩
    refine eT (N:=NV σ) (s:=⟨E1,_⟩) (l:=[.notes [],.notes []]) (fun a ha=>⟨7,knotes.ty,by simp only [List.mem_cons,List.not_mem_nil,or_false,or_self] at ha;rw [ha];rfl⟩) (by show 7<=10;decide) fun k hk=>?_
    simp only [ksD,List.mem_cons,List.not_mem_nil,or_false] at hk
    rcases hk with rfl | rfl | rfl | rfl | rfl | rfl
    ·exact .inl e1.symm
    ·exact .inr (.inr ⟨e4,0,7,by decide,rfl⟩)
    ·exact .inr (.inr ⟨e5,1,7,by decide,rfl⟩)
    ·exact .inl e8.symm
    ·exact .inl e9.symm
    ·exact .inr (.inl ⟨by show Sx.look E1 10≠_;rw [e10];rintro ⟨⟩,pL _,fun ρ=>by show _=(Sx.look E1 10).den ρ;rw [e10];rfl⟩)
   ·simp [T.val] at hgs
  ·simp [T.val] at hgs
 ·simp [T.val] at hgs
def BK (kept:List N1) (l:List Nt) (m:MD):St AV:=Ac kept kept.length l.length l m.k m.f m.s m.f.length m.s.length
theorem Ee (σ:Sg) (kept:List N1) (l:List Nt) (hk:kept.length<=100000) (hl:l.length<=100000) (m:MD) (r:Ex×MD) (h:(nN l (fun n=>kept.any (eR n)) m).val=some r) :
 ((xc (NV σ) (aN (lv (NV σ) (FY (fun x l=>l.any (eR x))) 5)) (fun _=>none) 28 LD (BK kept l m)).bind (cM 10 28 ksD cP)).val=some (r.1,BK kept l r.2):=by
 replace h:=aj h
 obtain⟨hb,h⟩:=h
 obtain⟨h1,h2,h3⟩:=of_decide_eq_true hb
 simp only [T.val,Option.some.injEq] at h
 subst h
 obtain⟨k,f,s⟩:=m
 simp only at h1 h2 h3
 have e1:0+(k:Int).toNat=k:=by omega
 have hw:IntKind.wrap .i64 ((k:Int)+1)=((k+1:Nat):Int):=gM (by omega)
 dsimp only [BK]
 rw [d2R]
 by_cases hlt:k < l.length
 ·rw [ivT (decide_eq_true (by show (k:Int) < _;omega)),nv (decide_eq_true (by omega)),nv (decide_eq_true (by omega)),nv (decide_eq_true ⟨rfl,hk⟩),hw,dx knotes.dflt hlt]
  dsimp only [jT]
  rw [e1]
  cases hp:kept.any (eR (l.getD k knotes.dflt)) with
  | true=>rw [ivT rfl,nv (jq rfl (by omega))];simp only [goD,hp,T.val,List.length_append,List.length_cons,List.length_nil]
  | false=>rw [ivF rfl,nv (jq rfl (by omega))];simp only [goD,hp,T.val,List.length_append,List.length_cons,List.length_nil]
 ·rw [ivF (decide_eq_false (by show ¬(k:Int) < _;omega)),List.drop_eq_nil_of_le (by omega)]
  rfl
noncomputable def gD2 (fr st:List N1->List Nt->List Nt) (s:St AV):T (Ex×St AV):=match iK s.H 0 noM with
 | some [some (.abs (.notes l)),some (.abs (.ints kept)),some (.cells [.vs 8 0 kq 1 false] ty)] =>
   match Sx.look s.E 1,Sx.look s.E 4,Sx.look s.E 5,Sx.look s.E 8,Sx.look s.E 9,Sx.look s.E 10,Nat.beq ty D2 with
   | .clo fid [.ptr 9 0],.v (.c .snil),.v (.c .snil),.v (.c (.vs 7 0 q1 7 false)),.v (.c (.it .i64 q2)),.v (.c (.il .i64 0)),true=>match Nat.beq fid 113 with
     | true=>.need (decide (q1=l.length /\ q2=(q1:Int) /\ kq=kept.length /\ kept.length<=100000 /\ l.length<=100000)) (.leaf (.exit 0,Ac kept kept.length l.length l l.length (fr kept l) (st kept l) (fr kept l).length (st kept l).length))
     | false=>.fail "divide"
   | _,_,_,_,_,_,_=>.fail "divide"
 | _=>.fail "divide"
theorem TP {N':Env AV} (hF:N'.F=(NV σ).F) (hG:N'.G=(NV σ).G):dG Tryz.prog N' 28 LD (gD2 (fun kept l=>dV (fun n=>kept.any (eR n)) l) (fun kept l=>dZ (fun n=>kept.any (eR n)) l)):=by
 have hcal:dM Tryz.prog (NV σ) (aN (lv (NV σ) (FY (fun x l=>l.any (eR x))) 5)):=bK (iH okV oq hvV (au J2 aJ) 5)
 refine cJ (N:=NV σ) hF hG okV hcal (lp:=fun _=>none) (fun _ _ _ g hg=>by cases hg) fun s s' ex hgs=>?_
 obtain⟨E1,H1⟩:=s
 unfold gD2 at hgs
 split at hgs
 ·rename_i l kept kq ty hs
  have hs:=fa hs
  simp only at hs
  subst hs
  split at hgs
  ·rename_i fid q1 q2 e1 e4 e5 e8 e9 e10 ety
   have ety:=(ai _ _).1 ety
   subst ety
   simp only at e1 e4 e5 e8 e9 e10
   split at hgs
   ·rename_i efid
    have efid:=(ai _ _).1 efid
    subst efid
    replace hgs:=aj hgs
    obtain⟨hb,hgs⟩:=hgs
    obtain⟨rfl,rfl,rfl,hk,hl⟩:=of_decide_eq_true hb
    simp only [T.val,Option.some.injEq,Prod.mk.injEq] at hgs
    obtain⟨rfl,rfl⟩:=hgs
    refine⟨{M:=MD,fam:=BK kept l,step:=nN l (fun n=>kept.any (eR n)),ks:=ksD,pk:=cP,hpk:=(fun d a h=>by cases h),L:=10,len:=rfl,hGL:=(by show 7<=10;decide),run:=Ee σ kept l hk hl,m:=⟨0,[],[]⟩,k:=_,m':=_,ent:=?_,it:=GQ l 0 [] [] rfl (Nat.zero_add _) (Nat.zero_le _) (Nat.zero_le _),fin:=rfl}⟩
    refine eT (N:=NV σ) (s:=⟨E1,_⟩) (l:=[.notes [],.notes []]) (fun a ha=>⟨7,knotes.ty,by simp only [List.mem_cons,List.not_mem_nil,or_false,or_self] at ha;rw [ha];rfl⟩) (by show 7<=10;decide) fun k hk=>?_
    simp only [ksD,List.mem_cons,List.not_mem_nil,or_false] at hk
    rcases hk with rfl | rfl | rfl | rfl | rfl | rfl
    ·exact .inl e1.symm
    ·exact .inr (.inr ⟨e4,0,7,by decide,rfl⟩)
    ·exact .inr (.inr ⟨e5,1,7,by decide,rfl⟩)
    ·exact .inl e8.symm
    ·exact .inl e9.symm
    ·exact .inr (.inl ⟨by show Sx.look E1 10≠_;rw [e10];rintro ⟨⟩,pL _,fun ρ=>by show _=(Sx.look E1 10).den ρ;rw [e10];rfl⟩)
   ·simp [T.val] at hgs
  ·simp [T.val] at hgs
 ·simp [T.val] at hgs
def BJ (kept:List Sp) (l:List Nt) (m:MD):St AV:=Ab kept kept.length l.length l m.k m.f m.s m.f.length m.s.length
theorem Ed (σ:Sg) (kept:List Sp) (l:List Nt) (hk:kept.length<=100000) (hl:l.length<=100000) (m:MD) (r:Ex×MD) (h:(nN l (fun n=>kept.any (b9 n)) m).val=some r) :
 ((xc (NV σ) (aN (lv (NV σ) (FX (fun x l=>l.any (b9 x))) 5)) (fun _=>none) 28 LD (BJ kept l m)).bind (cM 10 28 ksD cP)).val=some (r.1,BJ kept l r.2):=by
 replace h:=aj h
 obtain⟨hb,h⟩:=h
 obtain⟨h1,h2,h3⟩:=of_decide_eq_true hb
 simp only [T.val,Option.some.injEq] at h
 subst h
 obtain⟨k,f,s⟩:=m
 simp only at h1 h2 h3
 have e1:0+(k:Int).toNat=k:=by omega
 have hw:IntKind.wrap .i64 ((k:Int)+1)=((k+1:Nat):Int):=gM (by omega)
 dsimp only [BJ]
 rw [d3R]
 by_cases hlt:k < l.length
 ·rw [ivT (decide_eq_true (by show (k:Int) < _;omega)),nv (decide_eq_true (by omega)),nv (decide_eq_true (by omega)),nv (decide_eq_true ⟨rfl,hk⟩),hw,dx knotes.dflt hlt]
  dsimp only [jT]
  rw [e1]
  cases hp:kept.any (b9 (l.getD k knotes.dflt)) with
  | true=>rw [ivT rfl,nv (jq rfl (by omega))];simp only [goD,hp,T.val,List.length_append,List.length_cons,List.length_nil]
  | false=>rw [ivF rfl,nv (jq rfl (by omega))];simp only [goD,hp,T.val,List.length_append,List.length_cons,List.length_nil]
 ·rw [ivF (decide_eq_false (by show ¬(k:Int) < _;omega)),List.drop_eq_nil_of_le (by omega)]
  rfl
noncomputable def gD3 (fr st:List Sp->List Nt->List Nt) (s:St AV):T (Ex×St AV):=match iK s.H 0 noM with
 | some [some (.abs (.notes l)),some (.abs (.spans kept)),some (.cells [.vs 8 0 kq 3 false] ty)] =>
   match Sx.look s.E 1,Sx.look s.E 4,Sx.look s.E 5,Sx.look s.E 8,Sx.look s.E 9,Sx.look s.E 10,Nat.beq ty D1 with
   | .clo fid [.ptr 9 0],.v (.c .snil),.v (.c .snil),.v (.c (.vs 7 0 q1 7 false)),.v (.c (.it .i64 q2)),.v (.c (.il .i64 0)),true=>match Nat.beq fid 114 with
     | true=>.need (decide (q1=l.length /\ q2=(q1:Int) /\ kq=kept.length /\ kept.length<=100000 /\ l.length<=100000)) (.leaf (.exit 0,Ab kept kept.length l.length l l.length (fr kept l) (st kept l) (fr kept l).length (st kept l).length))
     | false=>.fail "divide"
   | _,_,_,_,_,_,_=>.fail "divide"
 | _=>.fail "divide"
theorem TO {N':Env AV} (hF:N'.F=(NV σ).F) (hG:N'.G=(NV σ).G):dG Tryz.prog N' 28 LD (gD3 (fun kept l=>dV (fun n=>kept.any (b9 n)) l) (fun kept l=>dZ (fun n=>kept.any (b9 n)) l)):=by
 have hcal:dM Tryz.prog (NV σ) (aN (lv (NV σ) (FX (fun x l=>l.any (b9 x))) 5)):=bK (iH okV oq hvV (au J1 aJ) 5)
 refine cJ (N:=NV σ) hF hG okV hcal (lp:=fun _=>none) (fun _ _ _ g hg=>by cases hg) fun s s' ex hgs=>?_
 obtain⟨E1,H1⟩:=s
 unfold gD3 at hgs
 split at hgs
 ·rename_i l kept kq ty hs
  have hs:=fa hs
  simp only at hs
  subst hs
  split at hgs
  ·rename_i fid q1 q2 e1 e4 e5 e8 e9 e10 ety
   have ety:=(ai _ _).1 ety
   subst ety
   simp only at e1 e4 e5 e8 e9 e10
   split at hgs
   ·rename_i efid
    have efid:=(ai _ _).1 efid
    subst efid
    replace hgs:=aj hgs
    obtain⟨hb,hgs⟩:=hgs
    obtain⟨rfl,rfl,rfl,hk,hl⟩:=of_decide_eq_true hb
    simp only [T.val,Option.some.injEq,Prod.mk.injEq] at hgs
    obtain⟨rfl,rfl⟩:=hgs
    refine⟨{M:=MD,fam:=BJ kept l,step:=nN l (fun n=>kept.any (b9 n)),ks:=ksD,pk:=cP,hpk:=(fun d a h=>by cases h),L:=10,len:=rfl,hGL:=(by show 7<=10;decide),run:=Ed σ kept l hk hl,m:=⟨0,[],[]⟩,k:=_,m':=_,ent:=?_,it:=GQ l 0 [] [] rfl (Nat.zero_add _) (Nat.zero_le _) (Nat.zero_le _),fin:=rfl}⟩
    refine eT (N:=NV σ) (s:=⟨E1,_⟩) (l:=[.notes [],.notes []]) (fun a ha=>⟨7,knotes.ty,by simp only [List.mem_cons,List.not_mem_nil,or_false,or_self] at ha;rw [ha];rfl⟩) (by show 7<=10;decide) fun k hk=>?_
    simp only [ksD,List.mem_cons,List.not_mem_nil,or_false] at hk
    rcases hk with rfl | rfl | rfl | rfl | rfl | rfl
    ·exact .inl e1.symm
    ·exact .inr (.inr ⟨e4,0,7,by decide,rfl⟩)
    ·exact .inr (.inr ⟨e5,1,7,by decide,rfl⟩)
    ·exact .inl e8.symm
    ·exact .inl e9.symm
    ·exact .inr (.inl ⟨by show Sx.look E1 10≠_;rw [e10];rintro ⟨⟩,pL _,fun ρ=>by show _=(Sx.look E1 10).den ρ;rw [e10];rfl⟩)
   ·simp [T.val] at hgs
  ·simp [T.val] at hgs
 ·simp [T.val] at hgs
end
section
open Go Go.Sx Go.Proofs
set_option maxRecDepth 100000
variable {σ:Sg} {lp:Lp}
noncomputable def Te (fr st:List W->List Nt->List Nt):Lp:=gT 111 2 (gD1 fr st) fJ
theorem Wz:cV Tryz.prog (NVl (Te (fun kept l=>dV (fun n=>kept.any (ca n)) l) (fun kept l=>dZ (fun n=>kept.any (ca n)) l)) σ) :=
 gJ jM (fn:=Tryz.f111) (by kernel_rfl) (c:=cB Tryz.f111) (by kernel_rfl) (nt:=28) (by kernel_rfl) (b:=LD) (br (by kernel_rfl)) (TQ rfl rfl)
def dvV (lf ls:Nat):SV:=.tup [.c (.vs 9 0 lf 7 false),.c (.vs 10 0 ls 7 false)]
theorem Yg (σ:Sg) (an:Nt->List W->Bool) (fr st:List W->List Nt->List Nt) (l:List Nt) (kept:List W) (q kq:Nat):pK (Te fr st) σ (FZ an) 104 noM [.v (.c (.vs 7 0 q 7 false)),.v (.c (.vs 8 0 kq 5 false))] [.abs (.notes l),.abs (.words kept)]=.need (decide (q=l.length /\ (q:Int)=(q:Int) /\ kq=kept.length /\ kept.length<=100000 /\ l.length<=100000)) (.leaf (stV (dvV (fr kept l).length (st kept l).length,hpC noM [.abs (.notes l),.abs (.words kept),.abs (.notes (fr kept l)),.abs (.notes (st kept l))]))):=by kernel_rfl
def dv1 (fr st:List W->List Nt->List Nt) (args:List SV) (ch:List (Chunk AV)):T (SV×List (Chunk AV)×List (Chunk AV)):=match args,ch with
 | [.v (.c (.vs 7 0 q 7 false)),.v (.c (.vs 8 0 kq 5 false))],[.abs (.notes l),.abs (.words kept)]=>.need (decide (q=l.length /\ kq=kept.length /\ kept.length<=100000 /\ l.length<=100000))
     (.leaf (dvV (fr kept l).length (st kept l).length,[.abs (.notes l),.abs (.words kept)],[.abs (.notes (fr kept l)),.abs (.notes (st kept l))]))
 | _,_=>.fail "divide"
theorem TZ:FnOk Tryz.prog (NV σ) 104 (kW isS noM (dv1 (fun kept l=>dV (fun n=>kept.any (ca n)) l) (fun kept l=>dZ (fun n=>kept.any (ca n)) l))):=by
 refine gm (N:=NVl (Te (fun kept l=>dV (fun n=>kept.any (ca n)) l) (fun kept l=>dZ (fun n=>kept.any (ca n)) l)) σ) (N':=NV σ) rfl rfl (jd bR rfl fun args ch v l' nw h hlen ha hC=>?_)
 unfold dv1 at h
 split at h
 ·rename_i q kq l kept
  replace h:=aj h
  obtain⟨hb,h⟩:=h
  obtain⟨rfl,rfl,hk,hl⟩:=of_decide_eq_true hb
  simp only [T.val,Option.some.injEq,Prod.mk.injEq] at h
  obtain⟨rfl,rfl,rfl⟩:=h
  have hr:=congrArg T.val (Yg σ (fun x l=>l.any (ca x)) (fun kept l=>dV (fun n=>kept.any (ca n)) l) (fun kept l=>dZ (fun n=>kept.any (ca n)) l) l kept l.length kept.length)
  rw [nv (decide_eq_true ⟨rfl,rfl,rfl,hk,hl⟩)] at hr
  exact fF Wz (wh (au J3 aJ)) rfl hr (by rintro ⟨⟩)
 ·simp [T.val] at h
noncomputable def Td (fr st:List N1->List Nt->List Nt):Lp:=gT 111 2 (gD2 fr st) fJ
theorem Wy:cV Tryz.prog (NVl (Td (fun kept l=>dV (fun n=>kept.any (eR n)) l) (fun kept l=>dZ (fun n=>kept.any (eR n)) l)) σ) :=
 gJ jM (fn:=Tryz.f111) (by kernel_rfl) (c:=cB Tryz.f111) (by kernel_rfl) (nt:=28) (by kernel_rfl) (b:=LD) (br (by kernel_rfl)) (TP rfl rfl)
theorem Yf (σ:Sg) (an:Nt->List N1->Bool) (fr st:List N1->List Nt->List Nt) (l:List Nt) (kept:List N1) (q kq:Nat):pK (Td fr st) σ (FY an) 105 noM [.v (.c (.vs 7 0 q 7 false)),.v (.c (.vs 8 0 kq 1 false))] [.abs (.notes l),.abs (.ints kept)]=.need (decide (q=l.length /\ (q:Int)=(q:Int) /\ kq=kept.length /\ kept.length<=100000 /\ l.length<=100000)) (.leaf (stV (dvV (fr kept l).length (st kept l).length,hpC noM [.abs (.notes l),.abs (.ints kept),.abs (.notes (fr kept l)),.abs (.notes (st kept l))]))):=by kernel_rfl
def dv2 (fr st:List N1->List Nt->List Nt) (args:List SV) (ch:List (Chunk AV)):T (SV×List (Chunk AV)×List (Chunk AV)):=match args,ch with
 | [.v (.c (.vs 7 0 q 7 false)),.v (.c (.vs 8 0 kq 1 false))],[.abs (.notes l),.abs (.ints kept)]=>.need (decide (q=l.length /\ kq=kept.length /\ kept.length<=100000 /\ l.length<=100000))
     (.leaf (dvV (fr kept l).length (st kept l).length,[.abs (.notes l),.abs (.ints kept)],[.abs (.notes (fr kept l)),.abs (.notes (st kept l))]))
 | _,_=>.fail "divide"
theorem TY:FnOk Tryz.prog (NV σ) 105 (kW isS noM (dv2 (fun kept l=>dV (fun n=>kept.any (eR n)) l) (fun kept l=>dZ (fun n=>kept.any (eR n)) l))):=by
 refine gm (N:=NVl (Td (fun kept l=>dV (fun n=>kept.any (eR n)) l) (fun kept l=>dZ (fun n=>kept.any (eR n)) l)) σ) (N':=NV σ) rfl rfl (jd bR rfl fun args ch v l' nw h hlen ha hC=>?_)
 unfold dv2 at h
 split at h
 ·rename_i q kq l kept
  replace h:=aj h
  obtain⟨hb,h⟩:=h
  obtain⟨rfl,rfl,hk,hl⟩:=of_decide_eq_true hb
  simp only [T.val,Option.some.injEq,Prod.mk.injEq] at h
  obtain⟨rfl,rfl,rfl⟩:=h
  have hr:=congrArg T.val (Yf σ (fun x l=>l.any (eR x)) (fun kept l=>dV (fun n=>kept.any (eR n)) l) (fun kept l=>dZ (fun n=>kept.any (eR n)) l) l kept l.length kept.length)
  rw [nv (decide_eq_true ⟨rfl,rfl,rfl,hk,hl⟩)] at hr
  exact fF Wy (wh (au J2 aJ)) rfl hr (by rintro ⟨⟩)
 ·simp [T.val] at h
noncomputable def Tc (fr st:List Sp->List Nt->List Nt):Lp:=gT 111 2 (gD3 fr st) fJ
theorem Wx:cV Tryz.prog (NVl (Tc (fun kept l=>dV (fun n=>kept.any (b9 n)) l) (fun kept l=>dZ (fun n=>kept.any (b9 n)) l)) σ) :=
 gJ jM (fn:=Tryz.f111) (by kernel_rfl) (c:=cB Tryz.f111) (by kernel_rfl) (nt:=28) (by kernel_rfl) (b:=LD) (br (by kernel_rfl)) (TO rfl rfl)
theorem Ye (σ:Sg) (an:Nt->List Sp->Bool) (fr st:List Sp->List Nt->List Nt) (l:List Nt) (kept:List Sp) (q kq:Nat):pK (Tc fr st) σ (FX an) 106 noM [.v (.c (.vs 7 0 q 7 false)),.v (.c (.vs 8 0 kq 3 false))] [.abs (.notes l),.abs (.spans kept)]=.need (decide (q=l.length /\ (q:Int)=(q:Int) /\ kq=kept.length /\ kept.length<=100000 /\ l.length<=100000)) (.leaf (stV (dvV (fr kept l).length (st kept l).length,hpC noM [.abs (.notes l),.abs (.spans kept),.abs (.notes (fr kept l)),.abs (.notes (st kept l))]))):=by kernel_rfl
def dv3 (fr st:List Sp->List Nt->List Nt) (args:List SV) (ch:List (Chunk AV)):T (SV×List (Chunk AV)×List (Chunk AV)):=match args,ch with
 | [.v (.c (.vs 7 0 q 7 false)),.v (.c (.vs 8 0 kq 3 false))],[.abs (.notes l),.abs (.spans kept)]=>.need (decide (q=l.length /\ kq=kept.length /\ kept.length<=100000 /\ l.length<=100000))
     (.leaf (dvV (fr kept l).length (st kept l).length,[.abs (.notes l),.abs (.spans kept)],[.abs (.notes (fr kept l)),.abs (.notes (st kept l))]))
 | _,_=>.fail "divide"
theorem TX:FnOk Tryz.prog (NV σ) 106 (kW isS noM (dv3 (fun kept l=>dV (fun n=>kept.any (b9 n)) l) (fun kept l=>dZ (fun n=>kept.any (b9 n)) l))):=by
 refine gm (N:=NVl (Tc (fun kept l=>dV (fun n=>kept.any (b9 n)) l) (fun kept l=>dZ (fun n=>kept.any (b9 n)) l)) σ) (N':=NV σ) rfl rfl (jd bR rfl fun args ch v l' nw h hlen ha hC=>?_)
 unfold dv3 at h
 split at h
 ·rename_i q kq l kept
  replace h:=aj h
  obtain⟨hb,h⟩:=h
  obtain⟨rfl,rfl,hk,hl⟩:=of_decide_eq_true hb
  simp only [T.val,Option.some.injEq,Prod.mk.injEq] at h
  obtain⟨rfl,rfl,rfl⟩:=h
  have hr:=congrArg T.val (Ye σ (fun x l=>l.any (b9 x)) (fun kept l=>dV (fun n=>kept.any (b9 n)) l) (fun kept l=>dZ (fun n=>kept.any (b9 n)) l) l kept l.length kept.length)
  rw [nv (decide_eq_true ⟨rfl,rfl,rfl,hk,hl⟩)] at hr
  exact fF Wx (wh (au J1 aJ)) rfl hr (by rintro ⟨⟩)
 ·simp [T.val] at h
end
end Go.Proofs.YtadmfaohjnjajaaGreatDoor
