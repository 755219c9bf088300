import Derived.Test.YtadmfaohjnjajaaGreatDoorQe
import Derived.Test.YtadmfaohjnjajaaGreatDoorRn
import Derived.Test.YtadmfaohjnjajaaGreatDoorSxOf
import Derived.Test.YtadmfaohjnjajaaGreatDoorSxOi
set_option linter.unusedVariables false
set_option linter.unusedSimpArgs false
set_option maxHeartbeats 4000000
namespace Go.Proofs.YtadmfaohjnjajaaGreatDoor
section
open Go Go.Sx Go.Proofs
set_option maxRecDepth 100000
variable {σ:Sg} {lp:Lp}
def ksY:List Nat:=[0,4,7,8,9]
noncomputable def LY:Code:=fv 2 (bx (cB Tryz.f90))
def kX (n:Int) (s:Sp):Bool:=eB s.is (s.low != n)
def E2 (n:Int) (q:Nat) (l:List Sp) (i:Int):St AV :=
 {E:=only ksY [(0,.v (.c (.it .i64 n))),(4,.v (.c (.bl false))),(7,.v (.c (.vs 7 0 q 3 false))),(8,.v (.c (.it .i64 q))),(9,.v (.c (.it .i64 i)))] 22,H:=hpC noM [.abs (.spans l)]}
theorem yR (σ:Sg) (n:Int) (q:Nat) (l:List Sp) (i:Int):(xc (NV σ) (aN (lv (NV σ) bm 5)) (fun _=>none) 22 LY (E2 n q l i)).bind (cM 8 22 ksY cP)=.ite (decide (i < (q:Int))) (.need (decide (0<=i /\ i < (q:Int))) (.need (decide (0+i.toNat < l.length)) (.ite (kX n (l.getD (0+i.toNat) kspans.dflt)) (.leaf (.ret,E2 n q l i)) (.leaf (.normal,E2 n q l (IntKind.wrap .i64 (i+1))))))) (.leaf (.exit 0,E2 n q l i)):=by kernel_rfl
def zY (n:Int) (l:List Sp) (m:MA):St AV:=E2 n l.length l m.k
theorem HH (σ:Sg) (n:Int) (l:List Sp) (hl:l.length<=100000) (m:MA) (r:Ex×MA) (h:(l5 l (kX n) m).val=some r) :
 ((xc (NV σ) (aN (lv (NV σ) bm 5)) (fun _=>none) 22 LY (zY n l m)).bind (cM 8 22 ksY cP)).val=some (r.1,zY n l r.2):=by
 replace h:=aj h
 obtain⟨hb,h⟩:=h
 obtain⟨h1,h2⟩:=of_decide_eq_true hb
 simp only [T.val,Option.some.injEq] at h
 subst h
 obtain⟨k,b⟩:=m
 simp only at h1 h2
 subst h2
 have e1:0+(k:Int).toNat=k:=by omega
 have hw:IntKind.wrap .i64 ((k:Int)+1)=((k+1:Nat):Int):=gM (by omega)
 dsimp only [zY]
 rw [yR]
 by_cases hk:k < l.length
 ·rw [ivT (decide_eq_true (by show (k:Int) < _;omega)),nv (decide_eq_true (by omega)),e1,nv (decide_eq_true hk),hw,dx kspans.dflt hk]
  cases hp:kX n (l.getD k kspans.dflt) with
  | true=>simp only [goA,hp];rfl
  | false=>simp only [goA,hp];rfl
 ·rw [ivF (decide_eq_false (by show ¬(k:Int) < _;omega)),List.drop_eq_nil_of_le (by omega)]
  rfl
noncomputable def gY (an:Int->List Sp->Bool) (ix:Int->List Sp->Nat) (s:St AV):T (Ex×St AV):=match iK s.H 0 noM with
 | some [some (.abs (.spans l))] =>
   match Sx.look s.E 0,Sx.look s.E 4,Sx.look s.E 7,Sx.look s.E 8,Sx.look s.E 9 with
   | .v (.c (.it .i64 n)),.v (.c (.bl false)),.v (.c (.vs 7 0 q1 3 false)),.v (.c (.it .i64 q2)),.v (.c (.il .i64 0)) =>
     .need (decide (q1=l.length /\ q2=(q1:Int) /\ l.length<=100000)) (.ite (an n l) (.leaf (.ret,E2 n l.length l (ix n l))) (.leaf (.exit 0,E2 n l.length l l.length)))
   | _,_,_,_,_=>.fail "spans"
 | _=>.fail "spans"
theorem WT {N':Env AV} (hF:N'.F=(NV σ).F) (hG:N'.G=(NV σ).G):dG Tryz.prog N' 22 LY (gY (fun n l=>l.any (kX n)) (fun n l=>eW (kX n) 0 l)):=by
 have hcal:dM Tryz.prog (NV σ) (aN (lv (NV σ) bm 5)):=bK (iH okV oq hvV aJ 5)
 refine cJ (N:=NV σ) hF hG okV hcal (lp:=fun _=>none) (fun _ _ _ g hg=>by cases hg) fun s s' ex hgs=>?_
 obtain⟨E1,H1⟩:=s
 unfold gY at hgs
 split at hgs
 ·rename_i l hs
  have hs:=fa hs
  simp only at hs
  subst hs
  split at hgs
  ·rename_i n q1 q2 e0 e4 e7 e8 e9
   simp only at e0 e4 e7 e8 e9
   replace hgs:=aj hgs
   obtain⟨hb,hgs⟩:=hgs
   obtain⟨rfl,rfl,hl⟩:=of_decide_eq_true hb
   have hgo:(ex,s')=((kO (kX n) 0 l).1,zY n l (kO (kX n) 0 l).2):=by
    cases ha:l.any (kX n) with
    | true =>
      rw [ivT ha] at hgs
      simp only [T.val,Option.some.injEq] at hgs
      rw [<- hgs];unfold kO;rw [ha];rfl
    | false =>
      rw [ivF ha] at hgs
      simp only [T.val,Option.some.injEq] at hgs
      rw [<- hgs];unfold kO;rw [ha]
      simp only [zY,Nat.zero_add]
   simp only [Prod.mk.injEq] at hgo
   obtain⟨rfl,rfl⟩:=hgo
   refine⟨{M:=MA,fam:=zY n l,step:=l5 l (kX n),ks:=ksY,pk:=cP,hpk:=(fun d a h=>by cases h),L:=8,len:=rfl,hGL:=(by show 7<=8;decide),run:=HH σ n l hl,m:=⟨0,false⟩,k:=_,m':=_,ent:=?_,it:=C8 l 0 rfl (Nat.zero_le _),fin:=rfl}⟩
   refine mz (N:=NV σ) (nt:=22) (E:=E1) (ks:=ksY) (E':=[(0,.v (.c (.it .i64 n))),(4,.v (.c (.bl false))),(7,.v (.c (.vs 7 0 l.length 3 false))),(8,.v (.c (.it .i64 l.length))),(9,.v (.c (.it .i64 (0:Nat))))]) fun k hk=>?_
   simp only [ksY,List.mem_cons,List.not_mem_nil,or_false] at hk
   rcases hk with rfl | rfl | rfl | rfl | rfl
   ·exact .inl e0.symm
   ·exact .inl e4.symm
   ·exact .inl e7.symm
   ·exact .inl e8.symm
   ·exact .inr ⟨by rw [e9];rintro ⟨⟩,pL _,fun ρ=>by rw [e9];rfl⟩
  ·simp [T.val] at hgs
 ·simp [T.val] at hgs
noncomputable def lpY (an:Int->List Sp->Bool) (ix:Int->List Sp->Nat):Lp:=gT 90 2 (gY an ix) fJ
theorem X1:cV Tryz.prog (NVl (lpY (fun n l=>l.any (kX n)) (fun n l=>eW (kX n) 0 l)) σ) :=
 gJ jM (fn:=Tryz.f90) (by kernel_rfl) (c:=cB Tryz.f90) (by kernel_rfl) (nt:=22) (by kernel_rfl) (b:=LY) (br (by kernel_rfl)) (WT rfl rfl)
theorem XZ (σ:Sg) (an:Int->List Sp->Bool) (ix:Int->List Sp->Nat) (n:Int) (q:Nat) (l:List Sp):pK (lpY an ix) σ bm 90 noM [.v (.c (.it .i64 n)),.v (.c (.vs 7 0 q 3 false))] [.abs (.spans l)]=.need (decide (q=l.length /\ (q:Int)=(q:Int) /\ l.length<=100000)) (.ite (an n l) (.leaf (stV (.v (.c (.bl false)),hpC noM [.abs (.spans l)]))) (.leaf (stV (.v (.c (.bl true)),hpC noM [.abs (.spans l)])))):=by kernel_rfl
def epP (now:Int) (x:Nt):Bool:=orB (decide (now < -9223372036854775806)) (decide (x.death > IntKind.wrap .i64 (now - 2)))
theorem c4R (σ:Sg) (now:Int) (x:Nt):pK fJ σ bm 115 noM [.v (.agg (Nt.enc x)),.v (.c (.ptr 7 0))] [.cells [.it .i64 now] 3]=.leaf (stV (.v (.c (.bt (epP now x))),hpC noM [.cells [.it .i64 now] 3])):=by kernel_rfl
def S8 (may:Int->List Sp->Bool) (args:List SV) (ch:List (Chunk AV)):T (SV×List (Chunk AV)×List (Chunk AV)):=match args,ch with
 | [.v (.c (.it .i64 n)),.v (.c (.vs 7 0 q 3 false))],[.abs (.spans l)]=>.need (decide (q=l.length /\ l.length<=100000)) (.leaf (.v (.c (.bt (may n l))),[.abs (.spans l)],[]))
 | _,_=>.fail "May"
theorem S7:FnOk Tryz.prog (NV σ) 90 (kW isS noM (S8 fun n l=>!(l.any (kX n)))):=by
 refine gm (N:=NVl (lpY (fun n l=>l.any (kX n)) (fun n l=>eW (kX n) 0 l)) σ) (N':=NV σ) rfl rfl (jd bR rfl fun args ch v l' nw h hlen ha hC=>?_)
 unfold S8 at h
 split at h
 ·rename_i n q l
  replace h:=aj h
  obtain⟨hb,h⟩:=h
  obtain⟨rfl,hl⟩:=of_decide_eq_true hb
  simp only [T.val,Option.some.injEq,Prod.mk.injEq] at h
  obtain⟨rfl,rfl,rfl⟩:=h
  have hr:(pK (lpY (fun n l=>l.any (kX n)) (fun n l=>eW (kX n) 0 l)) σ bm 90 noM [.v (.c (.it .i64 n)),.v (.c (.vs 7 0 l.length 3 false))] [.abs (.spans l)]).val=some (stV (.v (.c (.bl (!(l.any (kX n))))),hpC noM [.abs (.spans l)])):=by
   refine(congrArg T.val (XZ σ (fun n l=>l.any (kX n)) (fun n l=>eW (kX n) 0 l) n l.length l)).trans ?_
   rw [nv (decide_eq_true ⟨rfl,rfl,hl⟩)]
   cases hp:l.any (kX n) with
   | true=>rfl
   | false=>rfl
  exact mZ (v:=.v (.c (.bl (!(l.any (kX n)))))) (fF X1 wo rfl hr (by rintro ⟨⟩)) ((O4 _).cl _) fun ρ=>rfl
 ·simp [T.val] at h
def sv4 (ep:Int->Nt->Bool) (args:List SV) (ch:List (Chunk AV)):T (SV×List (Chunk AV)×List (Chunk AV)):=match args,ch with
 | [.v (.agg [.it .i64 a,.it .i64 b,.it .i64 c,.it .i64 d,.bt e,.it .i64 f,.it .i64 g]),.v (.c (.ptr 7 0))],[.cells [.it .i64 now] ty]=>match Nat.beq ty 3 with
   | true=>.leaf (.v (.c (.bt (ep now ⟨a,b,c,d,e,f,g⟩))),[.cells [.it .i64 now] 3],[])
   | false=>.fail "epochs"
 | _,_=>.fail "epochs"
theorem J0:FnOk Tryz.prog (NV σ) 115 (kW isS noM (sv4 epP)):=by
 refine gm (N:=NVl fJ σ) (N':=NV σ) rfl rfl (jd bR rfl fun args ch v l' nw h hlen ha hC=>?_)
 unfold sv4 at h
 split at h
 ·rename_i a b c d e f g now ty
  split at h
  ·rename_i ety
   have ety:=(ai _ _).1 ety
   subst ety
   simp only [T.val,Option.some.injEq,Prod.mk.injEq] at h
   obtain⟨rfl,rfl,rfl⟩:=h
   exact fF jM wo rfl (congrArg T.val (c4R σ now ⟨a,b,c,d,e,f,g⟩)) (by rintro ⟨⟩)
  ·simp [T.val] at h
 ·simp [T.val] at h
end
section
open Go Go.Sx Go.Proofs
set_option maxRecDepth 100000
variable {σ:Sg} {lp:Lp}
noncomputable def FW (ep:Int->Nt->Bool):Tab:=aQ 115 (kW isS noM (sv4 ep)) bm
def Aa (now:Int) (q:Nat) (l:List Nt) (i:Int) (f s:List Nt) (lf ls:Nat):St AV :=
 {E:=only ksD [(1,.clo 115 [.ptr 8 0]),(4,.v (.c (.vs 9 0 lf 7 false))),(5,.v (.c (.vs 10 0 ls 7 false))),(8,.v (.c (.vs 7 0 q 7 false))),(9,.v (.c (.it .i64 q))),(10,.v (.c (.it .i64 i)))] 28,
   H:=hpC noM [.abs (.notes l),.cells [.it .i64 now] 3,.abs (.notes f),.abs (.notes s)]}
theorem d4R (σ:Sg) (ep:Int->Nt->Bool) (now:Int) (q:Nat) (l:List Nt) (i:Int) (f s:List Nt) (lf ls:Nat):(xc (NV σ) (aN (lv (NV σ) (FW ep) 5)) (fun _=>none) 28 LD (Aa now q l i f s lf ls)).bind (cM 9 28 ksD cP)=.ite (decide (i < (q:Int))) (.need (decide (0<=i /\ i < (q:Int))) (.need (decide (0+i.toNat < l.length))
 (.ite (ep now (jT l i)) (.need (pU σ ls s) (.leaf (.normal,Aa now q l (IntKind.wrap .i64 (i+1)) f (s++[jT l i]) lf (ls+1)))) (.need (pU σ lf f) (.leaf (.normal,Aa now q l (IntKind.wrap .i64 (i+1)) (f++[jT l i]) s (lf+1) ls))))))
 (.leaf (.exit 0,Aa now q l i f s lf ls)):=by kernel_rfl
def BI (now:Int) (l:List Nt) (m:MD):St AV:=Aa now l.length l m.k m.f m.s m.f.length m.s.length
theorem Ec (σ:Sg) (now:Int) (l:List Nt) (hl:l.length<=100000) (m:MD) (r:Ex×MD) (h:(nN l (epP now) m).val=some r) :
 ((xc (NV σ) (aN (lv (NV σ) (FW epP) 5)) (fun _=>none) 28 LD (BI now l m)).bind (cM 9 28 ksD cP)).val=some (r.1,BI now l r.2):=by
 replace h:=aj h
 obtain⟨hb,h⟩:=h
 obtain⟨h1,h2,h3⟩:=of_decide_eq_true hb
 simp only [T.val,Option.some.injEq] at h
 subst h
 obtain⟨k,f,s⟩:=m
 simp only at h1 h2 h3
 have e1:0+(k:Int).toNat=k:=by omega
 have hw:IntKind.wrap .i64 ((k:Int)+1)=((k+1:Nat):Int):=gM (by omega)
 dsimp only [BI]
 rw [d4R]
 by_cases hlt:k < l.length
 ·rw [ivT (decide_eq_true (by show (k:Int) < _;omega)),nv (decide_eq_true (by omega)),nv (decide_eq_true (by omega)),hw,dx knotes.dflt hlt]
  dsimp only [jT]
  rw [e1]
  cases hp:epP now (l.getD k knotes.dflt) with
  | true=>rw [ivT rfl,nv (jq rfl (by omega))];simp only [goD,hp,T.val,List.length_append,List.length_cons,List.length_nil]
  | false=>rw [ivF rfl,nv (jq rfl (by omega))];simp only [goD,hp,T.val,List.length_append,List.length_cons,List.length_nil]
 ·rw [ivF (decide_eq_false (by show ¬(k:Int) < _;omega)),List.drop_eq_nil_of_le (by omega)]
  rfl
noncomputable def gD4 (fr st:Int->List Nt->List Nt) (s:St AV):T (Ex×St AV):=match iK s.H 0 noM with
 | some [some (.abs (.notes l)),some (.cells [.it .i64 now] ty)] =>
   match Sx.look s.E 1,Sx.look s.E 4,Sx.look s.E 5,Sx.look s.E 8,Sx.look s.E 9,Sx.look s.E 10,Nat.beq ty 3 with
   | .clo fid [.ptr 8 0],.v (.c .snil),.v (.c .snil),.v (.c (.vs 7 0 q1 7 false)),.v (.c (.it .i64 q2)),.v (.c (.il .i64 0)),true=>match Nat.beq fid 115 with
     | true=>.need (decide (q1=l.length /\ q2=(q1:Int) /\ l.length<=100000)) (.leaf (.exit 0,Aa now l.length l l.length (fr now l) (st now l) (fr now l).length (st now l).length))
     | false=>.fail "divide"
   | _,_,_,_,_,_,_=>.fail "divide"
 | _=>.fail "divide"
theorem TN {N':Env AV} (hF:N'.F=(NV σ).F) (hG:N'.G=(NV σ).G):dG Tryz.prog N' 28 LD (gD4 (fun now l=>dV (epP now) l) (fun now l=>dZ (epP now) l)):=by
 have hcal:dM Tryz.prog (NV σ) (aN (lv (NV σ) (FW epP) 5)):=bK (iH okV oq hvV (au J0 aJ) 5)
 refine cJ (N:=NV σ) hF hG okV hcal (lp:=fun _=>none) (fun _ _ _ g hg=>by cases hg) fun s s' ex hgs=>?_
 obtain⟨E1,H1⟩:=s
 unfold gD4 at hgs
 split at hgs
 ·rename_i l now ty hs
  have hs:=fa hs
  simp only at hs
  subst hs
  split at hgs
  ·rename_i fid q1 q2 e1 e4 e5 e8 e9 e10 ety
   have ety:=(ai _ _).1 ety
   subst ety
   simp only at e1 e4 e5 e8 e9 e10
   split at hgs
   ·rename_i efid
    have efid:=(ai _ _).1 efid
    subst efid
    replace hgs:=aj hgs
    obtain⟨hb,hgs⟩:=hgs
    obtain⟨rfl,rfl,hl⟩:=of_decide_eq_true hb
    simp only [T.val,Option.some.injEq,Prod.mk.injEq] at hgs
    obtain⟨rfl,rfl⟩:=hgs
    refine⟨{M:=MD,fam:=BI now l,step:=nN l (epP now),ks:=ksD,pk:=cP,hpk:=(fun d a h=>by cases h),L:=9,len:=rfl,hGL:=(by show 7<=9;decide),run:=Ec σ now l hl,m:=⟨0,[],[]⟩,k:=_,m':=_,ent:=?_,it:=GQ l 0 [] [] rfl (Nat.zero_add _) (Nat.zero_le _) (Nat.zero_le _),fin:=rfl}⟩
    refine eT (N:=NV σ) (s:=⟨E1,_⟩) (l:=[.notes [],.notes []]) (fun a ha=>⟨7,knotes.ty,by simp only [List.mem_cons,List.not_mem_nil,or_false,or_self] at ha;rw [ha];rfl⟩) (by show 7<=9;decide) fun k hk=>?_
    simp only [ksD,List.mem_cons,List.not_mem_nil,or_false] at hk
    rcases hk with rfl | rfl | rfl | rfl | rfl | rfl
    ·exact .inl e1.symm
    ·exact .inr (.inr ⟨e4,0,7,by decide,rfl⟩)
    ·exact .inr (.inr ⟨e5,1,7,by decide,rfl⟩)
    ·exact .inl e8.symm
    ·exact .inl e9.symm
    ·exact .inr (.inl ⟨by show Sx.look E1 10≠_;rw [e10];rintro ⟨⟩,pL _,fun ρ=>by show _=(Sx.look E1 10).den ρ;rw [e10];rfl⟩)
   ·simp [T.val] at hgs
  ·simp [T.val] at hgs
 ·simp [T.val] at hgs
noncomputable def Tb (fr st:Int->List Nt->List Nt):Lp:=gT 111 2 (gD4 fr st) fJ
theorem Ww:cV Tryz.prog (NVl (Tb (fun now l=>dV (epP now) l) (fun now l=>dZ (epP now) l)) σ) :=
 gJ jM (fn:=Tryz.f111) (by kernel_rfl) (c:=cB Tryz.f111) (by kernel_rfl) (nt:=28) (by kernel_rfl) (b:=LD) (br (by kernel_rfl)) (TN rfl rfl)
def Xo (lf ls:Nat):SV:=.tup [.c (.vs 8 0 lf 7 false),.c (.vs 9 0 ls 7 false)]
theorem Yd (σ:Sg) (ep:Int->Nt->Bool) (fr st:Int->List Nt->List Nt) (l:List Nt) (now:Int) (q:Nat):pK (Tb fr st) σ (FW ep) 107 noM [.v (.c (.vs 7 0 q 7 false)),.v (.c (.it .i64 now))] [.abs (.notes l)]=.need (decide (q=l.length /\ (q:Int)=(q:Int) /\ l.length<=100000)) (.leaf (stV (Xo (fr now l).length (st now l).length,hpC noM [.abs (.notes l),.abs (.notes (fr now l)),.abs (.notes (st now l))]))):=by kernel_rfl
def dv4 (fr st:Int->List Nt->List Nt) (args:List SV) (ch:List (Chunk AV)):T (SV×List (Chunk AV)×List (Chunk AV)):=match args,ch with
 | [.v (.c (.vs 7 0 q 7 false)),.v (.c (.it .i64 now))],[.abs (.notes l)]=>.need (decide (q=l.length /\ l.length<=100000))
     (.leaf (Xo (fr now l).length (st now l).length,[.abs (.notes l)],[.abs (.notes (fr now l)),.abs (.notes (st now l))]))
 | _,_=>.fail "divide"
theorem TW:FnOk Tryz.prog (NV σ) 107 (kW isS noM (dv4 (fun now l=>dV (epP now) l) (fun now l=>dZ (epP now) l))):=by
 refine gm (N:=NVl (Tb (fun now l=>dV (epP now) l) (fun now l=>dZ (epP now) l)) σ) (N':=NV σ) rfl rfl (jd bR rfl fun args ch v l' nw h hlen ha hC=>?_)
 unfold dv4 at h
 split at h
 ·rename_i q now l
  replace h:=aj h
  obtain⟨hb,h⟩:=h
  obtain⟨rfl,hl⟩:=of_decide_eq_true hb
  simp only [T.val,Option.some.injEq,Prod.mk.injEq] at h
  obtain⟨rfl,rfl,rfl⟩:=h
  have hr:=congrArg T.val (Yd σ epP (fun now l=>dV (epP now) l) (fun now l=>dZ (epP now) l) l now l.length)
  rw [nv (decide_eq_true ⟨rfl,rfl,hl⟩)] at hr
  exact fF Ww (wh (au J0 aJ)) rfl hr (by rintro ⟨⟩)
 ·simp [T.val] at h
end
section
open Go Go.Sx Go.Proofs
set_option maxRecDepth 100000
variable {σ:Sg}
def aI4:ArgK (Int×Int×Int×Int) where
 enc x:=[.v (.c (.it .i64 x.1)),.v (.c (.it .i64 x.2.1)),.v (.c (.it .i64 x.2.2.1)),.v (.c (.it .i64 x.2.2.2))]
 dec:=fun | [.v (.c a),.v (.c b),.v (.c c),.v (.c d)]=>(match iOf a,iOf b,iOf c,iOf d with | some a,some b,some c,some d=>some (a,b,c,d) | _,_,_,_=>none) | _=>none
 ok:=fun l a h ρ=>by
  split at h
  ·split at h
   ·rename_i h0 h1 h2 h3
    cases h
    simp only [List.map_cons,List.map_nil,SV.den,V1.den,bp h0 ρ,bp h1 ρ,bp h2 ρ,bp h3 ρ];rfl
   ·cases h
  ·cases h
 free:=fun _=>rfl
def nC {α:Type} (O:ObK α):SV×List AV×List AV->Option α
 | (.tup [.c (.ptr 7 0),.c .inil],[],[a])=>O.X a
 | _=>none
theorem yi {α:Type} {O:ObK α} {r:SV×List AV×List AV} {j:α} (h:nC O r=some j):r=(.tup [.c (.ptr 7 0),.c .inil],[],[O.V j]):=by
 unfold nC at h
 split at h
 ·rw [O.ok _ _ h]
 ·cases h
def mP {γ α:Type} (A:ArgK γ) (O:ObK α) (ok:γ->Option Bool) (mk:γ->α) (args:List SV) (l:List AV):T (SV×List AV×List AV):=match l with
 | []=>match A.dec args with
   | some x=>xj (ok x) (.leaf (.tup [.c (.ptr 7 0),.c .inil],[],[O.V (mk x)]))
   | none=>.fail "maker"
 | _=>.fail "maker"
theorem mO {tab:Tab} (ht:bO Tryz.prog (NV σ) tab) {f:FuncId} {M:List Bool} (hM:7=M.length) {γ α:Type} {A:ArgK γ} {O:ObK α} {ok:γ->Option Bool} {mk:γ->α}
 (hrun:∀x,okO (ok x)=true->∃args,fy args=true /\ (∀ρ:Nm,args.map (SV.den ρ)=(A.enc x).map (SV.den ρ)) /\ ((gg σ tab f M args []).map (nC O)).val=some (some (mk x))):FnOk Tryz.prog (NV σ) f (aZ isS M (mP A O ok mk)):=by
 refine dQ bR hM fun args l v l' nw h hl hargs=>?_
 unfold mP at h
 split at h
 ·split at h
  ·rename_i x hx
   replace h:=fL h
   obtain⟨hok,h⟩:=h
   simp only [T.val,Option.some.injEq,Prod.mk.injEq] at h
   obtain⟨rfl,rfl,rfl⟩:=h
   obtain⟨args',e2,e3,e4⟩:=hrun x hok
   obtain⟨y,h1,h2⟩:=map_some e4
   have h2:=yi h2
   subst h2
   have hc:=oY ht hM (cW e2) h1
   exact eX hc.1 fun ρ=>by rw [e3 ρ,A.ok _ _ hx ρ]
  ·simp [T.val] at h
 ·simp [T.val] at h
def WR:H9:=⟨wNil,wNil,wNil,wNil,wNil,wNil,wNil,wNil,wNil⟩
def vt (x:Int×Int×Int×Int):RiteM:=⟨aD,0,CN,wNil,wNil,0,[],[],x.1,x.2.1,x.2.2.1,x.2.2.2,WR,⟨false,0,0⟩,[],0,⟨wNil,false⟩⟩
def sq (e me th no:Int):Bool:=orB (decide (e < 1)) (orB (decide (e > 5)) (orB (decide (th < 1)) (orB (decide (th > 6)) (orB (decide (me < 0)) (orB (decide (me>=th)) (orB (decide (no < 1)) (decide (no > 64))))))))
theorem SL (σ:Sg) (e me th no:Int):(gg σ bm 26 noM (aI4.enc (e,me,th,no)) []).map (nC oRite)=.ite (sq e me th no) (.fail "load") (.need true (.leaf (some (vt (e,me,th,no))))):=by kernel_rfl
theorem KP:FnOk Tryz.prog (NV σ) 26 (aZ isS noM (mP aI4 oRite (fun x=>some (!(sq x.1 x.2.1 x.2.2.1 x.2.2.2))) vt)) :=
 mO aJ rfl fun x h=>⟨aI4.enc x,rfl,fun _=>rfl,by
  obtain⟨e,me,th,no⟩:=x
  have h:(!(sq e me th no))=true:=h
  rw [SL]
  cases hb:sq e me th no with
  | true=>rw [hb] at h;cases h
  | false=>rfl⟩
end
section
open Go Go.Sx Go.Proofs
set_option maxRecDepth 100000
variable {σ:Sg} {lp:Lp}
def lD (w:W):Sp:=⟨match !w.mark with | true=>false | false=>true,match !w.mark with | true=>0 | false=>w.num,match !w.mark with | true=>0 | false=>w.tag⟩
end
end Go.Proofs.YtadmfaohjnjajaaGreatDoor

namespace Go.Sx
variable {AV:Type} {P:Program} {N:Env AV}
def sj:Hp AV->Hp AV->Hp AV
 | x::H,y::R=>(match y with | some c=>some c | none=>match x with | some _=>some .dead | none=>none)::sj H R
 | _,R=>R
theorem ue:∀{H R:Hp AV} {m:Nat} {c:Chunk AV},ab (sj H R) m=some c->ab R m=some c \/ c=.dead
 | [],R,m,c,h=>.inl (by simpa [sj] using h)
 | x::H,[],m,c,h=>by simp [sj,ab] at h
 | x::H,y::R,0,c,h=>by
   cases y with
   | some d=>exact .inl h
   | none=>cases x with
     | some d =>
       have h:some (Chunk.dead:Chunk AV)=some c:=h
       cases h;exact .inr rfl
     | none=>cases (h:(none:Option (Chunk AV))=some c)
 | x::H,y::R,m+1,c,h=>ue (H:=H) (R:=R) (m:=m) h
theorem MT (H R:Hp AV):Fl N R (sj H R):=fun ρ w hO=>by
 have src:∀{m c k},ab (sj H R) m=some c->c.fp ρ m k->ab R m=some c:=fun {m c k} h hk=>by
  rcases ue h with h1 | rfl
  ·exact h1
  ·exact hk.elim
 refine⟨ρ,hO.sub ⟨fun m c h=>?_,fun m m' c d hne h h' k hk hk'=>hO.dis m m' c d hne (src h hk) (src h' hk') k hk hk',hO.glb⟩ (fun m c k h hk=>⟨m,c,src h hk,hk⟩),fun _=>rfl,fun m d k h hk=>⟨m,d,src h hk,hk⟩⟩
 rcases ue h with h1 | rfl
 ·exact hO.q m c h1
 ·trivial
def sU:Hp AV->Hp AV->Bool
 | [],_=>true
 | none::H,none::R=>sU H R
 | some _::H,some _::R=>sU H R
 | _,_=>false
theorem jr:∀{H R:Hp AV},sU H R=true->H.length<=R.length /\ (∀m c,ab H m=some c->∃c',ab R m=some c') /\ ∀m,m < H.length->ab H m=none->ab R m=none
 | [],R,_=>⟨Nat.zero_le _,fun m c h=>by cases m<;>simp [ab] at h,fun m h=>by simp at h⟩
 | none::H,none::R,h=>by
   obtain⟨h1,h2,h3⟩:=jr (H:=H) (R:=R) h
   refine⟨Nat.succ_le_succ h1,fun m c hm=>?_,fun m hl hm=>?_⟩
   ·cases m with
    | zero=>cases hm
    | succ m=>exact h2 m c hm
   ·cases m with
    | zero=>rfl
    | succ m=>exact h3 m (Nat.lt_of_succ_lt_succ hl) hm
 | some x::H,some y::R,h=>by
   obtain⟨h1,h2,h3⟩:=jr (H:=H) (R:=R) h
   refine⟨Nat.succ_le_succ h1,fun m c hm=>?_,fun m hl hm=>?_⟩
   ·cases m with
    | zero=>exact⟨y,rfl⟩
    | succ m=>exact h2 m c hm
   ·cases m with
    | zero=>cases hm
    | succ m=>exact h3 m (Nat.lt_of_succ_lt_succ hl) hm
 | none::_,some _::_,h=>by cases h
 | some _::_,none::_,h=>by cases h
 | _::_,[],h=>by rename_i x H;cases x<;>cases h
def RU (view:Hp AV->Nat->T (AV×List Nat)) (lay:AV->Option (Hp AV)) (G:Nat) (s:List SV->Hp AV->T (SV×Hp AV)) (args:List SV) (H:Hp AV):T (SV×Hp AV):=match args with
 | .v (.c (.ptr n o))::_=>match ab H n with
   | some (.cells _ _)=>(view H n).bind fun x=>match sj H (nA n x.2 x.1 0 H) with
     | H1=>match sU H H1,clVs H1 args,clHs H1 H1 with
       | true,true,true=>(s args H1).bind fun r=>match ab r.2 n with
         | some (.abs a)=>match lay a with
           | some (some c::K)=>match kD r.2 n (some c::K) with
             | R=>match Nat.ble G n,sU H R,clV R r.1,clHs R R,clHs r.2 r.2 with
               | true,true,true,true,true=>.leaf (r.1,R)
               | _,_,_,_,_=>.fail "via: behind"
           | _=>.fail "via: no layout"
         | _=>.fail "via: no object"
       | _,_,_=>.fail "via: ahead"
   | _=>s args H
 | _=>s args H
theorem Ob {view:Hp AV->Nat->T (AV×List Nat)} (hview:yG N view) {lay:AV->Option (Hp AV)} (hlay:∀a K l S w,lay a=some K->N.F.q a l S w->iT N K l S w) {G:Nat} (hG:N.G=G) {f:FuncId} {s:List SV->Hp AV->T (SV×Hp AV)} (hs:FnOk P N f s):FnOk P N f (RU view lay G s):=by
 refine FnOk.of fun args H v H' h ha hC=>?_
 unfold RU at h
 split at h
 ·rename_i n o r
  split at h
  ·rename_i l ty hn
   obtain⟨⟨a0,ns⟩,h0,h⟩:=T.bind_some h
   dsimp only at h
   split at h
   ·rename_i b1 b2 b3
    obtain⟨⟨v1,H2⟩,h1,h⟩:=T.bind_some h
    split at h
    ·rename_i a ha2
     split at h
     ·rename_i c K hK
      dsimp only at h
      split at h
      ·rename_i c1 c2 c3 c4 c5
       simp only [T.val,Option.some.injEq,Prod.mk.injEq] at h
       obtain⟨rfl,rfl⟩:=h
       dsimp only at ha2 c2 c3 c4 c5 ⊢
       have hfl:Fl N H (sj H (nA n ns a0 0 H)):=(GX (hview H n a0 ns h0)).trans (MT H _)
       generalize sj H (nA n ns a0 0 H)=H1 at *
       have hopn:Opn N H H1:=fun ρ w hO=>by
        obtain⟨ρ1,o1,e1,f1⟩:=hfl ρ w hO
        exact⟨ρ1,o1,fun m _=>e1 m,f1⟩
       have hc:=hs.ctr h1 (kR.1 b2) ⟨eY.1 b3,trivial⟩
       have ho2:Opn N H2 (kD H2 n (some c::K)):=wY (K:=some c::K) ⟨eY.1 c5,trivial⟩ ha2 ⟨c,rfl⟩ (by rw [hG];exact Nat.le_of_ble_eq_true c1) fun l S w hq=>hlay a _ l S w hK hq
       have hfd:Fld N H2 (kD H2 n (some c::K)):=fun ρ w hO=>by
        obtain⟨ρ1,o1,e1,f1⟩:=ho2 ρ w hO
        exact⟨ρ1,o1,fun m c hm=>e1 m (aX hm),f1⟩
       obtain⟨s1,s2,s3⟩:=jr c2
       exact P7 hopn (jr b1).2.1 hc hfd ha (pB.1 c3) ⟨eY.1 c4,trivial⟩ s2 s3 s1
      ·simp [T.val] at h
     ·simp [T.val] at h
    ·simp [T.val] at h
   ·simp [T.val] at h
  ·exact hs.ctr h ha hC
 ·exact hs.ctr h ha hC
end Go.Sx

namespace Go.Proofs.YtadmfaohjnjajaaGreatDoor
section
open Go Go.Sx Go.Proofs
set_option maxRecDepth 100000
variable {σ:Sg} {lp:Lp}
noncomputable def fO (p:Prop):Bool:=@decide p (Classical.propDecidable p)
theorem fN {p:Prop} (h:p):fO p=true:=@decide_eq_true p (Classical.propDecidable p) h
theorem eU {p:Prop} (h:fO p=true):p:=@of_decide_eq_true p (Classical.propDecidable p) h
noncomputable def wI (lp:Lp) (σ:Sg) (tab:Tab) (f:FuncId) (M:List Bool) (args:List SV) (l:List AV) (K:Hp AV):T (SV×List AV×List AV) :=
 match kD (hpO M l) M.length K with
 | H=>match Q.clVs H args,Q.clHs H H with
   | true,true=>(Q.bind (Q.lv (NVl lp σ) tab 24 (.fn f) args H) (uh (vO σ) isS M l.length [M.length])).map Lx
   | _,_=>.fail "run: names"
theorem rq (hlp:cV Tryz.prog (NVl lp σ)) {tab:Tab} (ht:bO Tryz.prog (NVl lp σ) tab) {f:FuncId} {M:List Bool} (hM:7=M.length) {args:List SV} {a:AV} {l:List AV} {K:Hp AV} (hK0:∃c,ab K 0=some c) (hKq:∀l S w,(NVl lp σ).F.q a l S w->iT (NVl lp σ) K l S w) {v:SV} {l' nw:List AV}
 (hargs:∀x∈args,ClV (hpO M (a::l)) x) (h:(wI lp σ tab f M args (a::l) K).val=some (v,l',nw)):Ctr Tryz.prog (NVl lp σ) f args (hpO M (a::l)) v (hpO M (l'++nw)) /\ l'.length=(a::l).length:=by
 unfold wI at h
 dsimp only at h
 split at h
 ·rename_i h1 h2
  rw [Q.clVs_eq] at h1
  rw [Q.clHs_eq] at h2
  obtain⟨v0,rfl,h0⟩:=vu h
  rw [Q.bind_eq,Q.lv_eq] at h0
  obtain⟨⟨v1,H2⟩,hr,hc⟩:=T.bind_some h0
  have hn:ab (hpO M (a::l)) M.length=some (.abs a):=by
   unfold hpO
   rw [aH,dv,if_neg (by omega),Nat.sub_self]
   rfl
  have hopn:Opn (NVl lp σ) (hpO M (a::l)) (kD (hpO M (a::l)) M.length K):=wY ⟨(tQ (σ:=σ) M _).1,trivial⟩ hn hK0 (by show 7<=M.length;omega) hKq
  have hctr:=(PT hlp ht 24 f).ctr hr (kR.1 h1) ⟨eY.1 h2,trivial⟩
  refine(fun x=>⟨vC x.1,x.2⟩) (pz (N:=NVl lp σ) (nH rfl) bR hM hargs hopn (fun m c h=>?_) hctr hc)
  have hlt:=aX hn
  have h:ab (hpO M (a::l)) m=some c:=h
  rw [tU hlt (by rintro rfl;obtain⟨c,hc⟩:=hK0;cases hc)]
  by_cases e:m=M.length
  ·obtain⟨c0,hc0⟩:=hK0
   rw [if_pos e,hc0];exact⟨_,rfl⟩
  ·rw [if_neg e,if_pos (aX h)];exact⟨c,h⟩
 ·simp [T.val] at h
noncomputable def uz (lp:Lp) (σ:Sg) (tab:Tab) (f:FuncId) (M:List Bool) (args:List SV) (a:AV) (ty:TypeId) (gs:Gs) (l:List AV):T (SV×List AV×List AV) :=
 wI lp σ tab f M (.v (.c (.ptr 7 0))::args) (a::l) (dw AV.len ty gs)
theorem Cv (hlp:cV Tryz.prog (NVl lp σ)) {tab:Tab} (ht:bO Tryz.prog (NVl lp σ) tab) {f:FuncId} {M:List Bool} (hM:7=M.length) {args:List SV} {a:AV} {ty:TypeId} {gs:Gs} {l:List AV} (ho:a.okD=true) (hl:j5 σ a=some (dw AV.len ty (eO gs))) {v:SV} {l' nw:List AV}
 (hargs:∀x∈args,ClV (hpO M (a::l)) x) (h:(uz lp σ tab f M args a ty gs l).val=some (v,l',nw)) :
 Ctr Tryz.prog (NVl lp σ) f (.v (.c (.ptr 7 0))::args) (hpO M (a::l)) v (hpO M (l'++nw)) /\ l'.length=l.length+1 :=
 rq hlp ht hM (a:=a) (K:=dw AV.len ty gs) ⟨_,rfl⟩ (fun L S w hq=>rD ((nU (N:=NVl lp σ) rfl hl ho L S w).1 hq)) (fun x hx=>by
  rcases List.mem_cons.1 hx with rfl | hx
  ·exact Bg hM
  ·exact hargs x hx) h
theorem oG {f:FuncId} {args:List SV} {H H':Hp AV} {v:SV} (h:Ctr Tryz.prog (NVl lp σ) f args H v H'):Ctr Tryz.prog (NV σ) f args H v H':=by
 obtain⟨h1,h2,h3⟩:=h
 refine⟨h1,⟨h2.1,trivial⟩,fun ρ w hO=>(h3 ρ w (je (N:=NV σ) (N':=NVl lp σ) rfl rfl hO)).mono ?_⟩
 rintro e w' ⟨ρ',he,o,ev⟩
 exact⟨ρ',he,je (N:=NVl lp σ) (N':=NV σ) rfl rfl o,rY (NV σ) ev⟩
def GF {γ α:Type} (A:ArgK γ) (O:ObK α) (ok:α->γ->Option Bool) (next:α->γ->SV×α×List AV) (args:List SV) (l:List AV):T (SV×List AV×List AV):=match args,l with
 | .v (.c (.ptr 7 0))::r,[a]=>match A.dec r,O.X a with
   | some x,some j=>xj (ok j x) (.leaf ((next j x).1,[O.V (next j x).2.1],(next j x).2.2))
   | _,_=>.fail "method"
 | _,_=>.fail "method"
theorem LS {f:FuncId} {M:List Bool} (hM:7=M.length) {γ α:Type} {A:ArgK γ} {O:ObK α} {ok:α->γ->Option Bool} {next:α->γ->SV×α×List AV}
 (hrun:∀j x,okO (ok j x)=true->∃lp tab ty gs args,cV Tryz.prog (NVl lp σ) /\ bO Tryz.prog (NV σ) tab /\ j5 σ (O.V j)=some (dw AV.len ty (eO gs)) /\ fy args=true /\ (∀ρ:Nm,args.map (SV.den ρ)=(A.enc x).map (SV.den ρ)) /\
   (uz lp σ tab f M args (O.V j) ty gs []).val=some ((next j x).1,[O.V (next j x).2.1],(next j x).2.2)) :
 FnOk Tryz.prog (NV σ) f (aZ isS M (GF A O ok next)):=by
 refine dQ bR hM fun args l v l' nw h hl hargs=>?_
 unfold GF at h
 split at h
 ·rename_i r a
  split at h
  ·rename_i x j hx hj
   replace h:=fL h
   obtain⟨hok,h⟩:=h
   simp only [T.val,Option.some.injEq,Prod.mk.injEq] at h
   obtain⟨rfl,rfl,rfl⟩:=h
   have ea:=O.ok _ _ hj
   subst ea
   obtain⟨lp,tab,ty,gs,args',e0,e00,e1,e2,e3,e4⟩:=hrun j x hok
   have hc:=Cv e0 (wh e00) hM (O.okD j) e1 (cW e2) e4
   exact eX (oG hc.1) fun ρ=>by
    simp only [List.map_cons]
    rw [e3 ρ,A.ok _ _ hx ρ]
  ·simp [T.val] at h
 ·simp [T.val] at h
def Ti (σ:Sg) (a:AV):Option (Hp AV):=match AV.okD a with | true=>j5 σ a | false=>none
theorem Pt (a:AV) (K:Hp AV) (l:Sx.Loc) (S:Nat->Prop) (w:World) (h:Ti σ a=some K) (hq:(NV σ).F.q a l S w):iT (NV σ) K l S w:=by
 unfold Ti at h
 split at h
 ·rename_i ho
  exact(nU (N:=NV σ) rfl h ho l S w).1 hq
 ·cases h
noncomputable def Jv (σ:Sg) (s:List SV->Hp AV->T (SV×Hp AV)):List SV->Hp AV->T (SV×Hp AV):=RU (vO σ) (Ti σ) 7 s
theorem AQ {f:FuncId} {s:List SV->Hp AV->T (SV×Hp AV)} (h:FnOk Tryz.prog (NV σ) f s):FnOk Tryz.prog (NV σ) f (Jv σ s):=Ob (N:=NV σ) (nH rfl) Pt rfl h
structure MC (β:Type) where
 k:Nat
 r:List β
def goC {α β:Type} (x:Nat) (f:α->β) (m:MC β):List α->Ex×MC β
 | []=>(.exit x,m)
 | a::_=>(.normal,⟨m.k+1,m.r++[f a]⟩)
def q8 {α β:Type} (x:Nat) (f:α->β) (l:List α) (m:MC β):T (Ex×MC β):=.need (decide (m.k<=l.length /\ m.r.length=m.k)) (.leaf (goC x f m (l.drop m.k)))
theorem Mx {α β:Type} {x:Nat} {f:α->β} {l:List α}:∀(r:List α) (k:Nat) (s:List β),l.drop k=r->k+r.length=l.length->s.length=k->dj (q8 x f l) (r.length+1) ⟨k,s⟩=some (.exit x,⟨l.length,s++r.map f⟩):=by
 intro r
 induction r with
 | nil =>
   intro k s hr hk hs
   rw [List.length_nil,dj,q8,nv (decide_eq_true ⟨by simp only [List.length_nil] at hk;show k<=_;omega,hs⟩)]
   simp only [T.val,hr,goC,List.map_nil,List.append_nil]
   simp only [List.length_nil,Nat.add_zero] at hk
   rw [hk]
 | cons a r ih =>
   intro k s hr hk hs
   have hr2:l.drop (k+1)=r:=by
    rw [show l.drop (k+1)=(l.drop k).drop 1 by rw [List.drop_drop],hr];rfl
   rw [List.length_cons] at hk
   rw [List.length_cons,dj,q8,nv (decide_eq_true ⟨by show k<=_;omega,hs⟩)]
   simp only [T.val,hr,goC]
   rw [ih (k+1) (s++[f a]) hr2 (by omega) (by rw [List.length_append,hs];rfl)]
   simp only [List.map_cons,List.append_assoc,List.singleton_append]
end
section
open Go Go.Sx Go.Proofs
set_option maxRecDepth 100000
variable {σ:Sg} {lp:Lp}
def hpE (e:Int) (m:RiteM):Hp AV:=kD (hpO noM [dR m]) 7 (dw AV.len cL (bE 46 (RiteM.wr {m with engine:=e})))
def EI (w:W):N1:=⟨w.num⟩
def Ml:List Nat:=[2,3,10,11,12]
noncomputable def LS5:Code:=fv 3 (bx (cB Tryz.f91))
noncomputable def Dj (m:RiteM) (i:Int) (r:List Sp) (lr:Nat):St AV :=
 {E:=only Ml [(2,.v (.c .snil)),(3,.v (.c (.vs 11 0 lr 3 false))),(10,.v (.c (.vs 8 0 m.seen.length 5 false))),(11,.v (.c (.it .i64 m.seen.length))),(12,.v (.c (.it .i64 i)))] 23,H:=(hpE 5 m)++[some (.abs (.spans r))]}
def Er (σ:Sg) (n:Nat) (l:List Sp):Bool:=decide (n=Intf.len (F6 σ) (AV.spans l) /\ (n+1) * (SI.bytes Gh+1)<=lim)
theorem rS5 (σ:Sg) (m:RiteM) (i:Int) (r:List Sp) (lr:Nat):(xc (NV σ) (aN (lv (NV σ) bm 5)) (fun _=>none) 23 LS5 (Dj m i r lr)).bind (cM 11 23 Ml cP) =
 .ite (decide (i < (m.seen.length:Int))) (.need (decide (0<=i /\ i < (m.seen.length:Int))) (.need (decide (0+i.toNat < m.seen.length)) (.need (Er σ lr r) (.leaf (.normal,Dj m (IntKind.wrap .i64 (i+1)) (r++[lD (m.seen.getD (0+i.toNat) kwords.dflt)]) (lr+1)))))) (.leaf (.exit 0,Dj m i r lr)):=by kernel_rfl
theorem HR {n:Nat} {l:List Sp} (h:n=l.length) (hn:l.length<=100000):Er σ n l=true:=by
 unfold Er
 subst h
 exact decide_eq_true ⟨rfl,Nat.le_trans (Nat.mul_le_mul_right _ (Nat.succ_le_succ hn)) (by decide)⟩
noncomputable def yb (m:RiteM) (c:MC Sp):St AV:=Dj m c.k c.r c.r.length
theorem D9 (σ:Sg) (m:RiteM) (hm:m.seen.length<=100000) (c:MC Sp) (r:Ex×MC Sp) (h:(q8 0 lD m.seen c).val=some r) :
 ((xc (NV σ) (aN (lv (NV σ) bm 5)) (fun _=>none) 23 LS5 (yb m c)).bind (cM 11 23 Ml cP)).val=some (r.1,yb m r.2):=by
 replace h:=aj h
 obtain⟨hb,h⟩:=h
 obtain⟨h1,h2⟩:=of_decide_eq_true hb
 simp only [T.val,Option.some.injEq] at h
 subst h
 obtain⟨k,s⟩:=c
 simp only at h1 h2
 have e1:0+(k:Int).toNat=k:=by omega
 have hw:IntKind.wrap .i64 ((k:Int)+1)=((k+1:Nat):Int):=gM (by omega)
 dsimp only [yb]
 rw [rS5]
 by_cases hlt:k < m.seen.length
 ·rw [ivT (decide_eq_true (by show (k:Int) < _;omega)),nv (decide_eq_true (by omega)),nv (decide_eq_true (by omega)),nv (HR rfl (by omega)),hw,dx kwords.dflt hlt,e1]
  simp only [goC,T.val,List.length_append,List.length_cons,List.length_nil]
 ·rw [ivF (decide_eq_false (by show ¬(k:Int) < _;omega)),List.drop_eq_nil_of_le (by omega)]
  rfl
def Xi (m:RiteM) (s:St AV):Prop:=Sx.look s.E 2=.v (.c .snil) /\ Sx.look s.E 3=.v (.c .snil) /\ Sx.look s.E 10=.v (.c (.vs 8 0 m.seen.length 5 false)) /\ Sx.look s.E 11=.v (.c (.it .i64 m.seen.length)) /\ Sx.look s.E 12=.v (.c (.il .i64 0)) /\ s.H=(hpE 5 m)
noncomputable def gS5 (sp:List Sp) (m:RiteM) (s:St AV):T (Ex×St AV):=.need (fO (Xi m s)) (.leaf (.exit 0,Dj m m.seen.length sp sp.length))
theorem TL {N':Env AV} (hF:N'.F=(NV σ).F) (hG:N'.G=(NV σ).G) (m:RiteM) (hm:m.seen.length<=100000):dG Tryz.prog N' 23 LS5 (gS5 (m.seen.map lD) m):=by
 have hcal:dM Tryz.prog (NV σ) (aN (lv (NV σ) bm 5)):=bK (iH okV oq hvV aJ 5)
 refine cJ (N:=NV σ) hF hG okV hcal (lp:=fun _=>none) (fun _ _ _ g hg=>by cases hg) fun s s' ex hgs=>?_
 obtain⟨E1,H1⟩:=s
 unfold gS5 at hgs
 replace hgs:=aj hgs
 obtain⟨hb,hgs⟩:=hgs
 obtain⟨e2,e3,e10,e11,e12,eH⟩:=eU hb
 simp only at e2 e3 e10 e11 e12 eH
 subst eH
 simp only [T.val,Option.some.injEq,Prod.mk.injEq] at hgs
 obtain⟨rfl,rfl⟩:=hgs
 refine⟨{M:=MC Sp,fam:=yb m,step:=q8 0 lD m.seen,ks:=Ml,pk:=cP,hpk:=(fun d a h=>by cases h),L:=11,len:=rfl,hGL:=(by show 7<=11;decide),run:=D9 σ m hm,m:=⟨0,[]⟩,k:=_,m':=_,ent:=?_,it:=Mx m.seen 0 [] rfl (Nat.zero_add _) rfl,fin:=?_}⟩
 ·refine eT (N:=NV σ) (s:=⟨E1,_⟩) (l:=[.spans []]) (fun a ha=>⟨3,kspans.ty,by simp only [List.mem_cons,List.not_mem_nil,or_false] at ha;rw [ha];rfl⟩) (by show 7<=11;decide) fun k hk=>?_
  simp only [Ml,List.mem_cons,List.not_mem_nil,or_false] at hk
  rcases hk with rfl | rfl | rfl | rfl | rfl
  ·exact .inl e2.symm
  ·exact .inr (.inr ⟨e3,0,3,by decide,rfl⟩)
  ·exact .inl e10.symm
  ·exact .inl e11.symm
  ·exact .inr (.inl ⟨by show Sx.look E1 12≠_;rw [e12];rintro ⟨⟩,pL _,fun ρ=>by show _=(Sx.look E1 12).den ρ;rw [e12];rfl⟩)
 ·simp only [List.nil_append,yb]
noncomputable def WB (sp:List Sp) (m:RiteM) (lp:Lp):Lp:=gT 91 3 (gS5 sp m) lp
theorem Wr {lp:Lp} (h:cV Tryz.prog (NVl lp σ)) (m:RiteM) (hm:m.seen.length<=100000):cV Tryz.prog (NVl (WB (m.seen.map lD) m lp) σ) :=
 gJ h (fn:=Tryz.f91) (by kernel_rfl) (c:=cB Tryz.f91) (by kernel_rfl) (nt:=23) (by kernel_rfl) (b:=LS5) (br (by kernel_rfl)) (TL (σ:=σ) (N':=NVl lp σ) rfl rfl m hm)
def MZ (m:RiteM):Prop:=SV.v (.c .snil)=.v (.c .snil) /\ SV.v (.c .snil)=.v (.c .snil) /\ SV.v (.c (.vs 8 0 m.seen.length 5 false))=.v (.c (.vs 8 0 m.seen.length 5 false)) /\ SV.v (.c (.it .i64 m.seen.length))=.v (.c (.it .i64 m.seen.length)) /\ SV.v (.c (.il .i64 0))=.v (.c (.il .i64 0)) /\ (hpE 5 m)=(hpE 5 m)
theorem MY (m:RiteM):fO (MZ m)=true:=fN ⟨rfl,rfl,rfl,rfl,rfl,rfl⟩
def Mm:List Nat:=[0,2,5,6,30,31,32,34,35,36]
noncomputable def LS3:Code:=fv 6 (bx (cB Tryz.f89))
noncomputable def Dl (m:RiteM) (i:Int) (r:List N1) (lr:Nat):St AV :=
 {E:=only Mm [(0,.v (.c (.ptr 7 0))),(2,.v (.c (.vs 11 0 lr 1 false))),(5,.v (.c (.ptr 7 0))),(6,.v (.c (.ptr 7 0))),(30,.v (.c (.ptr 7 0))),(31,.v (.c (.ptr 7 0))),(32,.v (.c (.ptr 7 0))),(34,.v (.c (.vs 8 0 m.seen.length 5 false))),(35,.v (.c (.it .i64 m.seen.length))),(36,.v (.c (.it .i64 i)))] 97,H:=(hpE 3 m)++[some (.abs (.ints r))]}
def Es (σ:Sg) (n:Nat) (l:List N1):Bool:=decide (n=Intf.len (F6 σ) (AV.ints l) /\ (n+1) * (SI.bytes Cr+1)<=lim)
theorem rS3 (σ:Sg) (m:RiteM) (i:Int) (r:List N1) (lr:Nat):(xc (NV σ) (aN (lv (NV σ) bm 5)) (fun _=>none) 97 LS3 (Dl m i r lr)).bind (cM 11 97 Mm cP) =
 .ite (decide (i < (m.seen.length:Int))) (.need (decide (0<=i /\ i < (m.seen.length:Int))) (.need (decide (0+i.toNat < m.seen.length)) (.need (Es σ lr r) (.leaf (.normal,Dl m (IntKind.wrap .i64 (i+1)) (r++[EI (m.seen.getD (0+i.toNat) kwords.dflt)]) (lr+1)))))) (.leaf (.exit 1,Dl m i r lr)):=by kernel_rfl
theorem HS {n:Nat} {l:List N1} (h:n=l.length) (hn:l.length<=100000):Es σ n l=true:=by
 unfold Es
 subst h
 exact decide_eq_true ⟨rfl,Nat.le_trans (Nat.mul_le_mul_right _ (Nat.succ_le_succ hn)) (by decide)⟩
noncomputable def yc (m:RiteM) (c:MC N1):St AV:=Dl m c.k c.r c.r.length
theorem Ea (σ:Sg) (m:RiteM) (hm:m.seen.length<=100000) (c:MC N1) (r:Ex×MC N1) (h:(q8 1 EI m.seen c).val=some r) :
 ((xc (NV σ) (aN (lv (NV σ) bm 5)) (fun _=>none) 97 LS3 (yc m c)).bind (cM 11 97 Mm cP)).val=some (r.1,yc m r.2):=by
 replace h:=aj h
 obtain⟨hb,h⟩:=h
 obtain⟨h1,h2⟩:=of_decide_eq_true hb
 simp only [T.val,Option.some.injEq] at h
 subst h
 obtain⟨k,s⟩:=c
 simp only at h1 h2
 have e1:0+(k:Int).toNat=k:=by omega
 have hw:IntKind.wrap .i64 ((k:Int)+1)=((k+1:Nat):Int):=gM (by omega)
 dsimp only [yc]
 rw [rS3]
 by_cases hlt:k < m.seen.length
 ·rw [ivT (decide_eq_true (by show (k:Int) < _;omega)),nv (decide_eq_true (by omega)),nv (decide_eq_true (by omega)),nv (HS rfl (by omega)),hw,dx kwords.dflt hlt,e1]
  simp only [goC,T.val,List.length_append,List.length_cons,List.length_nil]
 ·rw [ivF (decide_eq_false (by show ¬(k:Int) < _;omega)),List.drop_eq_nil_of_le (by omega)]
  rfl
def Xj (m:RiteM) (s:St AV):Prop:=Sx.look s.E 0=.v (.c (.ptr 7 0)) /\ Sx.look s.E 2=.v (.c .snil) /\ Sx.look s.E 5=.v (.c (.ptr 7 0)) /\ Sx.look s.E 6=.v (.c (.ptr 7 0)) /\ Sx.look s.E 30=.v (.c (.ptr 7 0)) /\ Sx.look s.E 31=.v (.c (.ptr 7 0)) /\ Sx.look s.E 32=.v (.c (.ptr 7 0)) /\ Sx.look s.E 34=.v (.c (.vs 8 0 m.seen.length 5 false)) /\ Sx.look s.E 35=.v (.c (.it .i64 m.seen.length)) /\ Sx.look s.E 36=.v (.c (.il .i64 0)) /\ s.H=(hpE 3 m)
noncomputable def gS3 (sp:List N1) (m:RiteM) (s:St AV):T (Ex×St AV):=.need (fO (Xj m s)) (.leaf (.exit 1,Dl m m.seen.length sp sp.length))
theorem TM {N':Env AV} (hF:N'.F=(NV σ).F) (hG:N'.G=(NV σ).G) (m:RiteM) (hm:m.seen.length<=100000):dG Tryz.prog N' 97 LS3 (gS3 (m.seen.map EI) m):=by
 have hcal:dM Tryz.prog (NV σ) (aN (lv (NV σ) bm 5)):=bK (iH okV oq hvV aJ 5)
 refine cJ (N:=NV σ) hF hG okV hcal (lp:=fun _=>none) (fun _ _ _ g hg=>by cases hg) fun s s' ex hgs=>?_
 obtain⟨E1,H1⟩:=s
 unfold gS3 at hgs
 replace hgs:=aj hgs
 obtain⟨hb,hgs⟩:=hgs
 obtain⟨e0,e2,e5,e6,e30,e31,e32,e34,e35,e36,eH⟩:=eU hb
 simp only at e0 e2 e5 e6 e30 e31 e32 e34 e35 e36 eH
 subst eH
 simp only [T.val,Option.some.injEq,Prod.mk.injEq] at hgs
 obtain⟨rfl,rfl⟩:=hgs
 refine⟨{M:=MC N1,fam:=yc m,step:=q8 1 EI m.seen,ks:=Mm,pk:=cP,hpk:=(fun d a h=>by cases h),L:=11,len:=rfl,hGL:=(by show 7<=11;decide),run:=Ea σ m hm,m:=⟨0,[]⟩,k:=_,m':=_,ent:=?_,it:=Mx m.seen 0 [] rfl (Nat.zero_add _) rfl,fin:=?_}⟩
 ·refine eT (N:=NV σ) (s:=⟨E1,_⟩) (l:=[.ints []]) (fun a ha=>⟨1,kints.ty,by simp only [List.mem_cons,List.not_mem_nil,or_false] at ha;rw [ha];rfl⟩) (by show 7<=11;decide) fun k hk=>?_
  simp only [Mm,List.mem_cons,List.not_mem_nil,or_false] at hk
  rcases hk with rfl | rfl | rfl | rfl | rfl | rfl | rfl | rfl | rfl | rfl
  ·exact .inl e0.symm
  ·exact .inr (.inr ⟨e2,0,1,by decide,rfl⟩)
  ·exact .inl e5.symm
  ·exact .inl e6.symm
  ·exact .inl e30.symm
  ·exact .inl e31.symm
  ·exact .inl e32.symm
  ·exact .inl e34.symm
  ·exact .inl e35.symm
  ·exact .inr (.inl ⟨by show Sx.look E1 36≠_;rw [e36];rintro ⟨⟩,pL _,fun ρ=>by show _=(Sx.look E1 36).den ρ;rw [e36];rfl⟩)
 ·simp only [List.nil_append,yc]
noncomputable def WC (sp:List N1) (m:RiteM) (lp:Lp):Lp:=gT 89 6 (gS3 sp m) lp
theorem Ws {lp:Lp} (h:cV Tryz.prog (NVl lp σ)) (m:RiteM) (hm:m.seen.length<=100000):cV Tryz.prog (NVl (WC (m.seen.map EI) m lp) σ) :=
 gJ h (fn:=Tryz.f89) (by kernel_rfl) (c:=cB Tryz.f89) (by kernel_rfl) (nt:=97) (by kernel_rfl) (b:=LS3) (br (by kernel_rfl)) (TM (σ:=σ) (N':=NVl lp σ) rfl rfl m hm)
def M1 (m:RiteM):Prop:=SV.v (.c (.ptr 7 0))=.v (.c (.ptr 7 0)) /\ SV.v (.c .snil)=.v (.c .snil) /\ SV.v (.c (.ptr 7 0))=.v (.c (.ptr 7 0)) /\ SV.v (.c (.ptr 7 0))=.v (.c (.ptr 7 0)) /\ SV.v (.c (.ptr 7 0))=.v (.c (.ptr 7 0)) /\ SV.v (.c (.ptr 7 0))=.v (.c (.ptr 7 0)) /\ SV.v (.c (.ptr 7 0))=.v (.c (.ptr 7 0)) /\ SV.v (.c (.vs 8 0 m.seen.length 5 false))=.v (.c (.vs 8 0 m.seen.length 5 false)) /\ SV.v (.c (.it .i64 m.seen.length))=.v (.c (.it .i64 m.seen.length)) /\ SV.v (.c (.il .i64 0))=.v (.c (.il .i64 0)) /\ (hpE 3 m)=(hpE 3 m)
theorem M0 (m:RiteM):fO (M1 m)=true:=fN ⟨rfl,rfl,rfl,rfl,rfl,rfl,rfl,rfl,rfl,rfl,rfl⟩
end
section
open Go Go.Sx Go.Proofs
set_option maxRecDepth 100000
variable {σ:Sg} {lp:Lp}
noncomputable def Cb (f1 s1:List W->List Nt->List Nt) (f2 s2:List N1->List Nt->List Nt) (f3 s3:List Sp->List Nt->List Nt) (f4 s4:Int->List Nt->List Nt):Tab:=aQ 104 (kW isS noM (dv1 f1 s1)) (aQ 105 (kW isS noM (dv2 f2 s2)) (aQ 106 (kW isS noM (dv3 f3 s3)) (aQ 107 (kW isS noM (dv4 f4 s4)) bm)))
def fr1 (kept:List W) (l:List Nt):List Nt:=dV (fun n=>kept.any (ca n)) l
def fr2 (kept:List N1) (l:List Nt):List Nt:=dV (fun n=>kept.any (eR n)) l
def fr3 (kept:List Sp) (l:List Nt):List Nt:=dV (fun n=>kept.any (b9 n)) l
def fr4 (now:Int) (l:List Nt):List Nt:=dV (epP now) l
noncomputable def we:Tab:=Cb fr1 (fun kept l=>dZ (fun n=>kept.any (ca n)) l) fr2 (fun kept l=>dZ (fun n=>kept.any (eR n)) l) fr3 (fun kept l=>dZ (fun n=>kept.any (b9 n)) l) fr4 (fun now l=>dZ (epP now) l)
theorem oS:bO Tryz.prog (NV σ) we:=au TZ (au TY (au TX (au TW aJ)))
def IQ:SV×List AV×List AV->Option (SV×RiteM×List AV)
 | (v,[a],nw)=>match zf a with | some m=>some (v,m,nw) | none=>none
 | _=>none
theorem pt {r:SV×List AV×List AV} {v:SV} {m:RiteM} {nw:List AV} (h:IQ r=some (v,m,nw)):r=(v,[dR m],nw):=by
 unfold IQ at h
 split at h
 ·split at h
  ·rename_i hm
   cases h
   rw [vm hm]
  ·cases h
 ·cases h
def tS (r:RT):T (Option (SV×RiteM×List AV)):=.need (rS r) (.leaf (some (.tup [],r.m,[])))
def KU (x:Nt):W:=⟨x.slot,x.gen,x.tag,x.num,x.mark⟩
section
variable {β:Type} (I:Bool->β->β->β) (N:Bool->β->β) (L:RT->β)
def lu (r:RT):β:=I ((r.ld:Int)==0) (ju L r) (N (decide ((0:Int)<=0 /\ 0 < (r.ld:Int))) (N (decide (0 < r.m.doomed.length)) (L (iF 16 ⟨5,0,0,0,KU (r.m.doomed.getD 0 knotes.dflt),wNil⟩ r))))
end
def pX (l:List Nt) (r:RT):RT:={r with m:={r.m with doomed:=l},ld:=l.length}
theorem sf2 (σ:Sg) (f1 s1:List W->List Nt->List Nt) (f2 s2:List N1->List Nt->List Nt) (f3 s3:List Sp->List Nt->List Nt) (f4 s4:Int->List Nt->List Nt) (m:RiteM):(uz fJ σ (Cb f1 s1 f2 s2 f3 s3 f4 s4) 89 noM [] (dR {m with engine:=2}) cL (bE 46 (RiteM.wr {m with engine:=2})) []).map IQ =
 .need (decide (m.notes.length=m.notes.length /\ m.seen.length=m.seen.length /\ m.seen.length<=100000 /\ m.notes.length<=100000)) (lu tI tN tS (pX (f1 m.seen m.notes) (rOf {m with engine:=2}))):=by kernel_rfl
theorem sf3 (σ:Sg) (sp:List N1) (f1 s1:List W->List Nt->List Nt) (f2 s2:List N1->List Nt->List Nt) (f3 s3:List Sp->List Nt->List Nt) (f4 s4:Int->List Nt->List Nt) (m:RiteM):(uz (WC sp m fJ) σ (Cb f1 s1 f2 s2 f3 s3 f4 s4) 89 noM [] (dR {m with engine:=3}) cL (bE 46 (RiteM.wr {m with engine:=3})) []).map IQ =
 .need (fO (M1 m)) (.need (decide (m.notes.length=m.notes.length /\ sp.length=sp.length /\ sp.length<=100000 /\ m.notes.length<=100000)) (lu tI tN tS (pX (f2 sp m.notes) (rOf {m with engine:=3})))):=by kernel_rfl
theorem sf4 (σ:Sg) (f1 s1:List W->List Nt->List Nt) (f2 s2:List N1->List Nt->List Nt) (f3 s3:List Sp->List Nt->List Nt) (f4 s4:Int->List Nt->List Nt) (m:RiteM):(uz fJ σ (Cb f1 s1 f2 s2 f3 s3 f4 s4) 89 noM [] (dR {m with engine:=4}) cL (bE 46 (RiteM.wr {m with engine:=4})) []).map IQ =
 .need (decide (m.notes.length=m.notes.length /\ m.notes.length<=100000)) (lu tI tN tS (pX (f4 m.clock.num m.notes) (rOf {m with engine:=4}))):=by kernel_rfl
def Nv (gs:Gs):List Cell:=(dE AV.len 1 gs).map (Cell.ren (opn 7 8))
theorem sf5 (σ:Sg) (sp:List Sp) (f1 s1:List W->List Nt->List Nt) (f2 s2:List N1->List Nt->List Nt) (f3 s3:List Sp->List Nt->List Nt) (f4 s4:Int->List Nt->List Nt) (m:RiteM):(uz (WB sp m fJ) σ (Cb f1 s1 f2 s2 f3 s3 f4 s4) 89 noM [] (dR {m with engine:=5}) cL (bE 46 (RiteM.wr {m with engine:=5})) []).map IQ =
 .need (fO (MZ m)) (.need (iO (Nv (bE 46 (RiteM.wr {m with engine:=5}))) cL (Nv (bE 46 (RiteM.wr {m with engine:=5}))) cL) (.need (decide (m.notes.length=m.notes.length /\ sp.length=sp.length /\ sp.length<=100000 /\ m.notes.length<=100000)) (lu tI tN tS (pX (f3 sp m.notes) (rOf {m with engine:=5}))))):=by kernel_rfl
def G5 (m:RiteM):List Nt:=if m.engine=2 then fr1 m.seen m.notes else if m.engine=3 then fr2 (m.seen.map EI) m.notes else if m.engine=4 then fr4 m.clock.num m.notes else fr3 (m.seen.map lD) m.notes
def uB (r:RT):RiteM:=lu cond (fun _ t=>t) RT.m r
def kA (m:RiteM):RiteM:=uB (pX (G5 m) (rOf m))
theorem vS {r:RT} (h:eD r):(tS r).val=some (some (.tup [],r.m,[])):=by
 unfold tS
 rw [vA h.1 h.2.1 h.2.2]
 rfl
theorem FM {r:RT} (h:eD r):(lu tI tN tS r).val=some (some (.tup [],uB r,[])):=by
 unfold lu uB lu
 by_cases h0:r.m.doomed.length=0
 ·have e:((r.ld:Int)==0)=true:=by rw [h.2.1,h0];rfl
  rw [e]
  exact vS (r:=eM ⟨wNil,true⟩ r) (kK h)
 ·have e:((r.ld:Int)==0)=false:=by rw [h.2.1];simp only [beq_eq_false_iff_ne];omega
  rw [e]
  show (T.need _ (T.need _ (tS (iF 16 _ r)))).val=_
  rw [nv (decide_eq_true ⟨Int.le_refl 0,by rw [h.2.1];omega⟩),nv (decide_eq_true (by omega))]
  exact vS (r:=iF 16 _ r) h
def Ll (m:RiteM):Bool:=decide (2<=m.engine /\ m.engine<=5 /\ m.seen.length<=100000 /\ m.notes.length<=100000)
theorem OG:FnOk Tryz.prog (NV σ) 89 (aZ isS noM (GF aNo oRite (fun m _=>some (Ll m)) fun m _=>(.tup [],kA m,[]))) :=
 LS rfl fun m x h=>by
  obtain⟨h1,h2,h3,h4⟩:=of_decide_eq_true (h:Ll m=true)
  obtain⟨cl,st,acc,wd,clk,ix,seen,doomed,e,me,thr,mst,holds,span,notes,freed,reply⟩:=m
  dsimp only at h1 h2 h3 h4
  have he:e=2 \/ e=3 \/ e=4 \/ e=5:=by omega
  clear h h1 h2
  rcases he with rfl | rfl | rfl | rfl
  ·refine⟨fJ,we,cL,bE 46 (RiteM.wr ⟨cl,st,acc,wd,clk,ix,seen,doomed,2,me,thr,mst,holds,span,notes,freed,reply⟩),[],jM,oS,rfl,rfl,fun _=>rfl,?_⟩
   obtain⟨r,e1,e2⟩:=map_some ((congrArg T.val (sf2 σ fr1 _ fr2 _ fr3 _ fr4 _ ⟨cl,st,acc,wd,clk,ix,seen,doomed,2,me,thr,mst,holds,span,notes,freed,reply⟩)).trans ((nv (decide_eq_true ⟨rfl,rfl,h3,h4⟩)).trans (FM (r:=pX _ (rOf _)) ⟨rfl,rfl,rfl⟩)))
   rw [pt e2] at e1
   exact e1
  ·refine⟨_,we,cL,bE 46 (RiteM.wr ⟨cl,st,acc,wd,clk,ix,seen,doomed,3,me,thr,mst,holds,span,notes,freed,reply⟩),[],Ws jM ⟨cl,st,acc,wd,clk,ix,seen,doomed,3,me,thr,mst,holds,span,notes,freed,reply⟩ h3,oS,rfl,rfl,fun _=>rfl,?_⟩
   obtain⟨r,e1,e2⟩:=map_some ((congrArg T.val (sf3 σ (seen.map EI) fr1 _ fr2 _ fr3 _ fr4 _ ⟨cl,st,acc,wd,clk,ix,seen,doomed,3,me,thr,mst,holds,span,notes,freed,reply⟩)).trans ((nv (M0 _)).trans ((nv (decide_eq_true ⟨rfl,rfl,by rw [List.length_map];exact h3,h4⟩)).trans (FM (r:=pX _ (rOf _)) ⟨rfl,rfl,rfl⟩))))
   rw [pt e2] at e1
   exact e1
  ·refine⟨fJ,we,cL,bE 46 (RiteM.wr ⟨cl,st,acc,wd,clk,ix,seen,doomed,4,me,thr,mst,holds,span,notes,freed,reply⟩),[],jM,oS,rfl,rfl,fun _=>rfl,?_⟩
   obtain⟨r,e1,e2⟩:=map_some ((congrArg T.val (sf4 σ fr1 _ fr2 _ fr3 _ fr4 _ ⟨cl,st,acc,wd,clk,ix,seen,doomed,4,me,thr,mst,holds,span,notes,freed,reply⟩)).trans ((nv (decide_eq_true ⟨rfl,h4⟩)).trans (FM (r:=pX _ (rOf _)) ⟨rfl,rfl,rfl⟩)))
   rw [pt e2] at e1
   exact e1
  ·refine⟨_,we,cL,bE 46 (RiteM.wr ⟨cl,st,acc,wd,clk,ix,seen,doomed,5,me,thr,mst,holds,span,notes,freed,reply⟩),[],Wr jM ⟨cl,st,acc,wd,clk,ix,seen,doomed,5,me,thr,mst,holds,span,notes,freed,reply⟩ h3,oS,rfl,rfl,fun _=>rfl,?_⟩
   obtain⟨r,e1,e2⟩:=map_some ((congrArg T.val (sf5 σ (seen.map lD) fr1 _ fr2 _ fr3 _ fr4 _ ⟨cl,st,acc,wd,clk,ix,seen,doomed,5,me,thr,mst,holds,span,notes,freed,reply⟩)).trans ((nv (MY _)).trans ((nv (gO _ _)).trans ((nv (decide_eq_true ⟨rfl,rfl,by rw [List.length_map];exact h3,h4⟩)).trans (FM (r:=pX _ (rOf _)) ⟨rfl,rfl,rfl⟩)))))
   rw [pt e2] at e1
   exact e1
end
end Go.Proofs.YtadmfaohjnjajaaGreatDoor
