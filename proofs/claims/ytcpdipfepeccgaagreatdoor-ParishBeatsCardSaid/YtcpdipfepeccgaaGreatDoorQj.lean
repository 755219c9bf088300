import Derived.Test.YtcpdipfepeccgaaGreatDoorQc
import Derived.Test.YtcpdipfepeccgaaGreatDoorSxOh
import Derived.Test.YtcpdipfepeccgaaGreatDoorSxOf
set_option linter.unusedVariables false
set_option linter.unusedSimpArgs false
set_option maxHeartbeats 4000000
namespace Go.Proofs.YtcpdipfepeccgaaGreatDoor
open Go Go.Sx Go.Proofs
set_option maxRecDepth 100000
variable {σ:Sg} {lp:Lp}
noncomputable def Po (fr st:List W->List Nt->List Nt):Lp:=dS 124 2 (gD1 fr st) cZ
theorem Sw:bS Tryz.prog (NVl (Po (fun kept l=>cW (fun n=>kept.any (bO n)) l) (fun kept l=>dh (fun n=>kept.any (bO n)) l)) σ) :=
 fe fL (fn:=Tryz.f124) (by kernel_rfl) (c:=bC Tryz.f124) (by kernel_rfl) (nt:=28) (by kernel_rfl) (b:=LD) (aR (by kernel_rfl)) (PT rfl rfl)
def dvV (lf ls:Nat):SV:=.tup [.c (.vs 10 0 lf 7 false),.c (.vs 11 0 ls 7 false)]
theorem Uw (σ:Sg) (an:Nt->List W->Bool) (fr st:List W->List Nt->List Nt) (l:List Nt) (kept:List W) (q kq:Nat):runC (Po fr st) σ (C1 an) 116 noM [.v (.c (.vs 8 0 q 7 false)),.v (.c (.vs 9 0 kq 5 false))] [.abs (.notes l),.abs (.words kept)]=.need (decide (q=l.length /\ (q:Int)=(q:Int) /\ kq=kept.length /\ kept.length<=100000 /\ l.length<=100000)) (.leaf (stV (dvV (fr kept l).length (st kept l).length,hpC noM [.abs (.notes l),.abs (.words kept),.abs (.notes (fr kept l)),.abs (.notes (st kept l))]))):=by kernel_rfl
def dv1 (fr st:List W->List Nt->List Nt) (args:List SV) (ch:List (Chunk AV)):T (SV×List (Chunk AV)×List (Chunk AV)):=match args,ch with
 | [.v (.c (.vs 8 0 q 7 false)),.v (.c (.vs 9 0 kq 5 false))],[.abs (.notes l),.abs (.words kept)]=>.need (decide (q=l.length /\ kq=kept.length /\ kept.length<=100000 /\ l.length<=100000))
     (.leaf (dvV (fr kept l).length (st kept l).length,[.abs (.notes l),.abs (.words kept)],[.abs (.notes (fr kept l)),.abs (.notes (st kept l))]))
 | _,_=>.fail "divide"
theorem P1:FnOk Tryz.prog (NV σ) 116 (jf isS noM (dv1 (fun kept l=>cW (fun n=>kept.any (bO n)) l) (fun kept l=>dh (fun n=>kept.any (bO n)) l))):=by
 refine eh (N:=NVl (Po (fun kept l=>cW (fun n=>kept.any (bO n)) l) (fun kept l=>dh (fun n=>kept.any (bO n)) l)) σ) (N':=NV σ) rfl rfl (gr bk rfl fun args ch v l' nw h hlen ha hC=>?_)
 unfold dv1 at h
 split at h
 ·rename_i q kq l kept
  replace h:=ah h
  obtain⟨hb,h⟩:=h
  obtain⟨rfl,rfl,hk,hl⟩:=of_decide_eq_true hb
  simp only [T.val,Option.some.injEq,Prod.mk.injEq] at h
  obtain⟨rfl,rfl,rfl⟩:=h
  have hr:=congrArg T.val (Uw σ (fun x l=>l.any (bO x)) (fun kept l=>cW (fun n=>kept.any (bO n)) l) (fun kept l=>dh (fun n=>kept.any (bO n)) l) l kept l.length kept.length)
  rw [nv (decide_eq_true ⟨rfl,rfl,rfl,hk,hl⟩)] at hr
  exact dZ Sw (ny (aj GA au)) rfl hr (by rintro ⟨⟩)
 ·simp [T.val] at h
noncomputable def Pn (fr st:List N1->List Nt->List Nt):Lp:=dS 124 2 (gD2 fr st) cZ
theorem Sv:bS Tryz.prog (NVl (Pn (fun kept l=>cW (fun n=>kept.any (dF n)) l) (fun kept l=>dh (fun n=>kept.any (dF n)) l)) σ) :=
 fe fL (fn:=Tryz.f124) (by kernel_rfl) (c:=bC Tryz.f124) (by kernel_rfl) (nt:=28) (by kernel_rfl) (b:=LD) (aR (by kernel_rfl)) (PS rfl rfl)
theorem Uv (σ:Sg) (an:Nt->List N1->Bool) (fr st:List N1->List Nt->List Nt) (l:List Nt) (kept:List N1) (q kq:Nat):runC (Pn fr st) σ (C0 an) 117 noM [.v (.c (.vs 8 0 q 7 false)),.v (.c (.vs 9 0 kq 1 false))] [.abs (.notes l),.abs (.ints kept)]=.need (decide (q=l.length /\ (q:Int)=(q:Int) /\ kq=kept.length /\ kept.length<=100000 /\ l.length<=100000)) (.leaf (stV (dvV (fr kept l).length (st kept l).length,hpC noM [.abs (.notes l),.abs (.ints kept),.abs (.notes (fr kept l)),.abs (.notes (st kept l))]))):=by kernel_rfl
def dv2 (fr st:List N1->List Nt->List Nt) (args:List SV) (ch:List (Chunk AV)):T (SV×List (Chunk AV)×List (Chunk AV)):=match args,ch with
 | [.v (.c (.vs 8 0 q 7 false)),.v (.c (.vs 9 0 kq 1 false))],[.abs (.notes l),.abs (.ints kept)]=>.need (decide (q=l.length /\ kq=kept.length /\ kept.length<=100000 /\ l.length<=100000))
     (.leaf (dvV (fr kept l).length (st kept l).length,[.abs (.notes l),.abs (.ints kept)],[.abs (.notes (fr kept l)),.abs (.notes (st kept l))]))
 | _,_=>.fail "divide"
theorem P0:FnOk Tryz.prog (NV σ) 117 (jf isS noM (dv2 (fun kept l=>cW (fun n=>kept.any (dF n)) l) (fun kept l=>dh (fun n=>kept.any (dF n)) l))):=by
 refine eh (N:=NVl (Pn (fun kept l=>cW (fun n=>kept.any (dF n)) l) (fun kept l=>dh (fun n=>kept.any (dF n)) l)) σ) (N':=NV σ) rfl rfl (gr bk rfl fun args ch v l' nw h hlen ha hC=>?_)
 unfold dv2 at h
 split at h
 ·rename_i q kq l kept
  replace h:=ah h
  obtain⟨hb,h⟩:=h
  obtain⟨rfl,rfl,hk,hl⟩:=of_decide_eq_true hb
  simp only [T.val,Option.some.injEq,Prod.mk.injEq] at h
  obtain⟨rfl,rfl,rfl⟩:=h
  have hr:=congrArg T.val (Uv σ (fun x l=>l.any (dF x)) (fun kept l=>cW (fun n=>kept.any (dF n)) l) (fun kept l=>dh (fun n=>kept.any (dF n)) l) l kept l.length kept.length)
  rw [nv (decide_eq_true ⟨rfl,rfl,rfl,hk,hl⟩)] at hr
  exact dZ Sv (ny (aj Gz au)) rfl hr (by rintro ⟨⟩)
 ·simp [T.val] at h
noncomputable def Pm (fr st:List Sp->List Nt->List Nt):Lp:=dS 124 2 (gD3 fr st) cZ
theorem Su:bS Tryz.prog (NVl (Pm (fun kept l=>cW (fun n=>kept.any (bM n)) l) (fun kept l=>dh (fun n=>kept.any (bM n)) l)) σ) :=
 fe fL (fn:=Tryz.f124) (by kernel_rfl) (c:=bC Tryz.f124) (by kernel_rfl) (nt:=28) (by kernel_rfl) (b:=LD) (aR (by kernel_rfl)) (PR rfl rfl)
theorem Uu (σ:Sg) (an:Nt->List Sp->Bool) (fr st:List Sp->List Nt->List Nt) (l:List Nt) (kept:List Sp) (q kq:Nat):runC (Pm fr st) σ (CZ an) 118 noM [.v (.c (.vs 8 0 q 7 false)),.v (.c (.vs 9 0 kq 3 false))] [.abs (.notes l),.abs (.spans kept)]=.need (decide (q=l.length /\ (q:Int)=(q:Int) /\ kq=kept.length /\ kept.length<=100000 /\ l.length<=100000)) (.leaf (stV (dvV (fr kept l).length (st kept l).length,hpC noM [.abs (.notes l),.abs (.spans kept),.abs (.notes (fr kept l)),.abs (.notes (st kept l))]))):=by kernel_rfl
def dv3 (fr st:List Sp->List Nt->List Nt) (args:List SV) (ch:List (Chunk AV)):T (SV×List (Chunk AV)×List (Chunk AV)):=match args,ch with
 | [.v (.c (.vs 8 0 q 7 false)),.v (.c (.vs 9 0 kq 3 false))],[.abs (.notes l),.abs (.spans kept)]=>.need (decide (q=l.length /\ kq=kept.length /\ kept.length<=100000 /\ l.length<=100000))
     (.leaf (dvV (fr kept l).length (st kept l).length,[.abs (.notes l),.abs (.spans kept)],[.abs (.notes (fr kept l)),.abs (.notes (st kept l))]))
 | _,_=>.fail "divide"
theorem PZ:FnOk Tryz.prog (NV σ) 118 (jf isS noM (dv3 (fun kept l=>cW (fun n=>kept.any (bM n)) l) (fun kept l=>dh (fun n=>kept.any (bM n)) l))):=by
 refine eh (N:=NVl (Pm (fun kept l=>cW (fun n=>kept.any (bM n)) l) (fun kept l=>dh (fun n=>kept.any (bM n)) l)) σ) (N':=NV σ) rfl rfl (gr bk rfl fun args ch v l' nw h hlen ha hC=>?_)
 unfold dv3 at h
 split at h
 ·rename_i q kq l kept
  replace h:=ah h
  obtain⟨hb,h⟩:=h
  obtain⟨rfl,rfl,hk,hl⟩:=of_decide_eq_true hb
  simp only [T.val,Option.some.injEq,Prod.mk.injEq] at h
  obtain⟨rfl,rfl,rfl⟩:=h
  have hr:=congrArg T.val (Uu σ (fun x l=>l.any (bM x)) (fun kept l=>cW (fun n=>kept.any (bM n)) l) (fun kept l=>dh (fun n=>kept.any (bM n)) l) l kept l.length kept.length)
  rw [nv (decide_eq_true ⟨rfl,rfl,rfl,hk,hl⟩)] at hr
  exact dZ Su (ny (aj Gy au)) rfl hr (by rintro ⟨⟩)
 ·simp [T.val] at h
end Go.Proofs.YtcpdipfepeccgaaGreatDoor

namespace Go.Proofs.YtcpdipfepeccgaaGreatDoor
open Go Go.Sx Go.Proofs
set_option maxRecDepth 100000
variable {σ:Sg} {lp:Lp}
def ksY:List Nat:=[0,4,7,8,9]
noncomputable def LY:Code:=dO 2 (aT (bC Tryz.f103))
def jg (n:Int) (s:Sp):Bool:=de s.is (s.low != n)
def Ck (n:Int) (q:Nat) (l:List Sp) (i:Int):St AV :=
 {E:=only ksY [(0,.v (.c (.it .i64 n))),(4,.v (.c (.bl false))),(7,.v (.c (.vs 8 0 q 3 false))),(8,.v (.c (.it .i64 q))),(9,.v (.c (.it .i64 i)))] 22,H:=hpC noM [.abs (.spans l)]}
theorem yR (σ:Sg) (n:Int) (q:Nat) (l:List Sp) (i:Int):(xc (NV σ) (joinCal (lv (NV σ) aQ 5)) (fun _=>none) 22 LY (Ck n q l i)).bind (bR 9 22 ksY bZ)=.ite (decide (i < (q:Int))) (.need (decide (0<=i /\ i < (q:Int))) (.need (decide (0+i.toNat < l.length)) (.ite (jg n (l.getD (0+i.toNat) kspans.dflt)) (.leaf (.ret,Ck n q l i)) (.leaf (.normal,Ck n q l (IntKind.wrap .i64 (i+1))))))) (.leaf (.exit 0,Ck n q l i)):=by kernel_rfl
def wQ (n:Int) (l:List Sp) (m:MA):St AV:=Ck n l.length l m.k
theorem Eg (σ:Sg) (n:Int) (l:List Sp) (hl:l.length<=100000) (m:MA) (r:Ex×MA) (h:(jN l (jg n) m).val=some r) :
 ((xc (NV σ) (joinCal (lv (NV σ) aQ 5)) (fun _=>none) 22 LY (wQ n l m)).bind (bR 9 22 ksY bZ)).val=some (r.1,wQ n l r.2):=by
 replace h:=ah h
 obtain⟨hb,h⟩:=h
 obtain⟨h1,h2⟩:=of_decide_eq_true hb
 simp only [T.val,Option.some.injEq] at h
 subst h
 obtain⟨k,b⟩:=m
 simp only at h1 h2
 subst h2
 have e1:0+(k:Int).toNat=k:=by omega
 have hw:IntKind.wrap .i64 ((k:Int)+1)=((k+1:Nat):Int):=fh (by omega)
 dsimp only [wQ]
 rw [yR]
 by_cases hk:k < l.length
 ·rw [ivT (decide_eq_true (by show (k:Int) < _;omega)),nv (decide_eq_true (by omega)),e1,nv (decide_eq_true hk),hw,cg kspans.dflt hk]
  cases hp:jg n (l.getD k kspans.dflt) with
  | true=>simp only [goA,hp];rfl
  | false=>simp only [goA,hp];rfl
 ·rw [ivF (decide_eq_false (by show ¬(k:Int) < _;omega)),List.drop_eq_nil_of_le (by omega)]
  rfl
noncomputable def gY (an:Int->List Sp->Bool) (ix:Int->List Sp->Nat) (s:St AV):T (Ex×St AV):=match fX s.H 0 noM with
 | some [some (.abs (.spans l))] =>
   match Sx.look s.E 0,Sx.look s.E 4,Sx.look s.E 7,Sx.look s.E 8,Sx.look s.E 9 with
   | .v (.c (.it .i64 n)),.v (.c (.bl false)),.v (.c (.vs 8 0 q1 3 false)),.v (.c (.it .i64 q2)),.v (.c (.il .i64 0)) =>
     .need (decide (q1=l.length /\ q2=(q1:Int) /\ l.length<=100000)) (.ite (an n l) (.leaf (.ret,Ck n l.length l (ix n l))) (.leaf (.exit 0,Ck n l.length l l.length)))
   | _,_,_,_,_=>.fail "spans"
 | _=>.fail "spans"
theorem SU {N':Env AV} (hF:N'.F=(NV σ).F) (hG:N'.G=(NV σ).G):b7 Tryz.prog N' 22 LY (gY (fun n l=>l.any (jg n)) (fun n l=>dH (jg n) 0 l)):=by
 have hcal:cP Tryz.prog (NV σ) (joinCal (lv (NV σ) aQ 5)):=bo (fU okV mQ hvV au 5)
 refine cd (N:=NV σ) hF hG okV hcal (lp:=fun _=>none) (fun _ _ _ g hg=>by cases hg) fun s s' ex hgs=>?_
 obtain⟨E1,H1⟩:=s
 unfold gY at hgs
 split at hgs
 ·rename_i l hs
  have hs:=dJ hs
  simp only at hs
  subst hs
  split at hgs
  ·rename_i n q1 q2 e0 e4 e7 e8 e9
   simp only at e0 e4 e7 e8 e9
   replace hgs:=ah hgs
   obtain⟨hb,hgs⟩:=hgs
   obtain⟨rfl,rfl,hl⟩:=of_decide_eq_true hb
   have hgo:(ex,s')=((iV (jg n) 0 l).1,wQ n l (iV (jg n) 0 l).2):=by
    cases ha:l.any (jg n) with
    | true =>
      rw [ivT ha] at hgs
      simp only [T.val,Option.some.injEq] at hgs
      rw [<- hgs];unfold iV;rw [ha];rfl
    | false =>
      rw [ivF ha] at hgs
      simp only [T.val,Option.some.injEq] at hgs
      rw [<- hgs];unfold iV;rw [ha]
      simp only [wQ,Nat.zero_add]
   simp only [Prod.mk.injEq] at hgo
   obtain⟨rfl,rfl⟩:=hgo
   refine⟨{M:=MA,fam:=wQ n l,step:=jN l (jg n),ks:=ksY,pk:=bZ,hpk:=(fun d a h=>by cases h),L:=9,len:=rfl,hGL:=(by show 8<=9;decide),run:=Eg σ n l hl,m:=⟨0,false⟩,k:=_,m':=_,ent:=?_,it:=Am l 0 rfl (Nat.zero_le _),fin:=rfl}⟩
   refine kf (N:=NV σ) (nt:=22) (E:=E1) (ks:=ksY) (E':=[(0,.v (.c (.it .i64 n))),(4,.v (.c (.bl false))),(7,.v (.c (.vs 8 0 l.length 3 false))),(8,.v (.c (.it .i64 l.length))),(9,.v (.c (.it .i64 (0:Nat))))]) fun k hk=>?_
   simp only [ksY,List.mem_cons,List.not_mem_nil,or_false] at hk
   rcases hk with rfl | rfl | rfl | rfl | rfl
   ·exact .inl e0.symm
   ·exact .inl e4.symm
   ·exact .inl e7.symm
   ·exact .inl e8.symm
   ·exact .inr ⟨by rw [e9];rintro ⟨⟩,oT _,fun ρ=>by rw [e9];rfl⟩
  ·simp [T.val] at hgs
 ·simp [T.val] at hgs
noncomputable def lpY (an:Int->List Sp->Bool) (ix:Int->List Sp->Nat):Lp:=dS 103 2 (gY an ix) cZ
theorem Ug:bS Tryz.prog (NVl (lpY (fun n l=>l.any (jg n)) (fun n l=>dH (jg n) 0 l)) σ) :=
 fe fL (fn:=Tryz.f103) (by kernel_rfl) (c:=bC Tryz.f103) (by kernel_rfl) (nt:=22) (by kernel_rfl) (b:=LY) (aR (by kernel_rfl)) (SU rfl rfl)
theorem Ue (σ:Sg) (an:Int->List Sp->Bool) (ix:Int->List Sp->Nat) (n:Int) (q:Nat) (l:List Sp):runC (lpY an ix) σ aQ 103 noM [.v (.c (.it .i64 n)),.v (.c (.vs 8 0 q 3 false))] [.abs (.spans l)]=.need (decide (q=l.length /\ (q:Int)=(q:Int) /\ l.length<=100000)) (.ite (an n l) (.leaf (stV (.v (.c (.bl false)),hpC noM [.abs (.spans l)]))) (.leaf (stV (.v (.c (.bl true)),hpC noM [.abs (.spans l)])))):=by kernel_rfl
def epP (now:Int) (x:Nt):Bool:=orB (decide (now < -9223372036854775806)) (decide (x.death > IntKind.wrap .i64 (now - 2)))
theorem c4R (σ:Sg) (now:Int) (x:Nt):runC cZ σ aQ 128 noM [.v (.agg (Nt.enc x)),.v (.c (.ptr 8 0))] [.cells [.it .i64 now] 3]=.leaf (stV (.v (.c (.bt (epP now x))),hpC noM [.cells [.it .i64 now] 3])):=by kernel_rfl
def Ph (may:Int->List Sp->Bool) (args:List SV) (ch:List (Chunk AV)):T (SV×List (Chunk AV)×List (Chunk AV)):=match args,ch with
 | [.v (.c (.it .i64 n)),.v (.c (.vs 8 0 q 3 false))],[.abs (.spans l)]=>.need (decide (q=l.length /\ l.length<=100000)) (.leaf (.v (.c (.bt (may n l))),[.abs (.spans l)],[]))
 | _,_=>.fail "May"
theorem Pg:FnOk Tryz.prog (NV σ) 103 (jf isS noM (Ph fun n l=>!(l.any (jg n)))):=by
 refine eh (N:=NVl (lpY (fun n l=>l.any (jg n)) (fun n l=>dH (jg n) 0 l)) σ) (N':=NV σ) rfl rfl (gr bk rfl fun args ch v l' nw h hlen ha hC=>?_)
 unfold Ph at h
 split at h
 ·rename_i n q l
  replace h:=ah h
  obtain⟨hb,h⟩:=h
  obtain⟨rfl,hl⟩:=of_decide_eq_true hb
  simp only [T.val,Option.some.injEq,Prod.mk.injEq] at h
  obtain⟨rfl,rfl,rfl⟩:=h
  have hr:(runC (lpY (fun n l=>l.any (jg n)) (fun n l=>dH (jg n) 0 l)) σ aQ 103 noM [.v (.c (.it .i64 n)),.v (.c (.vs 8 0 l.length 3 false))] [.abs (.spans l)]).val=some (stV (.v (.c (.bl (!(l.any (jg n))))),hpC noM [.abs (.spans l)])):=by
   refine(congrArg T.val (Ue σ (fun n l=>l.any (jg n)) (fun n l=>dH (jg n) 0 l) n l.length l)).trans ?_
   rw [nv (decide_eq_true ⟨rfl,rfl,hl⟩)]
   cases hp:l.any (jg n) with
   | true=>rfl
   | false=>rfl
  exact kJ (v:=.v (.c (.bl (!(l.any (jg n)))))) (dZ Ug sF rfl hr (by rintro ⟨⟩)) ((K3 _).cl _) fun ρ=>rfl
 ·simp [T.val] at h
def sv4 (ep:Int->Nt->Bool) (args:List SV) (ch:List (Chunk AV)):T (SV×List (Chunk AV)×List (Chunk AV)):=match args,ch with
 | [.v (.agg [.it .i64 a,.it .i64 b,.it .i64 c,.it .i64 d,.bt e,.it .i64 f,.it .i64 g]),.v (.c (.ptr 8 0))],[.cells [.it .i64 now] ty]=>match Nat.beq ty 3 with
   | true=>.leaf (.v (.c (.bt (ep now ⟨a,b,c,d,e,f,g⟩))),[.cells [.it .i64 now] 3],[])
   | false=>.fail "epochs"
 | _,_=>.fail "epochs"
theorem Gx:FnOk Tryz.prog (NV σ) 128 (jf isS noM (sv4 epP)):=by
 refine eh (N:=NVl cZ σ) (N':=NV σ) rfl rfl (gr bk rfl fun args ch v l' nw h hlen ha hC=>?_)
 unfold sv4 at h
 split at h
 ·rename_i a b c d e f g now ty
  split at h
  ·rename_i ety
   have ety:=(af _ _).1 ety
   subst ety
   simp only [T.val,Option.some.injEq,Prod.mk.injEq] at h
   obtain⟨rfl,rfl,rfl⟩:=h
   exact dZ fL sF rfl (congrArg T.val (c4R σ now ⟨a,b,c,d,e,f,g⟩)) (by rintro ⟨⟩)
  ·simp [T.val] at h
 ·simp [T.val] at h
end Go.Proofs.YtcpdipfepeccgaaGreatDoor

namespace Go.Proofs.YtcpdipfepeccgaaGreatDoor
open Go Go.Sx Go.Proofs
set_option maxRecDepth 100000
variable {σ:Sg} {lp:Lp}
noncomputable def CY (ep:Int->Nt->Bool):Tab:=aC 128 (jf isS noM (sv4 ep)) aQ
def wV (now:Int) (q:Nat) (l:List Nt) (i:Int) (f s:List Nt) (lf ls:Nat):St AV :=
 {E:=only ksD [(1,.clo 128 [.ptr 9 0]),(4,.v (.c (.vs 10 0 lf 7 false))),(5,.v (.c (.vs 11 0 ls 7 false))),(8,.v (.c (.vs 8 0 q 7 false))),(9,.v (.c (.it .i64 q))),(10,.v (.c (.it .i64 i)))] 28,
   H:=hpC noM [.abs (.notes l),.cells [.it .i64 now] 3,.abs (.notes f),.abs (.notes s)]}
theorem d4R (σ:Sg) (ep:Int->Nt->Bool) (now:Int) (q:Nat) (l:List Nt) (i:Int) (f s:List Nt) (lf ls:Nat):(xc (NV σ) (joinCal (lv (NV σ) (CY ep) 5)) (fun _=>none) 28 LD (wV now q l i f s lf ls)).bind (bR 10 28 ksD bZ)=.ite (decide (i < (q:Int))) (.need (decide (0<=i /\ i < (q:Int))) (.need (decide (0+i.toNat < l.length))
 (.ite (ep now (g7 l i)) (.need (m4 σ ls s) (.leaf (.normal,wV now q l (IntKind.wrap .i64 (i+1)) f (s++[g7 l i]) lf (ls+1)))) (.need (m4 σ lf f) (.leaf (.normal,wV now q l (IntKind.wrap .i64 (i+1)) (f++[g7 l i]) s (lf+1) ls))))))
 (.leaf (.exit 0,wV now q l i f s lf ls)):=by kernel_rfl
def yx (now:Int) (l:List Nt) (m:MD):St AV:=wV now l.length l m.k m.f m.s m.f.length m.s.length
theorem Bv (σ:Sg) (now:Int) (l:List Nt) (hl:l.length<=100000) (m:MD) (r:Ex×MD) (h:(lj l (epP now) m).val=some r) :
 ((xc (NV σ) (joinCal (lv (NV σ) (CY epP) 5)) (fun _=>none) 28 LD (yx now l m)).bind (bR 10 28 ksD bZ)).val=some (r.1,yx now l r.2):=by
 replace h:=ah h
 obtain⟨hb,h⟩:=h
 obtain⟨h1,h2,h3⟩:=of_decide_eq_true hb
 simp only [T.val,Option.some.injEq] at h
 subst h
 obtain⟨k,f,s⟩:=m
 simp only at h1 h2 h3
 have e1:0+(k:Int).toNat=k:=by omega
 have hw:IntKind.wrap .i64 ((k:Int)+1)=((k+1:Nat):Int):=fh (by omega)
 dsimp only [yx]
 rw [d4R]
 by_cases hlt:k < l.length
 ·rw [ivT (decide_eq_true (by show (k:Int) < _;omega)),nv (decide_eq_true (by omega)),nv (decide_eq_true (by omega)),hw,cg knotes.dflt hlt]
  dsimp only [g7]
  rw [e1]
  cases hp:epP now (l.getD k knotes.dflt) with
  | true=>rw [ivT rfl,nv (gD rfl (by omega))];simp only [goD,hp,T.val,List.length_append,List.length_cons,List.length_nil]
  | false=>rw [ivF rfl,nv (gD rfl (by omega))];simp only [goD,hp,T.val,List.length_append,List.length_cons,List.length_nil]
 ·rw [ivF (decide_eq_false (by show ¬(k:Int) < _;omega)),List.drop_eq_nil_of_le (by omega)]
  rfl
noncomputable def gD4 (fr st:Int->List Nt->List Nt) (s:St AV):T (Ex×St AV):=match fX s.H 0 noM with
 | some [some (.abs (.notes l)),some (.cells [.it .i64 now] ty)] =>
   match Sx.look s.E 1,Sx.look s.E 4,Sx.look s.E 5,Sx.look s.E 8,Sx.look s.E 9,Sx.look s.E 10,Nat.beq ty 3 with
   | .clo fid [.ptr 9 0],.v (.c .snil),.v (.c .snil),.v (.c (.vs 8 0 q1 7 false)),.v (.c (.it .i64 q2)),.v (.c (.il .i64 0)),true=>match Nat.beq fid 128 with
     | true=>.need (decide (q1=l.length /\ q2=(q1:Int) /\ l.length<=100000)) (.leaf (.exit 0,wV now l.length l l.length (fr now l) (st now l) (fr now l).length (st now l).length))
     | false=>.fail "divide"
   | _,_,_,_,_,_,_=>.fail "divide"
 | _=>.fail "divide"
theorem PQ {N':Env AV} (hF:N'.F=(NV σ).F) (hG:N'.G=(NV σ).G):b7 Tryz.prog N' 28 LD (gD4 (fun now l=>cW (epP now) l) (fun now l=>dh (epP now) l)):=by
 have hcal:cP Tryz.prog (NV σ) (joinCal (lv (NV σ) (CY epP) 5)):=bo (fU okV mQ hvV (aj Gx au) 5)
 refine cd (N:=NV σ) hF hG okV hcal (lp:=fun _=>none) (fun _ _ _ g hg=>by cases hg) fun s s' ex hgs=>?_
 obtain⟨E1,H1⟩:=s
 unfold gD4 at hgs
 split at hgs
 ·rename_i l now ty hs
  have hs:=dJ hs
  simp only at hs
  subst hs
  split at hgs
  ·rename_i fid q1 q2 e1 e4 e5 e8 e9 e10 ety
   have ety:=(af _ _).1 ety
   subst ety
   simp only at e1 e4 e5 e8 e9 e10
   split at hgs
   ·rename_i efid
    have efid:=(af _ _).1 efid
    subst efid
    replace hgs:=ah hgs
    obtain⟨hb,hgs⟩:=hgs
    obtain⟨rfl,rfl,hl⟩:=of_decide_eq_true hb
    simp only [T.val,Option.some.injEq,Prod.mk.injEq] at hgs
    obtain⟨rfl,rfl⟩:=hgs
    refine⟨{M:=MD,fam:=yx now l,step:=lj l (epP now),ks:=ksD,pk:=bZ,hpk:=(fun d a h=>by cases h),L:=10,len:=rfl,hGL:=(by show 8<=10;decide),run:=Bv σ now l hl,m:=⟨0,[],[]⟩,k:=_,m':=_,ent:=?_,it:=DD l 0 [] [] rfl (Nat.zero_add _) (Nat.zero_le _) (Nat.zero_le _),fin:=rfl}⟩
    refine et (N:=NV σ) (s:=⟨E1,_⟩) (l:=[.notes [],.notes []]) (fun a ha=>⟨7,knotes.ty,by simp only [List.mem_cons,List.not_mem_nil,or_false,or_self] at ha;rw [ha];rfl⟩) (by show 8<=10;decide) fun k hk=>?_
    simp only [ksD,List.mem_cons,List.not_mem_nil,or_false] at hk
    rcases hk with rfl | rfl | rfl | rfl | rfl | rfl
    ·exact .inl e1.symm
    ·exact .inr (.inr ⟨e4,0,7,by decide,rfl⟩)
    ·exact .inr (.inr ⟨e5,1,7,by decide,rfl⟩)
    ·exact .inl e8.symm
    ·exact .inl e9.symm
    ·exact .inr (.inl ⟨by show Sx.look E1 10≠_;rw [e10];rintro ⟨⟩,oT _,fun ρ=>by show _=(Sx.look E1 10).den ρ;rw [e10];rfl⟩)
   ·simp [T.val] at hgs
  ·simp [T.val] at hgs
 ·simp [T.val] at hgs
noncomputable def Pk (fr st:Int->List Nt->List Nt):Lp:=dS 124 2 (gD4 fr st) cZ
theorem Ss:bS Tryz.prog (NVl (Pk (fun now l=>cW (epP now) l) (fun now l=>dh (epP now) l)) σ) :=
 fe fL (fn:=Tryz.f124) (by kernel_rfl) (c:=bC Tryz.f124) (by kernel_rfl) (nt:=28) (by kernel_rfl) (b:=LD) (aR (by kernel_rfl)) (PQ rfl rfl)
def Ty (lf ls:Nat):SV:=.tup [.c (.vs 9 0 lf 7 false),.c (.vs 10 0 ls 7 false)]
theorem Ut (σ:Sg) (ep:Int->Nt->Bool) (fr st:Int->List Nt->List Nt) (l:List Nt) (now:Int) (q:Nat):runC (Pk fr st) σ (CY ep) 119 noM [.v (.c (.vs 8 0 q 7 false)),.v (.c (.it .i64 now))] [.abs (.notes l)]=.need (decide (q=l.length /\ (q:Int)=(q:Int) /\ l.length<=100000)) (.leaf (stV (Ty (fr now l).length (st now l).length,hpC noM [.abs (.notes l),.abs (.notes (fr now l)),.abs (.notes (st now l))]))):=by kernel_rfl
def dv4 (fr st:Int->List Nt->List Nt) (args:List SV) (ch:List (Chunk AV)):T (SV×List (Chunk AV)×List (Chunk AV)):=match args,ch with
 | [.v (.c (.vs 8 0 q 7 false)),.v (.c (.it .i64 now))],[.abs (.notes l)]=>.need (decide (q=l.length /\ l.length<=100000))
     (.leaf (Ty (fr now l).length (st now l).length,[.abs (.notes l)],[.abs (.notes (fr now l)),.abs (.notes (st now l))]))
 | _,_=>.fail "divide"
theorem PY:FnOk Tryz.prog (NV σ) 119 (jf isS noM (dv4 (fun now l=>cW (epP now) l) (fun now l=>dh (epP now) l))):=by
 refine eh (N:=NVl (Pk (fun now l=>cW (epP now) l) (fun now l=>dh (epP now) l)) σ) (N':=NV σ) rfl rfl (gr bk rfl fun args ch v l' nw h hlen ha hC=>?_)
 unfold dv4 at h
 split at h
 ·rename_i q now l
  replace h:=ah h
  obtain⟨hb,h⟩:=h
  obtain⟨rfl,hl⟩:=of_decide_eq_true hb
  simp only [T.val,Option.some.injEq,Prod.mk.injEq] at h
  obtain⟨rfl,rfl,rfl⟩:=h
  have hr:=congrArg T.val (Ut σ epP (fun now l=>cW (epP now) l) (fun now l=>dh (epP now) l) l now l.length)
  rw [nv (decide_eq_true ⟨rfl,rfl,hl⟩)] at hr
  exact dZ Ss (ny (aj Gx au)) rfl hr (by rintro ⟨⟩)
 ·simp [T.val] at h
end Go.Proofs.YtcpdipfepeccgaaGreatDoor

namespace Go.Proofs.YtcpdipfepeccgaaGreatDoor
open Go Go.Sx Go.Proofs
set_option maxRecDepth 100000
variable {σ:Sg}
def aI4:ArgK (Int×Int×Int×Int) where
 enc x:=[.v (.c (.it .i64 x.1)),.v (.c (.it .i64 x.2.1)),.v (.c (.it .i64 x.2.2.1)),.v (.c (.it .i64 x.2.2.2))]
 dec:=fun | [.v (.c a),.v (.c b),.v (.c c),.v (.c d)]=>(match iOf a,iOf b,iOf c,iOf d with | some a,some b,some c,some d=>some (a,b,c,d) | _,_,_,_=>none) | _=>none
 ok:=fun l a h ρ=>by
  split at h
  ·split at h
   ·rename_i h0 h1 h2 h3
    cases h
    simp only [List.map_cons,List.map_nil,SV.den,V1.den,aM h0 ρ,aM h1 ρ,aM h2 ρ,aM h3 ρ];rfl
   ·cases h
  ·cases h
 free:=fun _=>rfl
def kW {α:Type} (O:ObK α):SV×List AV×List AV->Option α
 | (.tup [.c (.ptr 8 0),.c .inil],[],[a])=>O.X a
 | _=>none
theorem uC {α:Type} {O:ObK α} {r:SV×List AV×List AV} {j:α} (h:kW O r=some j):r=(.tup [.c (.ptr 8 0),.c .inil],[],[O.V j]):=by
 unfold kW at h
 split at h
 ·rw [O.ok _ _ h]
 ·cases h
def jh {γ α:Type} (A:ArgK γ) (O:ObK α) (ok:γ->Option Bool) (mk:γ->α) (args:List SV) (l:List AV):T (SV×List AV×List AV):=match l with
 | []=>match A.dec args with
   | some x=>tH (ok x) (.leaf (.tup [.c (.ptr 8 0),.c .inil],[],[O.V (mk x)]))
   | none=>.fail "maker"
 | _=>.fail "maker"
theorem kz {tab:Tab} (ht:bm Tryz.prog (NV σ) tab) {f:FuncId} {M:List Bool} (hM:8=M.length) {γ α:Type} {A:ArgK γ} {O:ObK α} {ok:γ->Option Bool} {mk:γ->α}
 (hrun:∀x,okO (ok x)=true->∃args,cS args=true /\ (∀ρ:Nm,args.map (SV.den ρ)=(A.enc x).map (SV.den ρ)) /\ ((eG σ tab f M args []).map (kW O)).val=some (some (mk x))):FnOk Tryz.prog (NV σ) f (aL isS M (jh A O ok mk)):=by
 refine b9 bk hM fun args l v l' nw h hl hargs=>?_
 unfold jh at h
 split at h
 ·split at h
  ·rename_i x hx
   replace h:=dB h
   obtain⟨hok,h⟩:=h
   simp only [T.val,Option.some.injEq,Prod.mk.injEq] at h
   obtain⟨rfl,rfl,rfl⟩:=h
   obtain⟨args',e2,e3,e4⟩:=hrun x hok
   obtain⟨y,h1,h2⟩:=map_some e4
   have h2:=uC h2
   subst h2
   have hc:=mh ht hM (bL e2) h1
   exact bE hc.1 fun ρ=>by rw [e3 ρ,A.ok _ _ hx ρ]
  ·simp [T.val] at h
 ·simp [T.val] at h
def N2:H9:=⟨aq,aq,aq,aq,aq,aq,aq,aq,aq⟩
def rT (x:Int×Int×Int×Int):RiteM:=⟨bu,0,wu,aq,aq,0,[],[],x.1,x.2.1,x.2.2.1,x.2.2.2,N2,⟨false,0,0⟩,[],0,⟨aq,false⟩⟩
def pH (e me th no:Int):Bool:=orB (decide (e < 1)) (orB (decide (e > 5)) (orB (decide (th < 1)) (orB (decide (th > 6)) (orB (decide (me < 0)) (orB (decide (me>=th)) (orB (decide (no < 1)) (decide (no > 64))))))))
theorem OS (σ:Sg) (e me th no:Int):(eG σ aQ 47 noM (aI4.enc (e,me,th,no)) []).map (kW oRite)=.ite (pH e me th no) (.fail "load") (.need true (.leaf (some (rT (e,me,th,no))))):=by kernel_rfl
theorem Hn:FnOk Tryz.prog (NV σ) 47 (aL isS noM (jh aI4 oRite (fun x=>some (!(pH x.1 x.2.1 x.2.2.1 x.2.2.2))) rT)) :=
 kz au rfl fun x h=>⟨aI4.enc x,rfl,fun _=>rfl,by
  obtain⟨e,me,th,no⟩:=x
  have h:(!(pH e me th no))=true:=h
  rw [OS]
  cases hb:pH e me th no with
  | true=>rw [hb] at h;cases h
  | false=>rfl⟩
end Go.Proofs.YtcpdipfepeccgaaGreatDoor

namespace Go.Proofs.YtcpdipfepeccgaaGreatDoor
open Go Go.Sx Go.Proofs
set_option maxRecDepth 100000
variable {σ:Sg} {lp:Lp}
def jt (w:W):Sp:=⟨match !w.mark with | true=>false | false=>true,match !w.mark with | true=>0 | false=>w.num,match !w.mark with | true=>0 | false=>w.tag⟩
end Go.Proofs.YtcpdipfepeccgaaGreatDoor

namespace Go.Sx
variable {AV:Type} {P:Program} {N:Env AV}
def jx:Hp AV->Hp AV->Hp AV
 | x::H,y::R=>(match y with | some c=>some c | none=>match x with | some _=>some .dead | none=>none)::jx H R
 | _,R=>R
theorem qD:∀{H R:Hp AV} {m:Nat} {c:Chunk AV},hget (jx H R) m=some c->hget R m=some c \/ c=.dead
 | [],R,m,c,h=>.inl (by simpa [jx] using h)
 | x::H,[],m,c,h=>by simp [jx,hget] at h
 | x::H,y::R,0,c,h=>by
   cases y with
   | some d=>exact .inl h
   | none=>cases x with
     | some d =>
       have h:some (Chunk.dead:Chunk AV)=some c:=h
       cases h;exact .inr rfl
     | none=>cases (h:(none:Option (Chunk AV))=some c)
 | x::H,y::R,m+1,c,h=>qD (H:=H) (R:=R) (m:=m) h
theorem ur (H R:Hp AV):Fl N R (jx H R):=fun ρ w hO=>by
 have src:∀{m c k},hget (jx H R) m=some c->c.fp ρ m k->hget R m=some c:=fun {m c k} h hk=>by
  rcases qD h with h1 | rfl
  ·exact h1
  ·exact hk.elim
 refine⟨ρ,hO.sub ⟨fun m c h=>?_,fun m m' c d hne h h' k hk hk'=>hO.dis m m' c d hne (src h hk) (src h' hk') k hk hk',hO.glb⟩ (fun m c k h hk=>⟨m,c,src h hk,hk⟩),fun _=>rfl,fun m d k h hk=>⟨m,d,src h hk,hk⟩⟩
 rcases qD h with h1 | rfl
 ·exact hO.q m c h1
 ·trivial
def lk:Hp AV->Hp AV->Bool
 | [],_=>true
 | none::H,none::R=>lk H R
 | some _::H,some _::R=>lk H R
 | _,_=>false
theorem dY:∀{H R:Hp AV},lk H R=true->H.length<=R.length /\ (∀m c,hget H m=some c->∃c',hget R m=some c') /\ ∀m,m < H.length->hget H m=none->hget R m=none
 | [],R,_=>⟨Nat.zero_le _,fun m c h=>by cases m<;>simp [hget] at h,fun m h=>by simp at h⟩
 | none::H,none::R,h=>by
   obtain⟨h1,h2,h3⟩:=dY (H:=H) (R:=R) h
   refine⟨Nat.succ_le_succ h1,fun m c hm=>?_,fun m hl hm=>?_⟩
   ·cases m with
    | zero=>cases hm
    | succ m=>exact h2 m c hm
   ·cases m with
    | zero=>rfl
    | succ m=>exact h3 m (Nat.lt_of_succ_lt_succ hl) hm
 | some x::H,some y::R,h=>by
   obtain⟨h1,h2,h3⟩:=dY (H:=H) (R:=R) h
   refine⟨Nat.succ_le_succ h1,fun m c hm=>?_,fun m hl hm=>?_⟩
   ·cases m with
    | zero=>exact⟨y,rfl⟩
    | succ m=>exact h2 m c hm
   ·cases m with
    | zero=>cases hm
    | succ m=>exact h3 m (Nat.lt_of_succ_lt_succ hl) hm
 | none::_,some _::_,h=>by cases h
 | some _::_,none::_,h=>by cases h
 | _::_,[],h=>by rename_i x H;cases x<;>cases h
def Oc (view:Hp AV->Nat->T (AV×List Nat)) (lay:AV->Option (Hp AV)) (G:Nat) (s:List SV->Hp AV->T (SV×Hp AV)) (args:List SV) (H:Hp AV):T (SV×Hp AV):=match args with
 | .v (.c (.ptr n o))::_=>match hget H n with
   | some (.cells _ _)=>(view H n).bind fun x=>match jx H (gP n x.2 x.1 0 H) with
     | H1=>match lk H H1,clVs H1 args,clHs H1 H1 with
       | true,true,true=>(s args H1).bind fun r=>match hget r.2 n with
         | some (.abs a)=>match lay a with
           | some (some c::K)=>match g0 r.2 n (some c::K) with
             | R=>match Nat.ble G n,lk H R,clV R r.1,clHs R R,clHs r.2 r.2 with
               | true,true,true,true,true=>.leaf (r.1,R)
               | _,_,_,_,_=>.fail "via: behind"
           | _=>.fail "via: no layout"
         | _=>.fail "via: no object"
       | _,_,_=>.fail "via: ahead"
   | _=>s args H
 | _=>s args H
theorem Kh {view:Hp AV->Nat->T (AV×List Nat)} (hview:uZ N view) {lay:AV->Option (Hp AV)} (hlay:∀a K l S w,lay a=some K->N.F.q a l S w->fI N K l S w) {G:Nat} (hG:N.G=G) {f:FuncId} {s:List SV->Hp AV->T (SV×Hp AV)} (hs:FnOk P N f s):FnOk P N f (Oc view lay G s):=by
 refine FnOk.of fun args H v H' h ha hC=>?_
 unfold Oc at h
 split at h
 ·rename_i n o r
  split at h
  ·rename_i l ty hn
   obtain⟨⟨a0,ns⟩,h0,h⟩:=T.bind_some h
   dsimp only at h
   split at h
   ·rename_i b1 b2 b3
    obtain⟨⟨v1,H2⟩,h1,h⟩:=T.bind_some h
    split at h
    ·rename_i a ha2
     split at h
     ·rename_i c K hK
      dsimp only at h
      split at h
      ·rename_i c1 c2 c3 c4 c5
       simp only [T.val,Option.some.injEq,Prod.mk.injEq] at h
       obtain⟨rfl,rfl⟩:=h
       dsimp only at ha2 c2 c3 c4 c5 ⊢
       have hfl:Fl N H (jx H (gP n ns a0 0 H)):=(rV (hview H n a0 ns h0)).trans (ur H _)
       generalize jx H (gP n ns a0 0 H)=H1 at *
       have hopn:Opn N H H1:=fun ρ w hO=>by
        obtain⟨ρ1,o1,e1,f1⟩:=hfl ρ w hO
        exact⟨ρ1,o1,fun m _=>e1 m,f1⟩
       have hc:=hs.ctr h1 (eP.1 b2) ⟨cn.1 b3,trivial⟩
       have ho2:Opn N H2 (g0 H2 n (some c::K)):=oZ (K:=some c::K) ⟨cn.1 c5,trivial⟩ ha2 ⟨c,rfl⟩ (by rw [hG];exact Nat.le_of_ble_eq_true c1) fun l S w hq=>hlay a _ l S w hK hq
       have hfd:Fld N H2 (g0 H2 n (some c::K)):=fun ρ w hO=>by
        obtain⟨ρ1,o1,e1,f1⟩:=ho2 ρ w hO
        exact⟨ρ1,o1,fun m c hm=>e1 m (aH hm),f1⟩
       obtain⟨s1,s2,s3⟩:=dY c2
       exact yC hopn (dY b1).2.1 hc hfd ha (mJ.1 c3) ⟨cn.1 c4,trivial⟩ s2 s3 s1
      ·simp [T.val] at h
     ·simp [T.val] at h
    ·simp [T.val] at h
   ·simp [T.val] at h
  ·exact hs.ctr h ha hC
 ·exact hs.ctr h ha hC
end Go.Sx

namespace Go.Proofs.YtcpdipfepeccgaaGreatDoor
open Go Go.Sx Go.Proofs
set_option maxRecDepth 100000
variable {σ:Sg} {lp:Lp}
noncomputable def cH (p:Prop):Bool:=@decide p (Classical.propDecidable p)
theorem cQ {p:Prop} (h:p):cH p=true:=@decide_eq_true p (Classical.propDecidable p) h
theorem cK {p:Prop} (h:cH p=true):p:=@of_decide_eq_true p (Classical.propDecidable p) h
noncomputable def oP (lp:Lp) (σ:Sg) (tab:Tab) (f:FuncId) (M:List Bool) (args:List SV) (l:List AV) (K:Hp AV):T (SV×List AV×List AV) :=
 match g0 (hpO M l) M.length K with
 | H=>match Q.clVs H args,Q.clHs H H with
   | true,true=>(Q.bind (Q.lv (NVl lp σ) tab 24 (.fn f) args H) (ou (ox σ) isS M l.length [M.length])).map B4
   | _,_=>.fail "run: names"
theorem jR (hlp:bS Tryz.prog (NVl lp σ)) {tab:Tab} (ht:bm Tryz.prog (NVl lp σ) tab) {f:FuncId} {M:List Bool} (hM:8=M.length) {args:List SV} {a:AV} {l:List AV} {K:Hp AV} (hK0:∃c,hget K 0=some c) (hKq:∀l S w,(NVl lp σ).F.q a l S w->fI (NVl lp σ) K l S w) {v:SV} {l' nw:List AV}
 (hargs:∀x∈args,ClV (hpO M (a::l)) x) (h:(oP lp σ tab f M args (a::l) K).val=some (v,l',nw)):Ctr Tryz.prog (NVl lp σ) f args (hpO M (a::l)) v (hpO M (l'++nw)) /\ l'.length=(a::l).length:=by
 unfold oP at h
 dsimp only at h
 split at h
 ·rename_i h1 h2
  rw [Q.clVs_eq] at h1
  rw [Q.clHs_eq] at h2
  obtain⟨v0,rfl,h0⟩:=mo h
  rw [Q.bind_eq,Q.lv_eq] at h0
  obtain⟨⟨v1,H2⟩,hr,hc⟩:=T.bind_some h0
  have hn:hget (hpO M (a::l)) M.length=some (.abs a):=by
   unfold hpO
   rw [ax,cC,if_neg (by omega),Nat.sub_self]
   rfl
  have hopn:Opn (NVl lp σ) (hpO M (a::l)) (g0 (hpO M (a::l)) M.length K):=oZ ⟨(n6 (σ:=σ) M _).1,trivial⟩ hn hK0 (by show 8<=M.length;omega) hKq
  have hctr:=(Fc hlp ht 24 f).ctr hr (eP.1 h1) ⟨cn.1 h2,trivial⟩
  refine(fun x=>⟨mH x.1,x.2⟩) (iz (N:=NVl lp σ) (fB rfl) bk hM hargs hopn (fun m c h=>?_) hctr hc)
  have hlt:=aH hn
  have h:hget (hpO M (a::l)) m=some c:=h
  rw [mu hlt (by rintro rfl;obtain⟨c,hc⟩:=hK0;cases hc)]
  by_cases e:m=M.length
  ·obtain⟨c0,hc0⟩:=hK0
   rw [if_pos e,hc0];exact⟨_,rfl⟩
  ·rw [if_neg e,if_pos (aH h)];exact⟨c,h⟩
 ·simp [T.val] at h
noncomputable def qU (lp:Lp) (σ:Sg) (tab:Tab) (f:FuncId) (M:List Bool) (args:List SV) (a:AV) (ty:TypeId) (gs:Gs) (l:List AV):T (SV×List AV×List AV) :=
 oP lp σ tab f M (.v (.c (.ptr 8 0))::args) (a::l) (cD AV.len ty gs)
theorem zn (hlp:bS Tryz.prog (NVl lp σ)) {tab:Tab} (ht:bm Tryz.prog (NVl lp σ) tab) {f:FuncId} {M:List Bool} (hM:8=M.length) {args:List SV} {a:AV} {ty:TypeId} {gs:Gs} {l:List AV} (ho:a.okD=true) (hl:ia σ a=some (cD AV.len ty (dz gs))) {v:SV} {l' nw:List AV}
 (hargs:∀x∈args,ClV (hpO M (a::l)) x) (h:(qU lp σ tab f M args a ty gs l).val=some (v,l',nw)) :
 Ctr Tryz.prog (NVl lp σ) f (.v (.c (.ptr 8 0))::args) (hpO M (a::l)) v (hpO M (l'++nw)) /\ l'.length=l.length+1 :=
 jR hlp ht hM (a:=a) (K:=cD AV.len ty gs) ⟨_,rfl⟩ (fun L S w hq=>o7 ((jW (N:=NVl lp σ) rfl hl ho L S w).1 hq)) (fun x hx=>by
  rcases List.mem_cons.1 hx with rfl | hx
  ·exact tc hM
  ·exact hargs x hx) h
theorem gZ {f:FuncId} {args:List SV} {H H':Hp AV} {v:SV} (h:Ctr Tryz.prog (NVl lp σ) f args H v H'):Ctr Tryz.prog (NV σ) f args H v H':=by
 obtain⟨h1,h2,h3⟩:=h
 refine⟨h1,⟨h2.1,trivial⟩,fun ρ w hO=>(h3 ρ w (eW (N:=NV σ) (N':=NVl lp σ) rfl rfl hO)).mono ?_⟩
 rintro e w' ⟨ρ',he,o,ev⟩
 exact⟨ρ',he,eW (N:=NVl lp σ) (N':=NV σ) rfl rfl o,mC (NV σ) ev⟩
def Dw {γ α:Type} (A:ArgK γ) (O:ObK α) (ok:α->γ->Option Bool) (next:α->γ->SV×α×List AV) (args:List SV) (l:List AV):T (SV×List AV×List AV):=match args,l with
 | .v (.c (.ptr 8 0))::r,[a]=>match A.dec r,O.X a with
   | some x,some j=>tH (ok j x) (.leaf ((next j x).1,[O.V (next j x).2.1],(next j x).2.2))
   | _,_=>.fail "method"
 | _,_=>.fail "method"
theorem Is {f:FuncId} {M:List Bool} (hM:8=M.length) {γ α:Type} {A:ArgK γ} {O:ObK α} {ok:α->γ->Option Bool} {next:α->γ->SV×α×List AV}
 (hrun:∀j x,okO (ok j x)=true->∃lp tab ty gs args,bS Tryz.prog (NVl lp σ) /\ bm Tryz.prog (NV σ) tab /\ ia σ (O.V j)=some (cD AV.len ty (dz gs)) /\ cS args=true /\ (∀ρ:Nm,args.map (SV.den ρ)=(A.enc x).map (SV.den ρ)) /\
   (qU lp σ tab f M args (O.V j) ty gs []).val=some ((next j x).1,[O.V (next j x).2.1],(next j x).2.2)) :
 FnOk Tryz.prog (NV σ) f (aL isS M (Dw A O ok next)):=by
 refine b9 bk hM fun args l v l' nw h hl hargs=>?_
 unfold Dw at h
 split at h
 ·rename_i r a
  split at h
  ·rename_i x j hx hj
   replace h:=dB h
   obtain⟨hok,h⟩:=h
   simp only [T.val,Option.some.injEq,Prod.mk.injEq] at h
   obtain⟨rfl,rfl,rfl⟩:=h
   have ea:=O.ok _ _ hj
   subst ea
   obtain⟨lp,tab,ty,gs,args',e0,e00,e1,e2,e3,e4⟩:=hrun j x hok
   have hc:=zn e0 (ny e00) hM (O.okD j) e1 (bL e2) e4
   exact bE (gZ hc.1) fun ρ=>by
    simp only [List.map_cons]
    rw [e3 ρ,A.ok _ _ hx ρ]
  ·simp [T.val] at h
 ·simp [T.val] at h
def Lm (σ:Sg) (a:AV):Option (Hp AV):=match AV.okD a with | true=>ia σ a | false=>none
theorem DB (a:AV) (K:Hp AV) (l:Sx.Loc) (S:Nat->Prop) (w:World) (h:Lm σ a=some K) (hq:(NV σ).F.q a l S w):fI (NV σ) K l S w:=by
 unfold Lm at h
 split at h
 ·rename_i ho
  exact(jW (N:=NV σ) rfl h ho l S w).1 hq
 ·cases h
noncomputable def FU (σ:Sg) (s:List SV->Hp AV->T (SV×Hp AV)):List SV->Hp AV->T (SV×Hp AV):=Oc (ox σ) (Lm σ) 8 s
theorem xD {f:FuncId} {s:List SV->Hp AV->T (SV×Hp AV)} (h:FnOk Tryz.prog (NV σ) f s):FnOk Tryz.prog (NV σ) f (FU σ s):=Kh (N:=NV σ) (fB rfl) DB rfl h
structure MC (β:Type) where
 k:Nat
 r:List β
def goC {α β:Type} (x:Nat) (f:α->β) (m:MC β):List α->Ex×MC β
 | []=>(.exit x,m)
 | a::_=>(.normal,⟨m.k+1,m.r++[f a]⟩)
def oJ {α β:Type} (x:Nat) (f:α->β) (l:List α) (m:MC β):T (Ex×MC β):=.need (decide (m.k<=l.length /\ m.r.length=m.k)) (.leaf (goC x f m (l.drop m.k)))
theorem IV {α β:Type} {x:Nat} {f:α->β} {l:List α}:∀(r:List α) (k:Nat) (s:List β),l.drop k=r->k+r.length=l.length->s.length=k->bW (oJ x f l) (r.length+1) ⟨k,s⟩=some (.exit x,⟨l.length,s++r.map f⟩):=by
 intro r
 induction r with
 | nil =>
   intro k s hr hk hs
   rw [List.length_nil,bW,oJ,nv (decide_eq_true ⟨by simp only [List.length_nil] at hk;show k<=_;omega,hs⟩)]
   simp only [T.val,hr,goC,List.map_nil,List.append_nil]
   simp only [List.length_nil,Nat.add_zero] at hk
   rw [hk]
 | cons a r ih =>
   intro k s hr hk hs
   have hr2:l.drop (k+1)=r:=by
    rw [show l.drop (k+1)=(l.drop k).drop 1 by rw [List.drop_drop],hr];rfl
   rw [List.length_cons] at hk
   rw [List.length_cons,bW,oJ,nv (decide_eq_true ⟨by show k<=_;omega,hs⟩)]
   simp only [T.val,hr,goC]
   rw [ih (k+1) (s++[f a]) hr2 (by omega) (by rw [List.length_append,hs];rfl)]
   simp only [List.map_cons,List.append_assoc,List.singleton_append]
end Go.Proofs.YtcpdipfepeccgaaGreatDoor

namespace Go.Proofs.YtcpdipfepeccgaaGreatDoor
open Go Go.Sx Go.Proofs
set_option maxRecDepth 100000
variable {σ:Sg} {lp:Lp}
def hpE (e:Int) (m:RiteM):Hp AV:=g0 (hpO noM [dw m]) 8 (cD AV.len b8 (bh 46 (RiteM.wr {m with engine:=e})))
def B2 (w:W):N1:=⟨w.num⟩
def IF:List Nat:=[2,3,10,11,12]
noncomputable def LS5:Code:=dO 3 (aT (bC Tryz.f104))
noncomputable def AD (m:RiteM) (i:Int) (r:List Sp) (lr:Nat):St AV :=
 {E:=only IF [(2,.v (.c .snil)),(3,.v (.c (.vs 12 0 lr 3 false))),(10,.v (.c (.vs 9 0 m.seen.length 5 false))),(11,.v (.c (.it .i64 m.seen.length))),(12,.v (.c (.it .i64 i)))] 23,H:=(hpE 5 m)++[some (.abs (.spans r))]}
def BI (σ:Sg) (n:Nat) (l:List Sp):Bool:=decide (n=Intf.len (F6 σ) (AV.spans l) /\ (n+1) * (SI.bytes C9+1)<=lim)
theorem rS5 (σ:Sg) (m:RiteM) (i:Int) (r:List Sp) (lr:Nat):(xc (NV σ) (joinCal (lv (NV σ) aQ 5)) (fun _=>none) 23 LS5 (AD m i r lr)).bind (bR 12 23 IF bZ) =
 .ite (decide (i < (m.seen.length:Int))) (.need (decide (0<=i /\ i < (m.seen.length:Int))) (.need (decide (0+i.toNat < m.seen.length)) (.need (BI σ lr r) (.leaf (.normal,AD m (IntKind.wrap .i64 (i+1)) (r++[jt (m.seen.getD (0+i.toNat) kwords.dflt)]) (lr+1)))))) (.leaf (.exit 0,AD m i r lr)):=by kernel_rfl
theorem Es {n:Nat} {l:List Sp} (h:n=l.length) (hn:l.length<=100000):BI σ n l=true:=by
 unfold BI
 subst h
 exact decide_eq_true ⟨rfl,Nat.le_trans (Nat.mul_le_mul_right _ (Nat.succ_le_succ hn)) (by decide)⟩
noncomputable def uv (m:RiteM) (c:MC Sp):St AV:=AD m c.k c.r c.r.length
theorem Br (σ:Sg) (m:RiteM) (hm:m.seen.length<=100000) (c:MC Sp) (r:Ex×MC Sp) (h:(oJ 0 jt m.seen c).val=some r) :
 ((xc (NV σ) (joinCal (lv (NV σ) aQ 5)) (fun _=>none) 23 LS5 (uv m c)).bind (bR 12 23 IF bZ)).val=some (r.1,uv m r.2):=by
 replace h:=ah h
 obtain⟨hb,h⟩:=h
 obtain⟨h1,h2⟩:=of_decide_eq_true hb
 simp only [T.val,Option.some.injEq] at h
 subst h
 obtain⟨k,s⟩:=c
 simp only at h1 h2
 have e1:0+(k:Int).toNat=k:=by omega
 have hw:IntKind.wrap .i64 ((k:Int)+1)=((k+1:Nat):Int):=fh (by omega)
 dsimp only [uv]
 rw [rS5]
 by_cases hlt:k < m.seen.length
 ·rw [ivT (decide_eq_true (by show (k:Int) < _;omega)),nv (decide_eq_true (by omega)),nv (decide_eq_true (by omega)),nv (Es rfl (by omega)),hw,cg kwords.dflt hlt,e1]
  simp only [goC,T.val,List.length_append,List.length_cons,List.length_nil]
 ·rw [ivF (decide_eq_false (by show ¬(k:Int) < _;omega)),List.drop_eq_nil_of_le (by omega)]
  rfl
def Ts (m:RiteM) (s:St AV):Prop:=Sx.look s.E 2=.v (.c .snil) /\ Sx.look s.E 3=.v (.c .snil) /\ Sx.look s.E 10=.v (.c (.vs 9 0 m.seen.length 5 false)) /\ Sx.look s.E 11=.v (.c (.it .i64 m.seen.length)) /\ Sx.look s.E 12=.v (.c (.il .i64 0)) /\ s.H=(hpE 5 m)
noncomputable def gS5 (sp:List Sp) (m:RiteM) (s:St AV):T (Ex×St AV):=.need (cH (Ts m s)) (.leaf (.exit 0,AD m m.seen.length sp sp.length))
theorem PN {N':Env AV} (hF:N'.F=(NV σ).F) (hG:N'.G=(NV σ).G) (m:RiteM) (hm:m.seen.length<=100000):b7 Tryz.prog N' 23 LS5 (gS5 (m.seen.map jt) m):=by
 have hcal:cP Tryz.prog (NV σ) (joinCal (lv (NV σ) aQ 5)):=bo (fU okV mQ hvV au 5)
 refine cd (N:=NV σ) hF hG okV hcal (lp:=fun _=>none) (fun _ _ _ g hg=>by cases hg) fun s s' ex hgs=>?_
 obtain⟨E1,H1⟩:=s
 unfold gS5 at hgs
 replace hgs:=ah hgs
 obtain⟨hb,hgs⟩:=hgs
 obtain⟨e2,e3,e10,e11,e12,eH⟩:=cK hb
 simp only at e2 e3 e10 e11 e12 eH
 subst eH
 simp only [T.val,Option.some.injEq,Prod.mk.injEq] at hgs
 obtain⟨rfl,rfl⟩:=hgs
 refine⟨{M:=MC Sp,fam:=uv m,step:=oJ 0 jt m.seen,ks:=IF,pk:=bZ,hpk:=(fun d a h=>by cases h),L:=12,len:=rfl,hGL:=(by show 8<=12;decide),run:=Br σ m hm,m:=⟨0,[]⟩,k:=_,m':=_,ent:=?_,it:=IV m.seen 0 [] rfl (Nat.zero_add _) rfl,fin:=?_}⟩
 ·refine et (N:=NV σ) (s:=⟨E1,_⟩) (l:=[.spans []]) (fun a ha=>⟨3,kspans.ty,by simp only [List.mem_cons,List.not_mem_nil,or_false] at ha;rw [ha];rfl⟩) (by show 8<=12;decide) fun k hk=>?_
  simp only [IF,List.mem_cons,List.not_mem_nil,or_false] at hk
  rcases hk with rfl | rfl | rfl | rfl | rfl
  ·exact .inl e2.symm
  ·exact .inr (.inr ⟨e3,0,3,by decide,rfl⟩)
  ·exact .inl e10.symm
  ·exact .inl e11.symm
  ·exact .inr (.inl ⟨by show Sx.look E1 12≠_;rw [e12];rintro ⟨⟩,oT _,fun ρ=>by show _=(Sx.look E1 12).den ρ;rw [e12];rfl⟩)
 ·simp only [List.nil_append,uv]
noncomputable def Sz (sp:List Sp) (m:RiteM) (lp:Lp):Lp:=dS 104 3 (gS5 sp m) lp
theorem Sn {lp:Lp} (h:bS Tryz.prog (NVl lp σ)) (m:RiteM) (hm:m.seen.length<=100000):bS Tryz.prog (NVl (Sz (m.seen.map jt) m lp) σ) :=
 fe h (fn:=Tryz.f104) (by kernel_rfl) (c:=bC Tryz.f104) (by kernel_rfl) (nt:=23) (by kernel_rfl) (b:=LS5) (aR (by kernel_rfl)) (PN (σ:=σ) (N':=NVl lp σ) rfl rfl m hm)
def Jj (m:RiteM):Prop:=SV.v (.c .snil)=.v (.c .snil) /\ SV.v (.c .snil)=.v (.c .snil) /\ SV.v (.c (.vs 9 0 m.seen.length 5 false))=.v (.c (.vs 9 0 m.seen.length 5 false)) /\ SV.v (.c (.it .i64 m.seen.length))=.v (.c (.it .i64 m.seen.length)) /\ SV.v (.c (.il .i64 0))=.v (.c (.il .i64 0)) /\ (hpE 5 m)=(hpE 5 m)
theorem Ji (m:RiteM):cH (Jj m)=true:=cQ ⟨rfl,rfl,rfl,rfl,rfl,rfl⟩
def IG:List Nat:=[0,2,5,6,30,31,32,34,35,36]
noncomputable def LS3:Code:=dO 6 (aT (bC Tryz.f102))
noncomputable def AE (m:RiteM) (i:Int) (r:List N1) (lr:Nat):St AV :=
 {E:=only IG [(0,.v (.c (.ptr 8 0))),(2,.v (.c (.vs 12 0 lr 1 false))),(5,.v (.c (.ptr 8 0))),(6,.v (.c (.ptr 8 0))),(30,.v (.c (.ptr 8 0))),(31,.v (.c (.ptr 8 0))),(32,.v (.c (.ptr 8 0))),(34,.v (.c (.vs 9 0 m.seen.length 5 false))),(35,.v (.c (.it .i64 m.seen.length))),(36,.v (.c (.it .i64 i)))] 97,H:=(hpE 3 m)++[some (.abs (.ints r))]}
def BJ (σ:Sg) (n:Nat) (l:List N1):Bool:=decide (n=Intf.len (F6 σ) (AV.ints l) /\ (n+1) * (SI.bytes zk+1)<=lim)
theorem rS3 (σ:Sg) (m:RiteM) (i:Int) (r:List N1) (lr:Nat):(xc (NV σ) (joinCal (lv (NV σ) aQ 5)) (fun _=>none) 97 LS3 (AE m i r lr)).bind (bR 12 97 IG bZ) =
 .ite (decide (i < (m.seen.length:Int))) (.need (decide (0<=i /\ i < (m.seen.length:Int))) (.need (decide (0+i.toNat < m.seen.length)) (.need (BJ σ lr r) (.leaf (.normal,AE m (IntKind.wrap .i64 (i+1)) (r++[B2 (m.seen.getD (0+i.toNat) kwords.dflt)]) (lr+1)))))) (.leaf (.exit 1,AE m i r lr)):=by kernel_rfl
theorem Et {n:Nat} {l:List N1} (h:n=l.length) (hn:l.length<=100000):BJ σ n l=true:=by
 unfold BJ
 subst h
 exact decide_eq_true ⟨rfl,Nat.le_trans (Nat.mul_le_mul_right _ (Nat.succ_le_succ hn)) (by decide)⟩
noncomputable def uw (m:RiteM) (c:MC N1):St AV:=AE m c.k c.r c.r.length
theorem Bs (σ:Sg) (m:RiteM) (hm:m.seen.length<=100000) (c:MC N1) (r:Ex×MC N1) (h:(oJ 1 B2 m.seen c).val=some r) :
 ((xc (NV σ) (joinCal (lv (NV σ) aQ 5)) (fun _=>none) 97 LS3 (uw m c)).bind (bR 12 97 IG bZ)).val=some (r.1,uw m r.2):=by
 replace h:=ah h
 obtain⟨hb,h⟩:=h
 obtain⟨h1,h2⟩:=of_decide_eq_true hb
 simp only [T.val,Option.some.injEq] at h
 subst h
 obtain⟨k,s⟩:=c
 simp only at h1 h2
 have e1:0+(k:Int).toNat=k:=by omega
 have hw:IntKind.wrap .i64 ((k:Int)+1)=((k+1:Nat):Int):=fh (by omega)
 dsimp only [uw]
 rw [rS3]
 by_cases hlt:k < m.seen.length
 ·rw [ivT (decide_eq_true (by show (k:Int) < _;omega)),nv (decide_eq_true (by omega)),nv (decide_eq_true (by omega)),nv (Et rfl (by omega)),hw,cg kwords.dflt hlt,e1]
  simp only [goC,T.val,List.length_append,List.length_cons,List.length_nil]
 ·rw [ivF (decide_eq_false (by show ¬(k:Int) < _;omega)),List.drop_eq_nil_of_le (by omega)]
  rfl
def Tt (m:RiteM) (s:St AV):Prop:=Sx.look s.E 0=.v (.c (.ptr 8 0)) /\ Sx.look s.E 2=.v (.c .snil) /\ Sx.look s.E 5=.v (.c (.ptr 8 0)) /\ Sx.look s.E 6=.v (.c (.ptr 8 0)) /\ Sx.look s.E 30=.v (.c (.ptr 8 0)) /\ Sx.look s.E 31=.v (.c (.ptr 8 0)) /\ Sx.look s.E 32=.v (.c (.ptr 8 0)) /\ Sx.look s.E 34=.v (.c (.vs 9 0 m.seen.length 5 false)) /\ Sx.look s.E 35=.v (.c (.it .i64 m.seen.length)) /\ Sx.look s.E 36=.v (.c (.il .i64 0)) /\ s.H=(hpE 3 m)
noncomputable def gS3 (sp:List N1) (m:RiteM) (s:St AV):T (Ex×St AV):=.need (cH (Tt m s)) (.leaf (.exit 1,AE m m.seen.length sp sp.length))
theorem PO {N':Env AV} (hF:N'.F=(NV σ).F) (hG:N'.G=(NV σ).G) (m:RiteM) (hm:m.seen.length<=100000):b7 Tryz.prog N' 97 LS3 (gS3 (m.seen.map B2) m):=by
 have hcal:cP Tryz.prog (NV σ) (joinCal (lv (NV σ) aQ 5)):=bo (fU okV mQ hvV au 5)
 refine cd (N:=NV σ) hF hG okV hcal (lp:=fun _=>none) (fun _ _ _ g hg=>by cases hg) fun s s' ex hgs=>?_
 obtain⟨E1,H1⟩:=s
 unfold gS3 at hgs
 replace hgs:=ah hgs
 obtain⟨hb,hgs⟩:=hgs
 obtain⟨e0,e2,e5,e6,e30,e31,e32,e34,e35,e36,eH⟩:=cK hb
 simp only at e0 e2 e5 e6 e30 e31 e32 e34 e35 e36 eH
 subst eH
 simp only [T.val,Option.some.injEq,Prod.mk.injEq] at hgs
 obtain⟨rfl,rfl⟩:=hgs
 refine⟨{M:=MC N1,fam:=uw m,step:=oJ 1 B2 m.seen,ks:=IG,pk:=bZ,hpk:=(fun d a h=>by cases h),L:=12,len:=rfl,hGL:=(by show 8<=12;decide),run:=Bs σ m hm,m:=⟨0,[]⟩,k:=_,m':=_,ent:=?_,it:=IV m.seen 0 [] rfl (Nat.zero_add _) rfl,fin:=?_}⟩
 ·refine et (N:=NV σ) (s:=⟨E1,_⟩) (l:=[.ints []]) (fun a ha=>⟨1,kints.ty,by simp only [List.mem_cons,List.not_mem_nil,or_false] at ha;rw [ha];rfl⟩) (by show 8<=12;decide) fun k hk=>?_
  simp only [IG,List.mem_cons,List.not_mem_nil,or_false] at hk
  rcases hk with rfl | rfl | rfl | rfl | rfl | rfl | rfl | rfl | rfl | rfl
  ·exact .inl e0.symm
  ·exact .inr (.inr ⟨e2,0,1,by decide,rfl⟩)
  ·exact .inl e5.symm
  ·exact .inl e6.symm
  ·exact .inl e30.symm
  ·exact .inl e31.symm
  ·exact .inl e32.symm
  ·exact .inl e34.symm
  ·exact .inl e35.symm
  ·exact .inr (.inl ⟨by show Sx.look E1 36≠_;rw [e36];rintro ⟨⟩,oT _,fun ρ=>by show _=(Sx.look E1 36).den ρ;rw [e36];rfl⟩)
 ·simp only [List.nil_append,uw]
noncomputable def SA (sp:List N1) (m:RiteM) (lp:Lp):Lp:=dS 102 6 (gS3 sp m) lp
theorem So {lp:Lp} (h:bS Tryz.prog (NVl lp σ)) (m:RiteM) (hm:m.seen.length<=100000):bS Tryz.prog (NVl (SA (m.seen.map B2) m lp) σ) :=
 fe h (fn:=Tryz.f102) (by kernel_rfl) (c:=bC Tryz.f102) (by kernel_rfl) (nt:=97) (by kernel_rfl) (b:=LS3) (aR (by kernel_rfl)) (PO (σ:=σ) (N':=NVl lp σ) rfl rfl m hm)
def Jl (m:RiteM):Prop:=SV.v (.c (.ptr 8 0))=.v (.c (.ptr 8 0)) /\ SV.v (.c .snil)=.v (.c .snil) /\ SV.v (.c (.ptr 8 0))=.v (.c (.ptr 8 0)) /\ SV.v (.c (.ptr 8 0))=.v (.c (.ptr 8 0)) /\ SV.v (.c (.ptr 8 0))=.v (.c (.ptr 8 0)) /\ SV.v (.c (.ptr 8 0))=.v (.c (.ptr 8 0)) /\ SV.v (.c (.ptr 8 0))=.v (.c (.ptr 8 0)) /\ SV.v (.c (.vs 9 0 m.seen.length 5 false))=.v (.c (.vs 9 0 m.seen.length 5 false)) /\ SV.v (.c (.it .i64 m.seen.length))=.v (.c (.it .i64 m.seen.length)) /\ SV.v (.c (.il .i64 0))=.v (.c (.il .i64 0)) /\ (hpE 3 m)=(hpE 3 m)
theorem Jk (m:RiteM):cH (Jl m)=true:=cQ ⟨rfl,rfl,rfl,rfl,rfl,rfl,rfl,rfl,rfl,rfl,rfl⟩
end Go.Proofs.YtcpdipfepeccgaaGreatDoor
