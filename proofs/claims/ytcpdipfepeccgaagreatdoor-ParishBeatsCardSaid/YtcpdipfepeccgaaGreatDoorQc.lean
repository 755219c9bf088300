import Derived.Test.YtcpdipfepeccgaaGreatDoorOp
import Derived.Test.YtcpdipfepeccgaaGreatDoorSxOh
set_option linter.unusedVariables false
set_option linter.unusedSimpArgs false
set_option maxHeartbeats 4000000
namespace Go.Proofs.YtcpdipfepeccgaaGreatDoor
open Go Go.Sx Go.Proofs
set_option maxRecDepth 100000
variable {σ:Sg}
def aNo:ArgK Unit where
 enc _:=[]
 dec:=fun | []=>some () | _=>none
 ok:=fun l a h ρ=>by split at h<;>cases h;rfl
 free:=fun _=>rfl
def vBo:ValK Bool where
 enc b:=.v (.c (.bt b))
 dec:=fun | .v (.c (.bt b))=>some b | _=>none
 ok:=fun v b h=>by split at h<;>cases h;rfl
def vRp:ValK Rp1 where
 enc x:=.v (.agg (gsC (Rp1.wr x)))
 dec:=fun | .v (.agg cs)=>(match Rp1.rd (cs.map .p) with | some (c,[])=>some c | _=>none) | _=>none
 ok:=fun v b h=>by
  split at h
  ·split at h
   ·rename_i hc
    cases h
    have:=Rp1.rd_s hc
    rw [List.append_nil] at this
    rw [<- this,ju]
   ·cases h
  ·cases h
def Oi:ValK (Acc×Bool) where
 enc c:=.tup [.agg (gsC (Acc.wr c.1)),.c (.bt c.2)]
 dec:=fun | .tup [.agg cs,.c (.bt b)]=>(match Acc.rd (cs.map .p) with | some (c,[])=>some (c,b) | _=>none) | _=>none
 ok:=fun v b h=>by
  split at h
  ·split at h
   ·rename_i hc
    cases h
    have:=Acc.rd_s hc
    rw [List.append_nil] at this
    rw [<- this,ju]
   ·cases h
  ·cases h
def eE (m:RiteM):Bool:=!(m.step==0)
def fJ (m:RiteM):Acc×Bool:=cond (!eE m) (wu,false) (m.acc,true)
def tV {β:Type} (v:β) (m:RiteM):T (Option (β×RiteM)):=.need (wD (rOf m)) (.leaf (some (v,m)))
theorem vV {β:Type} (v:β) (m:RiteM):(tV v m).val=some (some (v,m)):=by
 unfold tV
 rw [rU rfl rfl rfl]
 rfl
theorem KL (σ:Sg) (m:RiteM):(cM σ aQ 37 noM [] (dw m) b8 (RiteM.wr m) []).map (eO Oi oRite)=tI (!eE m) (tV (wu,false) m) (tV (m.acc,true) m):=by kernel_rfl
theorem EC:FnOk Tryz.prog (NV σ) 37 (aL isS noM (cU aNo Oi oRite (fun _ _=>none) (fun m _=>(fJ m,m)))) :=
 fK au rfl fun m x _=>⟨b8,RiteM.wr m,rfl,[],rfl,fun _=>rfl,by
  rw [KL];unfold fJ
  cases h:eE m
  ·exact vV _ _
  ·exact vV _ _⟩
theorem Hm (σ:Sg) (m:RiteM):(cM σ aQ 59 noM [] (dw m) b8 (RiteM.wr m) []).map (eO vRp oRite)=tV m.reply m:=by kernel_rfl
theorem BN:FnOk Tryz.prog (NV σ) 59 (aL isS noM (cU aNo vRp oRite (fun _ _=>none) (fun m _=>(m.reply,m)))) :=
 fK au rfl fun m x _=>⟨b8,RiteM.wr m,rfl,[],rfl,fun _=>rfl,by rw [Hm];exact vV _ _⟩
theorem KM (σ:Sg) (m:RiteM):(cM σ aQ 58 noM [] (dw m) b8 (RiteM.wr m) []).map (eO vBo oRite)=tV (eE m) m:=by kernel_rfl
theorem pX:FnOk Tryz.prog (NV σ) 58 (aL isS noM (cU aNo vBo oRite (fun _ _=>none) (fun m _=>(eE m,m)))) :=
 fK au rfl fun m x _=>⟨b8,RiteM.wr m,rfl,[],rfl,fun _=>rfl,by rw [KM];exact vV _ _⟩
end Go.Proofs.YtcpdipfepeccgaaGreatDoor

namespace Go.Proofs.YtcpdipfepeccgaaGreatDoor
open Go Go.Sx Go.Proofs
set_option maxRecDepth 100000
variable {σ:Sg} {lp:Lp}
abbrev Bk:Nat:=24
abbrev Bj:Nat:=231
abbrev Bi:Nat:=75
abbrev vz:Nat:=235
structure MA where
 k:Nat
 b:Bool
def goA {α:Type} (p:α->Bool) (m:MA):List α->Ex×MA
 | []=>(.exit 0,m)
 | a::_=>match p a with | true=>(.ret,⟨m.k,true⟩) | false=>(.normal,⟨m.k+1,false⟩)
def jN {α:Type} (l:List α) (p:α->Bool) (m:MA):T (Ex×MA):=.need (decide (m.k<=l.length /\ m.b=false)) (.leaf (goA p m (l.drop m.k)))
def dH {α:Type} (p:α->Bool):Nat->List α->Nat
 | k,[]=>k
 | k,a::r=>match p a with | true=>k | false=>dH p (k+1) r
def iV {α:Type} (p:α->Bool) (k:Nat) (l:List α):Ex×MA:=match l.any p with | true=>(.ret,⟨dH p k l,true⟩) | false=>(.exit 0,⟨k+l.length,false⟩)
theorem Am {α:Type} {l:List α} {p:α->Bool}:∀(r:List α) (k:Nat),l.drop k=r->k<=l.length->bW (jN l p) (r.length+1) ⟨k,false⟩=some (iV p k r):=by
 intro r
 induction r with
 | nil =>
   intro k hr hk
   rw [List.length_nil,bW,jN,nv (decide_eq_true ⟨hk,rfl⟩)]
   simp only [T.val,hr,goA]
   rfl
 | cons a r ih =>
   intro k hr hk
   have hlt:k < l.length:=by
    rcases Nat.lt_or_ge k l.length with h | h
    ·exact h
    ·rw [List.drop_eq_nil_of_le h] at hr;cases hr
   have hr2:l.drop (k+1)=r:=by
    rw [show l.drop (k+1)=(l.drop k).drop 1 by rw [List.drop_drop],hr];rfl
   rw [List.length_cons,bW,jN,nv (decide_eq_true ⟨hk,rfl⟩)]
   simp only [T.val,hr,goA]
   cases ha:p a with
   | true=>simp only [iV,List.any_cons,ha,Bool.true_or,dH]
   | false =>
     simp only [ih (k+1) hr2 (by omega),iV,List.any_cons,ha,Bool.false_or,dH,List.length_cons]
     rw [show k+1+r.length=k+(r.length+1) by omega]
theorem sF:bm Tryz.prog (NVl lp σ) aQ:=fun f g h=>by cases h
def ks1:List Nat:=[2,3,6,7,8]
def bO (x:Nt) (w:W):Bool:=w.slot==x.slot
def dF (x:Nt) (e:N1):Bool:=de (decide (e.val > 0)) (de (decide (x.birth<=e.val)) (decide (e.val<=x.death)))
def bM (x:Nt) (s:Sp):Bool:=de s.is (de (decide (s.low<=x.death)) (decide (s.high>=x.birth)))
theorem cg {α:Type} (d:α):∀{l:List α} {k:Nat},k < l.length->l.drop k=l.getD k d::l.drop (k+1)
 | [],k,h=>by cases h
 | a::r,0,h=>rfl
 | a::r,k+1,h=>by
   have:=cg d (l:=r) (k:=k) (Nat.lt_of_succ_lt_succ h)
   exact this
theorem K3 (b:Bool):Plain (.v (.c (.bt b))):=by intro x hx;simp [V1.cells] at hx;subst hx;rfl
theorem oT (n:Int):Plain (.v (.c (.it .i64 n))):=by intro x hx;simp [V1.cells] at hx;subst hx;rfl
noncomputable def L1:Code:=dO 2 (aT (bC Tryz.f125))
def JD (q:Nat) (l:List W):List (Chunk AV):=[.cells [.vs 9 0 q 5 false] Bi,.abs (.words l)]
def Cp (x:Nt) (q:Nat) (l:List W) (i:Int) (b:Bool):St AV :=
 {E:=only ks1 [(2,.v (.c (.ptr 10 0))),(3,.v (.c (.bl b))),(6,.v (.c (.vs 9 0 q 5 false))),(7,.v (.c (.it .i64 q))),(8,.v (.c (.it .i64 i)))] 19,H:=hpC noM [.cells [.vs 9 0 q 5 false] Bi,.abs (.words l),.cells (Nt.enc x) vz]}
theorem s1R (σ:Sg) (x:Nt) (q:Nat) (l:List W) (i:Int):(xc (NV σ) (joinCal (lv (NV σ) aQ 5)) (fun _=>none) 19 L1 (Cp x q l i false)).bind (bR 11 19 ks1 bZ)=.ite (decide (i < (q:Int))) (.need (decide (0<=i /\ i < (q:Int))) (.need (decide (0+i.toNat < l.length)) (.ite (bO x (l.getD (0+i.toNat) kwords.dflt)) (.leaf (.ret,Cp x q l i true)) (.leaf (.normal,Cp x q l (IntKind.wrap .i64 (i+1)) false))))) (.leaf (.exit 0,Cp x q l i false)):=by kernel_rfl
def wT (x:Nt) (l:List W) (m:MA):St AV:=Cp x l.length l m.k m.b
theorem Em (σ:Sg) (x:Nt) (l:List W) (hl:l.length<=100000) (m:MA) (r:Ex×MA) (h:(jN l (bO x) m).val=some r) :
 ((xc (NV σ) (joinCal (lv (NV σ) aQ 5)) (fun _=>none) 19 L1 (wT x l m)).bind (bR 11 19 ks1 bZ)).val=some (r.1,wT x l r.2):=by
 replace h:=ah h
 obtain⟨hb,h⟩:=h
 obtain⟨h1,h2⟩:=of_decide_eq_true hb
 simp only [T.val,Option.some.injEq] at h
 subst h
 obtain⟨k,b⟩:=m
 simp only at h1 h2
 subst h2
 have e1:0+(k:Int).toNat=k:=by omega
 have hw:IntKind.wrap .i64 ((k:Int)+1)=((k+1:Nat):Int):=fh (by omega)
 dsimp only [wT]
 rw [s1R]
 by_cases hk:k < l.length
 ·rw [ivT (decide_eq_true (by show (k:Int) < _;omega)),nv (decide_eq_true (by omega)),e1,nv (decide_eq_true hk),hw]
  have ed:l.drop k=l.getD k kwords.dflt::l.drop (k+1):=by
   exact cg _ hk
  rw [ed]
  cases hp:bO x (l.getD k kwords.dflt) with
  | true=>simp only [goA,hp];rfl
  | false=>simp only [goA,hp];rfl
 ·rw [ivF (decide_eq_false (by show ¬(k:Int) < _;omega)),List.drop_eq_nil_of_le (by omega)]
  rfl
noncomputable def g1 (an:Nt->List W->Bool) (ix:Nt->List W->Nat) (s:St AV):T (Ex×St AV):=match fX s.H 0 noM with
 | some [some (.cells [.vs 9 0 q 5 false] ty),some (.abs (.words l)),some (.cells [.it .i64 a,.it .i64 b,.it .i64 c,.it .i64 d,.bt e,.it .i64 f,.it .i64 g] ty2)] =>
   match Sx.look s.E 2,Sx.look s.E 3,Sx.look s.E 6,Sx.look s.E 7,Sx.look s.E 8,Nat.beq ty Bi,Nat.beq ty2 vz with
   | .v (.c (.ptr 10 0)),.v (.c (.bl false)),.v (.c (.vs 9 0 q1 5 false)),.v (.c (.it .i64 q2)),.v (.c (.il .i64 0)),true,true =>
     .need (decide (q=l.length /\ q1=q /\ q2=(q:Int) /\ l.length<=100000)) (.ite (an ⟨a,b,c,d,e,f,g⟩ l) (.leaf (.ret,Cp ⟨a,b,c,d,e,f,g⟩ l.length l (ix ⟨a,b,c,d,e,f,g⟩ l) true)) (.leaf (.exit 0,Cp ⟨a,b,c,d,e,f,g⟩ l.length l l.length false)))
   | _,_,_,_,_,_,_=>.fail "kept"
 | _=>.fail "kept"
theorem S9 {N':Env AV} (hF:N'.F=(NV σ).F) (hG:N'.G=(NV σ).G):b7 Tryz.prog N' 19 L1 (g1 (fun x l=>l.any (bO x)) (fun x l=>dH (bO x) 0 l)):=by
 have hcal:cP Tryz.prog (NV σ) (joinCal (lv (NV σ) aQ 5)):=bo (fU okV mQ hvV au 5)
 refine cd (N:=NV σ) hF hG okV hcal (lp:=fun _=>none) (fun _ _ _ g hg=>by cases hg) fun s s' ex hgs=>?_
 obtain⟨E1,H1⟩:=s
 unfold g1 at hgs
 split at hgs
 ·rename_i q ty l a b c d e f g ty2 hs
  have hs:=dJ hs
  simp only at hs
  subst hs
  split at hgs
  ·rename_i q1 q2 e2 e3 e6 e7 e8 ety ety2
   have ety:=(af _ _).1 ety
   have ety2:=(af _ _).1 ety2
   subst ety ety2
   simp only at e2 e3 e6 e7 e8
   replace hgs:=ah hgs
   obtain⟨hb,hgs⟩:=hgs
   obtain⟨rfl,rfl,rfl,hl⟩:=of_decide_eq_true hb
   have hgo:(ex,s')=((iV (bO ⟨a,b,c,d,e,f,g⟩) 0 l).1,wT ⟨a,b,c,d,e,f,g⟩ l (iV (bO ⟨a,b,c,d,e,f,g⟩) 0 l).2):=by
    cases ha:l.any (bO ⟨a,b,c,d,e,f,g⟩) with
    | true =>
      rw [ivT ha] at hgs
      simp only [T.val,Option.some.injEq] at hgs
      rw [<- hgs];unfold iV;rw [ha];rfl
    | false =>
      rw [ivF ha] at hgs
      simp only [T.val,Option.some.injEq] at hgs
      rw [<- hgs];unfold iV;rw [ha]
      simp only [wT,Nat.zero_add]
   simp only [Prod.mk.injEq] at hgo
   obtain⟨rfl,rfl⟩:=hgo
   refine⟨{M:=MA,fam:=wT ⟨a,b,c,d,e,f,g⟩ l,step:=jN l (bO ⟨a,b,c,d,e,f,g⟩),ks:=ks1,pk:=bZ,hpk:=(fun d a h=>by cases h),L:=11,len:=rfl,hGL:=(by show 8<=11;decide),run:=Em σ ⟨a,b,c,d,e,f,g⟩ l hl,m:=⟨0,false⟩,k:=_,m':=_,ent:=?_,it:=Am l 0 rfl (Nat.zero_le _),fin:=rfl}⟩
   refine kf (N:=NV σ) (nt:=19) (E:=E1) (ks:=ks1) (E':=[(2,.v (.c (.ptr 10 0))),(3,.v (.c (.bl false))),(6,.v (.c (.vs 9 0 l.length 5 false))),(7,.v (.c (.it .i64 l.length))),(8,.v (.c (.it .i64 (0:Nat))))]) fun k hk=>?_
   simp only [ks1,List.mem_cons,List.not_mem_nil,or_false] at hk
   rcases hk with rfl | rfl | rfl | rfl | rfl
   ·exact .inl e2.symm
   ·exact .inl e3.symm
   ·exact .inl e6.symm
   ·exact .inl e7.symm
   ·exact .inr ⟨by rw [e8];rintro ⟨⟩,oT _,fun ρ=>by rw [e8];rfl⟩
  ·simp [T.val] at hgs
 ·simp [T.val] at hgs
noncomputable def lp1 (an:Nt->List W->Bool) (ix:Nt->List W->Nat):Lp:=dS 125 2 (g1 an ix) cZ
theorem Ul:bS Tryz.prog (NVl (lp1 (fun x l=>l.any (bO x)) (fun x l=>dH (bO x) 0 l)) σ) :=
 fe fL (fn:=Tryz.f125) (by kernel_rfl) (c:=bC Tryz.f125) (by kernel_rfl) (nt:=19) (by kernel_rfl) (b:=L1) (aR (by kernel_rfl)) (S9 rfl rfl)
theorem c1R (σ:Sg) (an:Nt->List W->Bool) (ix:Nt->List W->Nat) (x:Nt) (q:Nat) (l:List W):runC (lp1 an ix) σ aQ 125 noM [.v (.agg (Nt.enc x)),.v (.c (.ptr 8 0))] (JD q l) =
 .need (decide (q=l.length /\ q=q /\ (q:Int)=(q:Int) /\ l.length<=100000)) (.ite (an x l) (.leaf (stV (.v (.c (.bl true)),hpC noM (JD l.length l)))) (.leaf (stV (.v (.c (.bl false)),hpC noM (JD l.length l))))):=by kernel_rfl
def sv1 (an:Nt->List W->Bool) (args:List SV) (ch:List (Chunk AV)):T (SV×List (Chunk AV)×List (Chunk AV)):=match args,ch with
 | [.v (.agg [.it .i64 a,.it .i64 b,.it .i64 c,.it .i64 d,.bt e,.it .i64 f,.it .i64 g]),.v (.c (.ptr 8 0))],[.cells [.vs 9 0 q 5 false] ty,.abs (.words l)]=>match Nat.beq ty Bi with
   | true=>.need (decide (q=l.length /\ l.length<=100000)) (.leaf (.v (.c (.bt (an ⟨a,b,c,d,e,f,g⟩ l))),JD q l,[]))
   | false=>.fail "kept"
 | _,_=>.fail "kept"
theorem GA:FnOk Tryz.prog (NV σ) 125 (jf isS noM (sv1 fun x l=>l.any (bO x))):=by
 refine eh (N:=NVl (lp1 (fun x l=>l.any (bO x)) (fun x l=>dH (bO x) 0 l)) σ) (N':=NV σ) rfl rfl (gr bk rfl fun args ch v l' nw h hlen ha hC=>?_)
 unfold sv1 at h
 split at h
 ·rename_i a b c d e f g q ty l
  split at h
  ·rename_i ety
   have ety:=(af _ _).1 ety
   subst ety
   replace h:=ah h
   obtain⟨hb,h⟩:=h
   obtain⟨rfl,hl⟩:=of_decide_eq_true hb
   simp only [T.val,Option.some.injEq,Prod.mk.injEq] at h
   obtain⟨rfl,rfl,rfl⟩:=h
   have hr:(runC (lp1 (fun x l=>l.any (bO x)) (fun x l=>dH (bO x) 0 l)) σ aQ 125 noM [.v (.agg [.it .i64 a,.it .i64 b,.it .i64 c,.it .i64 d,.bt e,.it .i64 f,.it .i64 g]),.v (.c (.ptr 8 0))] [.cells [.vs 9 0 l.length 5 false] Bi,.abs (.words l)]).val=some (stV (.v (.c (.bl (l.any (bO ⟨a,b,c,d,e,f,g⟩)))),hpC noM (JD l.length l))):=by
    refine(congrArg T.val (c1R σ (fun x l=>l.any (bO x)) (fun x l=>dH (bO x) 0 l) ⟨a,b,c,d,e,f,g⟩ l.length l)).trans ?_
    rw [nv (decide_eq_true ⟨rfl,rfl,rfl,hl⟩)]
    cases hp:l.any (bO ⟨a,b,c,d,e,f,g⟩) with
    | true=>rfl
    | false=>rfl
   exact kJ (v:=.v (.c (.bl (l.any (bO ⟨a,b,c,d,e,f,g⟩))))) (dZ Ul sF rfl hr (by rintro ⟨⟩)) ((K3 _).cl _) fun ρ=>rfl
  ·simp [T.val] at h
 ·simp [T.val] at h
noncomputable def L2:Code:=dO 2 (aT (bC Tryz.f126))
def JC (q:Nat) (l:List N1):List (Chunk AV):=[.cells [.vs 9 0 q 1 false] Bk,.abs (.ints l)]
def Co (x:Nt) (q:Nat) (l:List N1) (i:Int) (b:Bool):St AV :=
 {E:=only ks1 [(2,.v (.c (.ptr 10 0))),(3,.v (.c (.bl b))),(6,.v (.c (.vs 9 0 q 1 false))),(7,.v (.c (.it .i64 q))),(8,.v (.c (.it .i64 i)))] 27,H:=hpC noM [.cells [.vs 9 0 q 1 false] Bk,.abs (.ints l),.cells (Nt.enc x) vz]}
theorem s2R (σ:Sg) (x:Nt) (q:Nat) (l:List N1) (i:Int):(xc (NV σ) (joinCal (lv (NV σ) aQ 5)) (fun _=>none) 27 L2 (Co x q l i false)).bind (bR 11 27 ks1 bZ)=.ite (decide (i < (q:Int))) (.need (match decide (0<=i /\ i < (q:Int)) with | true=>decide (0+i.toNat < l.length) | false=>false) (.ite (dF x (l.getD (0+i.toNat) kints.dflt)) (.leaf (.ret,Co x q l i true)) (.leaf (.normal,Co x q l (IntKind.wrap .i64 (i+1)) false)))) (.leaf (.exit 0,Co x q l i false)):=by kernel_rfl
def wS (x:Nt) (l:List N1) (m:MA):St AV:=Co x l.length l m.k m.b
theorem El (σ:Sg) (x:Nt) (l:List N1) (hl:l.length<=100000) (m:MA) (r:Ex×MA) (h:(jN l (dF x) m).val=some r) :
 ((xc (NV σ) (joinCal (lv (NV σ) aQ 5)) (fun _=>none) 27 L2 (wS x l m)).bind (bR 11 27 ks1 bZ)).val=some (r.1,wS x l r.2):=by
 replace h:=ah h
 obtain⟨hb,h⟩:=h
 obtain⟨h1,h2⟩:=of_decide_eq_true hb
 simp only [T.val,Option.some.injEq] at h
 subst h
 obtain⟨k,b⟩:=m
 simp only at h1 h2
 subst h2
 have e1:0+(k:Int).toNat=k:=by omega
 have hw:IntKind.wrap .i64 ((k:Int)+1)=((k+1:Nat):Int):=fh (by omega)
 dsimp only [wS]
 rw [s2R]
 by_cases hk:k < l.length
 ·rw [ivT (decide_eq_true (by show (k:Int) < _;omega)),e1,nv (by rw [decide_eq_true (show 0<=(k:Int) /\ (k:Int) < (l.length:Int) by omega),decide_eq_true hk]),hw]
  have ed:l.drop k=l.getD k kints.dflt::l.drop (k+1):=by
   exact cg _ hk
  rw [ed]
  cases hp:dF x (l.getD k kints.dflt) with
  | true=>simp only [goA,hp];rfl
  | false=>simp only [goA,hp];rfl
 ·rw [ivF (decide_eq_false (by show ¬(k:Int) < _;omega)),List.drop_eq_nil_of_le (by omega)]
  rfl
noncomputable def g2 (an:Nt->List N1->Bool) (ix:Nt->List N1->Nat) (s:St AV):T (Ex×St AV):=match fX s.H 0 noM with
 | some [some (.cells [.vs 9 0 q 1 false] ty),some (.abs (.ints l)),some (.cells [.it .i64 a,.it .i64 b,.it .i64 c,.it .i64 d,.bt e,.it .i64 f,.it .i64 g] ty2)] =>
   match Sx.look s.E 2,Sx.look s.E 3,Sx.look s.E 6,Sx.look s.E 7,Sx.look s.E 8,Nat.beq ty Bk,Nat.beq ty2 vz with
   | .v (.c (.ptr 10 0)),.v (.c (.bl false)),.v (.c (.vs 9 0 q1 1 false)),.v (.c (.it .i64 q2)),.v (.c (.il .i64 0)),true,true =>
     .need (decide (q=l.length /\ q1=q /\ q2=(q:Int) /\ l.length<=100000)) (.ite (an ⟨a,b,c,d,e,f,g⟩ l) (.leaf (.ret,Co ⟨a,b,c,d,e,f,g⟩ l.length l (ix ⟨a,b,c,d,e,f,g⟩ l) true)) (.leaf (.exit 0,Co ⟨a,b,c,d,e,f,g⟩ l.length l l.length false)))
   | _,_,_,_,_,_,_=>.fail "kept"
 | _=>.fail "kept"
theorem S8 {N':Env AV} (hF:N'.F=(NV σ).F) (hG:N'.G=(NV σ).G):b7 Tryz.prog N' 27 L2 (g2 (fun x l=>l.any (dF x)) (fun x l=>dH (dF x) 0 l)):=by
 have hcal:cP Tryz.prog (NV σ) (joinCal (lv (NV σ) aQ 5)):=bo (fU okV mQ hvV au 5)
 refine cd (N:=NV σ) hF hG okV hcal (lp:=fun _=>none) (fun _ _ _ g hg=>by cases hg) fun s s' ex hgs=>?_
 obtain⟨E1,H1⟩:=s
 unfold g2 at hgs
 split at hgs
 ·rename_i q ty l a b c d e f g ty2 hs
  have hs:=dJ hs
  simp only at hs
  subst hs
  split at hgs
  ·rename_i q1 q2 e2 e3 e6 e7 e8 ety ety2
   have ety:=(af _ _).1 ety
   have ety2:=(af _ _).1 ety2
   subst ety ety2
   simp only at e2 e3 e6 e7 e8
   replace hgs:=ah hgs
   obtain⟨hb,hgs⟩:=hgs
   obtain⟨rfl,rfl,rfl,hl⟩:=of_decide_eq_true hb
   have hgo:(ex,s')=((iV (dF ⟨a,b,c,d,e,f,g⟩) 0 l).1,wS ⟨a,b,c,d,e,f,g⟩ l (iV (dF ⟨a,b,c,d,e,f,g⟩) 0 l).2):=by
    cases ha:l.any (dF ⟨a,b,c,d,e,f,g⟩) with
    | true =>
      rw [ivT ha] at hgs
      simp only [T.val,Option.some.injEq] at hgs
      rw [<- hgs];unfold iV;rw [ha];rfl
    | false =>
      rw [ivF ha] at hgs
      simp only [T.val,Option.some.injEq] at hgs
      rw [<- hgs];unfold iV;rw [ha]
      simp only [wS,Nat.zero_add]
   simp only [Prod.mk.injEq] at hgo
   obtain⟨rfl,rfl⟩:=hgo
   refine⟨{M:=MA,fam:=wS ⟨a,b,c,d,e,f,g⟩ l,step:=jN l (dF ⟨a,b,c,d,e,f,g⟩),ks:=ks1,pk:=bZ,hpk:=(fun d a h=>by cases h),L:=11,len:=rfl,hGL:=(by show 8<=11;decide),run:=El σ ⟨a,b,c,d,e,f,g⟩ l hl,m:=⟨0,false⟩,k:=_,m':=_,ent:=?_,it:=Am l 0 rfl (Nat.zero_le _),fin:=rfl}⟩
   refine kf (N:=NV σ) (nt:=27) (E:=E1) (ks:=ks1) (E':=[(2,.v (.c (.ptr 10 0))),(3,.v (.c (.bl false))),(6,.v (.c (.vs 9 0 l.length 1 false))),(7,.v (.c (.it .i64 l.length))),(8,.v (.c (.it .i64 (0:Nat))))]) fun k hk=>?_
   simp only [ks1,List.mem_cons,List.not_mem_nil,or_false] at hk
   rcases hk with rfl | rfl | rfl | rfl | rfl
   ·exact .inl e2.symm
   ·exact .inl e3.symm
   ·exact .inl e6.symm
   ·exact .inl e7.symm
   ·exact .inr ⟨by rw [e8];rintro ⟨⟩,oT _,fun ρ=>by rw [e8];rfl⟩
  ·simp [T.val] at hgs
 ·simp [T.val] at hgs
noncomputable def lp2 (an:Nt->List N1->Bool) (ix:Nt->List N1->Nat):Lp:=dS 126 2 (g2 an ix) cZ
theorem Uk:bS Tryz.prog (NVl (lp2 (fun x l=>l.any (dF x)) (fun x l=>dH (dF x) 0 l)) σ) :=
 fe fL (fn:=Tryz.f126) (by kernel_rfl) (c:=bC Tryz.f126) (by kernel_rfl) (nt:=27) (by kernel_rfl) (b:=L2) (aR (by kernel_rfl)) (S8 rfl rfl)
theorem c2R (σ:Sg) (an:Nt->List N1->Bool) (ix:Nt->List N1->Nat) (x:Nt) (q:Nat) (l:List N1):runC (lp2 an ix) σ aQ 126 noM [.v (.agg (Nt.enc x)),.v (.c (.ptr 8 0))] (JC q l) =
 .need (decide (q=l.length /\ q=q /\ (q:Int)=(q:Int) /\ l.length<=100000)) (.ite (an x l) (.leaf (stV (.v (.c (.bl true)),hpC noM (JC l.length l)))) (.leaf (stV (.v (.c (.bl false)),hpC noM (JC l.length l))))):=by kernel_rfl
def sv2 (an:Nt->List N1->Bool) (args:List SV) (ch:List (Chunk AV)):T (SV×List (Chunk AV)×List (Chunk AV)):=match args,ch with
 | [.v (.agg [.it .i64 a,.it .i64 b,.it .i64 c,.it .i64 d,.bt e,.it .i64 f,.it .i64 g]),.v (.c (.ptr 8 0))],[.cells [.vs 9 0 q 1 false] ty,.abs (.ints l)]=>match Nat.beq ty Bk with
   | true=>.need (decide (q=l.length /\ l.length<=100000)) (.leaf (.v (.c (.bt (an ⟨a,b,c,d,e,f,g⟩ l))),JC q l,[]))
   | false=>.fail "kept"
 | _,_=>.fail "kept"
theorem Gz:FnOk Tryz.prog (NV σ) 126 (jf isS noM (sv2 fun x l=>l.any (dF x))):=by
 refine eh (N:=NVl (lp2 (fun x l=>l.any (dF x)) (fun x l=>dH (dF x) 0 l)) σ) (N':=NV σ) rfl rfl (gr bk rfl fun args ch v l' nw h hlen ha hC=>?_)
 unfold sv2 at h
 split at h
 ·rename_i a b c d e f g q ty l
  split at h
  ·rename_i ety
   have ety:=(af _ _).1 ety
   subst ety
   replace h:=ah h
   obtain⟨hb,h⟩:=h
   obtain⟨rfl,hl⟩:=of_decide_eq_true hb
   simp only [T.val,Option.some.injEq,Prod.mk.injEq] at h
   obtain⟨rfl,rfl,rfl⟩:=h
   have hr:(runC (lp2 (fun x l=>l.any (dF x)) (fun x l=>dH (dF x) 0 l)) σ aQ 126 noM [.v (.agg [.it .i64 a,.it .i64 b,.it .i64 c,.it .i64 d,.bt e,.it .i64 f,.it .i64 g]),.v (.c (.ptr 8 0))] [.cells [.vs 9 0 l.length 1 false] Bk,.abs (.ints l)]).val=some (stV (.v (.c (.bl (l.any (dF ⟨a,b,c,d,e,f,g⟩)))),hpC noM (JC l.length l))):=by
    refine(congrArg T.val (c2R σ (fun x l=>l.any (dF x)) (fun x l=>dH (dF x) 0 l) ⟨a,b,c,d,e,f,g⟩ l.length l)).trans ?_
    rw [nv (decide_eq_true ⟨rfl,rfl,rfl,hl⟩)]
    cases hp:l.any (dF ⟨a,b,c,d,e,f,g⟩) with
    | true=>rfl
    | false=>rfl
   exact kJ (v:=.v (.c (.bl (l.any (dF ⟨a,b,c,d,e,f,g⟩))))) (dZ Uk sF rfl hr (by rintro ⟨⟩)) ((K3 _).cl _) fun ρ=>rfl
  ·simp [T.val] at h
 ·simp [T.val] at h
noncomputable def L3:Code:=dO 2 (aT (bC Tryz.f127))
def JB (q:Nat) (l:List Sp):List (Chunk AV):=[.cells [.vs 9 0 q 3 false] Bj,.abs (.spans l)]
def Cn (x:Nt) (q:Nat) (l:List Sp) (i:Int) (b:Bool):St AV :=
 {E:=only ks1 [(2,.v (.c (.ptr 10 0))),(3,.v (.c (.bl b))),(6,.v (.c (.vs 9 0 q 3 false))),(7,.v (.c (.it .i64 q))),(8,.v (.c (.it .i64 i)))] 29,H:=hpC noM [.cells [.vs 9 0 q 3 false] Bj,.abs (.spans l),.cells (Nt.enc x) vz]}
theorem s3R (σ:Sg) (x:Nt) (q:Nat) (l:List Sp) (i:Int):(xc (NV σ) (joinCal (lv (NV σ) aQ 5)) (fun _=>none) 29 L3 (Cn x q l i false)).bind (bR 11 29 ks1 bZ)=.ite (decide (i < (q:Int))) (.need (decide (0<=i /\ i < (q:Int))) (.need (decide (0+i.toNat < l.length)) (.ite (bM x (l.getD (0+i.toNat) kspans.dflt)) (.leaf (.ret,Cn x q l i true)) (.leaf (.normal,Cn x q l (IntKind.wrap .i64 (i+1)) false))))) (.leaf (.exit 0,Cn x q l i false)):=by kernel_rfl
def wR (x:Nt) (l:List Sp) (m:MA):St AV:=Cn x l.length l m.k m.b
theorem Ek (σ:Sg) (x:Nt) (l:List Sp) (hl:l.length<=100000) (m:MA) (r:Ex×MA) (h:(jN l (bM x) m).val=some r) :
 ((xc (NV σ) (joinCal (lv (NV σ) aQ 5)) (fun _=>none) 29 L3 (wR x l m)).bind (bR 11 29 ks1 bZ)).val=some (r.1,wR x l r.2):=by
 replace h:=ah h
 obtain⟨hb,h⟩:=h
 obtain⟨h1,h2⟩:=of_decide_eq_true hb
 simp only [T.val,Option.some.injEq] at h
 subst h
 obtain⟨k,b⟩:=m
 simp only at h1 h2
 subst h2
 have e1:0+(k:Int).toNat=k:=by omega
 have hw:IntKind.wrap .i64 ((k:Int)+1)=((k+1:Nat):Int):=fh (by omega)
 dsimp only [wR]
 rw [s3R]
 by_cases hk:k < l.length
 ·rw [ivT (decide_eq_true (by show (k:Int) < _;omega)),nv (decide_eq_true (by omega)),e1,nv (decide_eq_true hk),hw]
  have ed:l.drop k=l.getD k kspans.dflt::l.drop (k+1):=by
   exact cg _ hk
  rw [ed]
  cases hp:bM x (l.getD k kspans.dflt) with
  | true=>simp only [goA,hp];rfl
  | false=>simp only [goA,hp];rfl
 ·rw [ivF (decide_eq_false (by show ¬(k:Int) < _;omega)),List.drop_eq_nil_of_le (by omega)]
  rfl
noncomputable def g3 (an:Nt->List Sp->Bool) (ix:Nt->List Sp->Nat) (s:St AV):T (Ex×St AV):=match fX s.H 0 noM with
 | some [some (.cells [.vs 9 0 q 3 false] ty),some (.abs (.spans l)),some (.cells [.it .i64 a,.it .i64 b,.it .i64 c,.it .i64 d,.bt e,.it .i64 f,.it .i64 g] ty2)] =>
   match Sx.look s.E 2,Sx.look s.E 3,Sx.look s.E 6,Sx.look s.E 7,Sx.look s.E 8,Nat.beq ty Bj,Nat.beq ty2 vz with
   | .v (.c (.ptr 10 0)),.v (.c (.bl false)),.v (.c (.vs 9 0 q1 3 false)),.v (.c (.it .i64 q2)),.v (.c (.il .i64 0)),true,true =>
     .need (decide (q=l.length /\ q1=q /\ q2=(q:Int) /\ l.length<=100000)) (.ite (an ⟨a,b,c,d,e,f,g⟩ l) (.leaf (.ret,Cn ⟨a,b,c,d,e,f,g⟩ l.length l (ix ⟨a,b,c,d,e,f,g⟩ l) true)) (.leaf (.exit 0,Cn ⟨a,b,c,d,e,f,g⟩ l.length l l.length false)))
   | _,_,_,_,_,_,_=>.fail "kept"
 | _=>.fail "kept"
theorem S7 {N':Env AV} (hF:N'.F=(NV σ).F) (hG:N'.G=(NV σ).G):b7 Tryz.prog N' 29 L3 (g3 (fun x l=>l.any (bM x)) (fun x l=>dH (bM x) 0 l)):=by
 have hcal:cP Tryz.prog (NV σ) (joinCal (lv (NV σ) aQ 5)):=bo (fU okV mQ hvV au 5)
 refine cd (N:=NV σ) hF hG okV hcal (lp:=fun _=>none) (fun _ _ _ g hg=>by cases hg) fun s s' ex hgs=>?_
 obtain⟨E1,H1⟩:=s
 unfold g3 at hgs
 split at hgs
 ·rename_i q ty l a b c d e f g ty2 hs
  have hs:=dJ hs
  simp only at hs
  subst hs
  split at hgs
  ·rename_i q1 q2 e2 e3 e6 e7 e8 ety ety2
   have ety:=(af _ _).1 ety
   have ety2:=(af _ _).1 ety2
   subst ety ety2
   simp only at e2 e3 e6 e7 e8
   replace hgs:=ah hgs
   obtain⟨hb,hgs⟩:=hgs
   obtain⟨rfl,rfl,rfl,hl⟩:=of_decide_eq_true hb
   have hgo:(ex,s')=((iV (bM ⟨a,b,c,d,e,f,g⟩) 0 l).1,wR ⟨a,b,c,d,e,f,g⟩ l (iV (bM ⟨a,b,c,d,e,f,g⟩) 0 l).2):=by
    cases ha:l.any (bM ⟨a,b,c,d,e,f,g⟩) with
    | true =>
      rw [ivT ha] at hgs
      simp only [T.val,Option.some.injEq] at hgs
      rw [<- hgs];unfold iV;rw [ha];rfl
    | false =>
      rw [ivF ha] at hgs
      simp only [T.val,Option.some.injEq] at hgs
      rw [<- hgs];unfold iV;rw [ha]
      simp only [wR,Nat.zero_add]
   simp only [Prod.mk.injEq] at hgo
   obtain⟨rfl,rfl⟩:=hgo
   refine⟨{M:=MA,fam:=wR ⟨a,b,c,d,e,f,g⟩ l,step:=jN l (bM ⟨a,b,c,d,e,f,g⟩),ks:=ks1,pk:=bZ,hpk:=(fun d a h=>by cases h),L:=11,len:=rfl,hGL:=(by show 8<=11;decide),run:=Ek σ ⟨a,b,c,d,e,f,g⟩ l hl,m:=⟨0,false⟩,k:=_,m':=_,ent:=?_,it:=Am l 0 rfl (Nat.zero_le _),fin:=rfl}⟩
   refine kf (N:=NV σ) (nt:=29) (E:=E1) (ks:=ks1) (E':=[(2,.v (.c (.ptr 10 0))),(3,.v (.c (.bl false))),(6,.v (.c (.vs 9 0 l.length 3 false))),(7,.v (.c (.it .i64 l.length))),(8,.v (.c (.it .i64 (0:Nat))))]) fun k hk=>?_
   simp only [ks1,List.mem_cons,List.not_mem_nil,or_false] at hk
   rcases hk with rfl | rfl | rfl | rfl | rfl
   ·exact .inl e2.symm
   ·exact .inl e3.symm
   ·exact .inl e6.symm
   ·exact .inl e7.symm
   ·exact .inr ⟨by rw [e8];rintro ⟨⟩,oT _,fun ρ=>by rw [e8];rfl⟩
  ·simp [T.val] at hgs
 ·simp [T.val] at hgs
noncomputable def lp3 (an:Nt->List Sp->Bool) (ix:Nt->List Sp->Nat):Lp:=dS 127 2 (g3 an ix) cZ
theorem Uj:bS Tryz.prog (NVl (lp3 (fun x l=>l.any (bM x)) (fun x l=>dH (bM x) 0 l)) σ) :=
 fe fL (fn:=Tryz.f127) (by kernel_rfl) (c:=bC Tryz.f127) (by kernel_rfl) (nt:=29) (by kernel_rfl) (b:=L3) (aR (by kernel_rfl)) (S7 rfl rfl)
theorem c3R (σ:Sg) (an:Nt->List Sp->Bool) (ix:Nt->List Sp->Nat) (x:Nt) (q:Nat) (l:List Sp):runC (lp3 an ix) σ aQ 127 noM [.v (.agg (Nt.enc x)),.v (.c (.ptr 8 0))] (JB q l) =
 .need (decide (q=l.length /\ q=q /\ (q:Int)=(q:Int) /\ l.length<=100000)) (.ite (an x l) (.leaf (stV (.v (.c (.bl true)),hpC noM (JB l.length l)))) (.leaf (stV (.v (.c (.bl false)),hpC noM (JB l.length l))))):=by kernel_rfl
def sv3 (an:Nt->List Sp->Bool) (args:List SV) (ch:List (Chunk AV)):T (SV×List (Chunk AV)×List (Chunk AV)):=match args,ch with
 | [.v (.agg [.it .i64 a,.it .i64 b,.it .i64 c,.it .i64 d,.bt e,.it .i64 f,.it .i64 g]),.v (.c (.ptr 8 0))],[.cells [.vs 9 0 q 3 false] ty,.abs (.spans l)]=>match Nat.beq ty Bj with
   | true=>.need (decide (q=l.length /\ l.length<=100000)) (.leaf (.v (.c (.bt (an ⟨a,b,c,d,e,f,g⟩ l))),JB q l,[]))
   | false=>.fail "kept"
 | _,_=>.fail "kept"
theorem Gy:FnOk Tryz.prog (NV σ) 127 (jf isS noM (sv3 fun x l=>l.any (bM x))):=by
 refine eh (N:=NVl (lp3 (fun x l=>l.any (bM x)) (fun x l=>dH (bM x) 0 l)) σ) (N':=NV σ) rfl rfl (gr bk rfl fun args ch v l' nw h hlen ha hC=>?_)
 unfold sv3 at h
 split at h
 ·rename_i a b c d e f g q ty l
  split at h
  ·rename_i ety
   have ety:=(af _ _).1 ety
   subst ety
   replace h:=ah h
   obtain⟨hb,h⟩:=h
   obtain⟨rfl,hl⟩:=of_decide_eq_true hb
   simp only [T.val,Option.some.injEq,Prod.mk.injEq] at h
   obtain⟨rfl,rfl,rfl⟩:=h
   have hr:(runC (lp3 (fun x l=>l.any (bM x)) (fun x l=>dH (bM x) 0 l)) σ aQ 127 noM [.v (.agg [.it .i64 a,.it .i64 b,.it .i64 c,.it .i64 d,.bt e,.it .i64 f,.it .i64 g]),.v (.c (.ptr 8 0))] [.cells [.vs 9 0 l.length 3 false] Bj,.abs (.spans l)]).val=some (stV (.v (.c (.bl (l.any (bM ⟨a,b,c,d,e,f,g⟩)))),hpC noM (JB l.length l))):=by
    refine(congrArg T.val (c3R σ (fun x l=>l.any (bM x)) (fun x l=>dH (bM x) 0 l) ⟨a,b,c,d,e,f,g⟩ l.length l)).trans ?_
    rw [nv (decide_eq_true ⟨rfl,rfl,rfl,hl⟩)]
    cases hp:l.any (bM ⟨a,b,c,d,e,f,g⟩) with
    | true=>rfl
    | false=>rfl
   exact kJ (v:=.v (.c (.bl (l.any (bM ⟨a,b,c,d,e,f,g⟩))))) (dZ Uj sF rfl hr (by rintro ⟨⟩)) ((K3 _).cl _) fun ρ=>rfl
  ·simp [T.val] at h
 ·simp [T.val] at h
end Go.Proofs.YtcpdipfepeccgaaGreatDoor

namespace Go.Proofs.YtcpdipfepeccgaaGreatDoor
open Go Go.Sx Go.Proofs
set_option maxRecDepth 100000
variable {σ:Sg} {lp:Lp}
def ksD:List Nat:=[1,4,5,8,9,10]
noncomputable def LD:Code:=dO 2 (aT (bC Tryz.f124))
noncomputable def C1 (an:Nt->List W->Bool):Tab:=aC 125 (jf isS noM (sv1 an)) aQ
noncomputable def C0 (an:Nt->List N1->Bool):Tab:=aC 126 (jf isS noM (sv2 an)) aQ
noncomputable def CZ (an:Nt->List Sp->Bool):Tab:=aC 127 (jf isS noM (sv3 an)) aQ
abbrev g7 (l:List Nt) (i:Int):Nt:=l.getD (0+i.toNat) knotes.dflt
def m4 (σ:Sg) (n:Nat) (l:List Nt):Bool:=decide (n=Intf.len (F6 σ) (AV.notes l) /\ (n+1) * (SI.bytes Da+1)<=lim)
def wY (kept:List W) (kq:Nat) (q:Nat) (l:List Nt) (i:Int) (f s:List Nt) (lf ls:Nat):St AV :=
 {E:=only ksD [(1,.clo 125 [.ptr 10 0]),(4,.v (.c (.vs 11 0 lf 7 false))),(5,.v (.c (.vs 12 0 ls 7 false))),(8,.v (.c (.vs 8 0 q 7 false))),(9,.v (.c (.it .i64 q))),(10,.v (.c (.it .i64 i)))] 28,
   H:=hpC noM [.abs (.notes l),.abs (.words kept),.cells [.vs 9 0 kq 5 false] Bi,.abs (.notes f),.abs (.notes s)]}
theorem d1R (σ:Sg) (an:Nt->List W->Bool) (kept:List W) (kq q:Nat) (l:List Nt) (i:Int) (f s:List Nt) (lf ls:Nat):(xc (NV σ) (joinCal (lv (NV σ) (C1 an) 5)) (fun _=>none) 28 LD (wY kept kq q l i f s lf ls)).bind (bR 11 28 ksD bZ)=.ite (decide (i < (q:Int))) (.need (decide (0<=i /\ i < (q:Int))) (.need (decide (0+i.toNat < l.length)) (.need (decide (kq=kept.length /\ kept.length<=100000))
 (.ite (an (g7 l i) kept) (.need (m4 σ ls s) (.leaf (.normal,wY kept kq q l (IntKind.wrap .i64 (i+1)) f (s++[g7 l i]) lf (ls+1)))) (.need (m4 σ lf f) (.leaf (.normal,wY kept kq q l (IntKind.wrap .i64 (i+1)) (f++[g7 l i]) s (lf+1) ls)))))))
 (.leaf (.exit 0,wY kept kq q l i f s lf ls)):=by kernel_rfl
def wX (kept:List N1) (kq:Nat) (q:Nat) (l:List Nt) (i:Int) (f s:List Nt) (lf ls:Nat):St AV :=
 {E:=only ksD [(1,.clo 126 [.ptr 10 0]),(4,.v (.c (.vs 11 0 lf 7 false))),(5,.v (.c (.vs 12 0 ls 7 false))),(8,.v (.c (.vs 8 0 q 7 false))),(9,.v (.c (.it .i64 q))),(10,.v (.c (.it .i64 i)))] 28,
   H:=hpC noM [.abs (.notes l),.abs (.ints kept),.cells [.vs 9 0 kq 1 false] Bk,.abs (.notes f),.abs (.notes s)]}
theorem d2R (σ:Sg) (an:Nt->List N1->Bool) (kept:List N1) (kq q:Nat) (l:List Nt) (i:Int) (f s:List Nt) (lf ls:Nat):(xc (NV σ) (joinCal (lv (NV σ) (C0 an) 5)) (fun _=>none) 28 LD (wX kept kq q l i f s lf ls)).bind (bR 11 28 ksD bZ)=.ite (decide (i < (q:Int))) (.need (decide (0<=i /\ i < (q:Int))) (.need (decide (0+i.toNat < l.length)) (.need (decide (kq=kept.length /\ kept.length<=100000))
 (.ite (an (g7 l i) kept) (.need (m4 σ ls s) (.leaf (.normal,wX kept kq q l (IntKind.wrap .i64 (i+1)) f (s++[g7 l i]) lf (ls+1)))) (.need (m4 σ lf f) (.leaf (.normal,wX kept kq q l (IntKind.wrap .i64 (i+1)) (f++[g7 l i]) s (lf+1) ls)))))))
 (.leaf (.exit 0,wX kept kq q l i f s lf ls)):=by kernel_rfl
def wW (kept:List Sp) (kq:Nat) (q:Nat) (l:List Nt) (i:Int) (f s:List Nt) (lf ls:Nat):St AV :=
 {E:=only ksD [(1,.clo 127 [.ptr 10 0]),(4,.v (.c (.vs 11 0 lf 7 false))),(5,.v (.c (.vs 12 0 ls 7 false))),(8,.v (.c (.vs 8 0 q 7 false))),(9,.v (.c (.it .i64 q))),(10,.v (.c (.it .i64 i)))] 28,
   H:=hpC noM [.abs (.notes l),.abs (.spans kept),.cells [.vs 9 0 kq 3 false] Bj,.abs (.notes f),.abs (.notes s)]}
theorem d3R (σ:Sg) (an:Nt->List Sp->Bool) (kept:List Sp) (kq q:Nat) (l:List Nt) (i:Int) (f s:List Nt) (lf ls:Nat):(xc (NV σ) (joinCal (lv (NV σ) (CZ an) 5)) (fun _=>none) 28 LD (wW kept kq q l i f s lf ls)).bind (bR 11 28 ksD bZ)=.ite (decide (i < (q:Int))) (.need (decide (0<=i /\ i < (q:Int))) (.need (decide (0+i.toNat < l.length)) (.need (decide (kq=kept.length /\ kept.length<=100000))
 (.ite (an (g7 l i) kept) (.need (m4 σ ls s) (.leaf (.normal,wW kept kq q l (IntKind.wrap .i64 (i+1)) f (s++[g7 l i]) lf (ls+1)))) (.need (m4 σ lf f) (.leaf (.normal,wW kept kq q l (IntKind.wrap .i64 (i+1)) (f++[g7 l i]) s (lf+1) ls)))))))
 (.leaf (.exit 0,wW kept kq q l i f s lf ls)):=by kernel_rfl
end Go.Proofs.YtcpdipfepeccgaaGreatDoor

namespace Go.Proofs.YtcpdipfepeccgaaGreatDoor
open Go Go.Sx Go.Proofs
set_option maxRecDepth 100000
variable {σ:Sg} {lp:Lp}
theorem et {nt:Nat} {N:Env AV} {s:St AV} {ks:List Nat} {E':Ev} {l:List AV} (hl:∀a∈l,∃es ty,N.F.arr a=some (es,ty,[])) (hG:N.G<=s.H.length)
 (hE:∀k∈ks,Sx.look E' k=Sx.look s.E k \/ (Sx.look s.E k≠.unk /\ Plain (Sx.look E' k) /\ ∀ρ,(Sx.look E' k).den ρ=(Sx.look s.E k).den ρ) \/ (Sx.look s.E k=.v (.c .snil) /\ ∃j es,j < l.length /\ Sx.look E' k=.v (.c (.vs (s.H.length+j) 0 0 es false)))):Enter N nt s {E:=only ks E' nt,H:=s.H++bq l}:=by
 refine Cu (l:=l) rfl hl hG (fun k hk=>?_) fun k hk=>by simp only [dq,if_neg (show ¬k < nt by omega)]
 simp only [dq,if_pos hk]
 cases hh:hasN ks k with
 | false=>exact .inl rfl
 | true=>exact .inr (hE k ((cF _ _).1 hh))
structure MD where
 k:Nat
 f:List Nt
 s:List Nt
def goD (p:Nt->Bool) (m:MD):List Nt->Ex×MD
 | []=>(.exit 0,m)
 | a::_=>match p a with | true=>(.normal,⟨m.k+1,m.f,m.s++[a]⟩) | false=>(.normal,⟨m.k+1,m.f++[a],m.s⟩)
def lj (l:List Nt) (p:Nt->Bool) (m:MD):T (Ex×MD):=.need (decide (m.k<=l.length /\ m.f.length<=m.k /\ m.s.length<=m.k)) (.leaf (goD p m (l.drop m.k)))
def cW (p:Nt->Bool) (l:List Nt):List Nt:=l.filter fun n=>!(p n)
def dh (p:Nt->Bool) (l:List Nt):List Nt:=l.filter p
theorem DD {l:List Nt} {p:Nt->Bool}:∀(r:List Nt) (k:Nat) (f s:List Nt),l.drop k=r->k+r.length=l.length->f.length<=k->s.length<=k->bW (lj l p) (r.length+1) ⟨k,f,s⟩=some (.exit 0,⟨l.length,f++cW p r,s++dh p r⟩):=by
 intro r
 induction r with
 | nil =>
   intro k f s hr hk hf hs
   rw [List.length_nil,bW,lj,nv (decide_eq_true ⟨by simp only [List.length_nil] at hk;show k<=_;omega,hf,hs⟩)]
   simp only [T.val,hr,goD,cW,dh,List.filter_nil,List.append_nil]
   simp only [List.length_nil,Nat.add_zero] at hk
   rw [hk]
 | cons a r ih =>
   intro k f s hr hk hf hs
   have hr2:l.drop (k+1)=r:=by
    rw [show l.drop (k+1)=(l.drop k).drop 1 by rw [List.drop_drop],hr];rfl
   rw [List.length_cons] at hk
   rw [List.length_cons,bW,lj,nv (decide_eq_true ⟨by show k<=_;omega,hf,hs⟩)]
   simp only [T.val,hr,goD]
   cases ha:p a with
   | true =>
     simp only
     rw [ih (k+1) f (s++[a]) hr2 (by omega) (by omega) (by rw [List.length_append];simp only [List.length_cons,List.length_nil];omega)]
     simp only [cW,dh,List.filter_cons,ha,Bool.not_true,List.append_assoc,List.singleton_append]
     rfl
   | false =>
     simp only
     rw [ih (k+1) (f++[a]) s hr2 (by omega) (by rw [List.length_append];simp only [List.length_cons,List.length_nil];omega) (by omega)]
     simp only [cW,dh,List.filter_cons,ha,Bool.not_false,List.append_assoc,List.singleton_append]
     rfl
theorem gD {n:Nat} {l:List Nt} (h:n=l.length) (hn:l.length<=100000):m4 σ n l=true:=by
 unfold m4
 subst h
 exact decide_eq_true ⟨rfl,Nat.le_trans (Nat.mul_le_mul_right _ (Nat.succ_le_succ hn)) (by decide)⟩
def yA (kept:List W) (l:List Nt) (m:MD):St AV:=wY kept kept.length l.length l m.k m.f m.s m.f.length m.s.length
theorem Bz (σ:Sg) (kept:List W) (l:List Nt) (hk:kept.length<=100000) (hl:l.length<=100000) (m:MD) (r:Ex×MD) (h:(lj l (fun n=>kept.any (bO n)) m).val=some r) :
 ((xc (NV σ) (joinCal (lv (NV σ) (C1 (fun x l=>l.any (bO x))) 5)) (fun _=>none) 28 LD (yA kept l m)).bind (bR 11 28 ksD bZ)).val=some (r.1,yA kept l r.2):=by
 replace h:=ah h
 obtain⟨hb,h⟩:=h
 obtain⟨h1,h2,h3⟩:=of_decide_eq_true hb
 simp only [T.val,Option.some.injEq] at h
 subst h
 obtain⟨k,f,s⟩:=m
 simp only at h1 h2 h3
 have e1:0+(k:Int).toNat=k:=by omega
 have hw:IntKind.wrap .i64 ((k:Int)+1)=((k+1:Nat):Int):=fh (by omega)
 dsimp only [yA]
 rw [d1R]
 by_cases hlt:k < l.length
 ·rw [ivT (decide_eq_true (by show (k:Int) < _;omega)),nv (decide_eq_true (by omega)),nv (decide_eq_true (by omega)),nv (decide_eq_true ⟨rfl,hk⟩),hw,cg knotes.dflt hlt]
  dsimp only [g7]
  rw [e1]
  cases hp:kept.any (bO (l.getD k knotes.dflt)) with
  | true=>rw [ivT rfl,nv (gD rfl (by omega))];simp only [goD,hp,T.val,List.length_append,List.length_cons,List.length_nil]
  | false=>rw [ivF rfl,nv (gD rfl (by omega))];simp only [goD,hp,T.val,List.length_append,List.length_cons,List.length_nil]
 ·rw [ivF (decide_eq_false (by show ¬(k:Int) < _;omega)),List.drop_eq_nil_of_le (by omega)]
  rfl
noncomputable def gD1 (fr st:List W->List Nt->List Nt) (s:St AV):T (Ex×St AV):=match fX s.H 0 noM with
 | some [some (.abs (.notes l)),some (.abs (.words kept)),some (.cells [.vs 9 0 kq 5 false] ty)] =>
   match Sx.look s.E 1,Sx.look s.E 4,Sx.look s.E 5,Sx.look s.E 8,Sx.look s.E 9,Sx.look s.E 10,Nat.beq ty Bi with
   | .clo fid [.ptr 10 0],.v (.c .snil),.v (.c .snil),.v (.c (.vs 8 0 q1 7 false)),.v (.c (.it .i64 q2)),.v (.c (.il .i64 0)),true=>match Nat.beq fid 125 with
     | true=>.need (decide (q1=l.length /\ q2=(q1:Int) /\ kq=kept.length /\ kept.length<=100000 /\ l.length<=100000)) (.leaf (.exit 0,wY kept kept.length l.length l l.length (fr kept l) (st kept l) (fr kept l).length (st kept l).length))
     | false=>.fail "divide"
   | _,_,_,_,_,_,_=>.fail "divide"
 | _=>.fail "divide"
theorem PT {N':Env AV} (hF:N'.F=(NV σ).F) (hG:N'.G=(NV σ).G):b7 Tryz.prog N' 28 LD (gD1 (fun kept l=>cW (fun n=>kept.any (bO n)) l) (fun kept l=>dh (fun n=>kept.any (bO n)) l)):=by
 have hcal:cP Tryz.prog (NV σ) (joinCal (lv (NV σ) (C1 (fun x l=>l.any (bO x))) 5)):=bo (fU okV mQ hvV (aj GA au) 5)
 refine cd (N:=NV σ) hF hG okV hcal (lp:=fun _=>none) (fun _ _ _ g hg=>by cases hg) fun s s' ex hgs=>?_
 obtain⟨E1,H1⟩:=s
 unfold gD1 at hgs
 split at hgs
 ·rename_i l kept kq ty hs
  have hs:=dJ hs
  simp only at hs
  subst hs
  split at hgs
  ·rename_i fid q1 q2 e1 e4 e5 e8 e9 e10 ety
   have ety:=(af _ _).1 ety
   subst ety
   simp only at e1 e4 e5 e8 e9 e10
   split at hgs
   ·rename_i efid
    have efid:=(af _ _).1 efid
    subst efid
    replace hgs:=ah hgs
    obtain⟨hb,hgs⟩:=hgs
    obtain⟨rfl,rfl,rfl,hk,hl⟩:=of_decide_eq_true hb
    simp only [T.val,Option.some.injEq,Prod.mk.injEq] at hgs
    obtain⟨rfl,rfl⟩:=hgs
    refine⟨{M:=MD,fam:=yA kept l,step:=lj l (fun n=>kept.any (bO n)),ks:=ksD,pk:=bZ,hpk:=(fun d a h=>by cases h),L:=11,len:=rfl,hGL:=(by show 8<=11;decide),run:=Bz σ kept l hk hl,m:=⟨0,[],[]⟩,k:=_,m':=_,ent:=?_,it:=DD l 0 [] [] rfl (Nat.zero_add _) (Nat.zero_le _) (Nat.zero_le _),fin:=rfl}⟩
    refine et (N:=NV σ) (s:=⟨E1,_⟩) (l:=[.notes [],.notes []]) (fun a ha=>⟨7,knotes.ty,by simp only [List.mem_cons,List.not_mem_nil,or_false,or_self] at ha;rw [ha];rfl⟩) (by show 8<=11;decide) fun k hk=>?_
    simp only [ksD,List.mem_cons,List.not_mem_nil,or_false] at hk
    rcases hk with rfl | rfl | rfl | rfl | rfl | rfl
    ·exact .inl e1.symm
    ·exact .inr (.inr ⟨e4,0,7,by decide,rfl⟩)
    ·exact .inr (.inr ⟨e5,1,7,by decide,rfl⟩)
    ·exact .inl e8.symm
    ·exact .inl e9.symm
    ·exact .inr (.inl ⟨by show Sx.look E1 10≠_;rw [e10];rintro ⟨⟩,oT _,fun ρ=>by show _=(Sx.look E1 10).den ρ;rw [e10];rfl⟩)
   ·simp [T.val] at hgs
  ·simp [T.val] at hgs
 ·simp [T.val] at hgs
def yz (kept:List N1) (l:List Nt) (m:MD):St AV:=wX kept kept.length l.length l m.k m.f m.s m.f.length m.s.length
theorem Bx (σ:Sg) (kept:List N1) (l:List Nt) (hk:kept.length<=100000) (hl:l.length<=100000) (m:MD) (r:Ex×MD) (h:(lj l (fun n=>kept.any (dF n)) m).val=some r) :
 ((xc (NV σ) (joinCal (lv (NV σ) (C0 (fun x l=>l.any (dF x))) 5)) (fun _=>none) 28 LD (yz kept l m)).bind (bR 11 28 ksD bZ)).val=some (r.1,yz kept l r.2):=by
 replace h:=ah h
 obtain⟨hb,h⟩:=h
 obtain⟨h1,h2,h3⟩:=of_decide_eq_true hb
 simp only [T.val,Option.some.injEq] at h
 subst h
 obtain⟨k,f,s⟩:=m
 simp only at h1 h2 h3
 have e1:0+(k:Int).toNat=k:=by omega
 have hw:IntKind.wrap .i64 ((k:Int)+1)=((k+1:Nat):Int):=fh (by omega)
 dsimp only [yz]
 rw [d2R]
 by_cases hlt:k < l.length
 ·rw [ivT (decide_eq_true (by show (k:Int) < _;omega)),nv (decide_eq_true (by omega)),nv (decide_eq_true (by omega)),nv (decide_eq_true ⟨rfl,hk⟩),hw,cg knotes.dflt hlt]
  dsimp only [g7]
  rw [e1]
  cases hp:kept.any (dF (l.getD k knotes.dflt)) with
  | true=>rw [ivT rfl,nv (gD rfl (by omega))];simp only [goD,hp,T.val,List.length_append,List.length_cons,List.length_nil]
  | false=>rw [ivF rfl,nv (gD rfl (by omega))];simp only [goD,hp,T.val,List.length_append,List.length_cons,List.length_nil]
 ·rw [ivF (decide_eq_false (by show ¬(k:Int) < _;omega)),List.drop_eq_nil_of_le (by omega)]
  rfl
noncomputable def gD2 (fr st:List N1->List Nt->List Nt) (s:St AV):T (Ex×St AV):=match fX s.H 0 noM with
 | some [some (.abs (.notes l)),some (.abs (.ints kept)),some (.cells [.vs 9 0 kq 1 false] ty)] =>
   match Sx.look s.E 1,Sx.look s.E 4,Sx.look s.E 5,Sx.look s.E 8,Sx.look s.E 9,Sx.look s.E 10,Nat.beq ty Bk with
   | .clo fid [.ptr 10 0],.v (.c .snil),.v (.c .snil),.v (.c (.vs 8 0 q1 7 false)),.v (.c (.it .i64 q2)),.v (.c (.il .i64 0)),true=>match Nat.beq fid 126 with
     | true=>.need (decide (q1=l.length /\ q2=(q1:Int) /\ kq=kept.length /\ kept.length<=100000 /\ l.length<=100000)) (.leaf (.exit 0,wX kept kept.length l.length l l.length (fr kept l) (st kept l) (fr kept l).length (st kept l).length))
     | false=>.fail "divide"
   | _,_,_,_,_,_,_=>.fail "divide"
 | _=>.fail "divide"
theorem PS {N':Env AV} (hF:N'.F=(NV σ).F) (hG:N'.G=(NV σ).G):b7 Tryz.prog N' 28 LD (gD2 (fun kept l=>cW (fun n=>kept.any (dF n)) l) (fun kept l=>dh (fun n=>kept.any (dF n)) l)):=by
 have hcal:cP Tryz.prog (NV σ) (joinCal (lv (NV σ) (C0 (fun x l=>l.any (dF x))) 5)):=bo (fU okV mQ hvV (aj Gz au) 5)
 refine cd (N:=NV σ) hF hG okV hcal (lp:=fun _=>none) (fun _ _ _ g hg=>by cases hg) fun s s' ex hgs=>?_
 obtain⟨E1,H1⟩:=s
 unfold gD2 at hgs
 split at hgs
 ·rename_i l kept kq ty hs
  have hs:=dJ hs
  simp only at hs
  subst hs
  split at hgs
  ·rename_i fid q1 q2 e1 e4 e5 e8 e9 e10 ety
   have ety:=(af _ _).1 ety
   subst ety
   simp only at e1 e4 e5 e8 e9 e10
   split at hgs
   ·rename_i efid
    have efid:=(af _ _).1 efid
    subst efid
    replace hgs:=ah hgs
    obtain⟨hb,hgs⟩:=hgs
    obtain⟨rfl,rfl,rfl,hk,hl⟩:=of_decide_eq_true hb
    simp only [T.val,Option.some.injEq,Prod.mk.injEq] at hgs
    obtain⟨rfl,rfl⟩:=hgs
    refine⟨{M:=MD,fam:=yz kept l,step:=lj l (fun n=>kept.any (dF n)),ks:=ksD,pk:=bZ,hpk:=(fun d a h=>by cases h),L:=11,len:=rfl,hGL:=(by show 8<=11;decide),run:=Bx σ kept l hk hl,m:=⟨0,[],[]⟩,k:=_,m':=_,ent:=?_,it:=DD l 0 [] [] rfl (Nat.zero_add _) (Nat.zero_le _) (Nat.zero_le _),fin:=rfl}⟩
    refine et (N:=NV σ) (s:=⟨E1,_⟩) (l:=[.notes [],.notes []]) (fun a ha=>⟨7,knotes.ty,by simp only [List.mem_cons,List.not_mem_nil,or_false,or_self] at ha;rw [ha];rfl⟩) (by show 8<=11;decide) fun k hk=>?_
    simp only [ksD,List.mem_cons,List.not_mem_nil,or_false] at hk
    rcases hk with rfl | rfl | rfl | rfl | rfl | rfl
    ·exact .inl e1.symm
    ·exact .inr (.inr ⟨e4,0,7,by decide,rfl⟩)
    ·exact .inr (.inr ⟨e5,1,7,by decide,rfl⟩)
    ·exact .inl e8.symm
    ·exact .inl e9.symm
    ·exact .inr (.inl ⟨by show Sx.look E1 10≠_;rw [e10];rintro ⟨⟩,oT _,fun ρ=>by show _=(Sx.look E1 10).den ρ;rw [e10];rfl⟩)
   ·simp [T.val] at hgs
  ·simp [T.val] at hgs
 ·simp [T.val] at hgs
def yy (kept:List Sp) (l:List Nt) (m:MD):St AV:=wW kept kept.length l.length l m.k m.f m.s m.f.length m.s.length
theorem Bw (σ:Sg) (kept:List Sp) (l:List Nt) (hk:kept.length<=100000) (hl:l.length<=100000) (m:MD) (r:Ex×MD) (h:(lj l (fun n=>kept.any (bM n)) m).val=some r) :
 ((xc (NV σ) (joinCal (lv (NV σ) (CZ (fun x l=>l.any (bM x))) 5)) (fun _=>none) 28 LD (yy kept l m)).bind (bR 11 28 ksD bZ)).val=some (r.1,yy kept l r.2):=by
 replace h:=ah h
 obtain⟨hb,h⟩:=h
 obtain⟨h1,h2,h3⟩:=of_decide_eq_true hb
 simp only [T.val,Option.some.injEq] at h
 subst h
 obtain⟨k,f,s⟩:=m
 simp only at h1 h2 h3
 have e1:0+(k:Int).toNat=k:=by omega
 have hw:IntKind.wrap .i64 ((k:Int)+1)=((k+1:Nat):Int):=fh (by omega)
 dsimp only [yy]
 rw [d3R]
 by_cases hlt:k < l.length
 ·rw [ivT (decide_eq_true (by show (k:Int) < _;omega)),nv (decide_eq_true (by omega)),nv (decide_eq_true (by omega)),nv (decide_eq_true ⟨rfl,hk⟩),hw,cg knotes.dflt hlt]
  dsimp only [g7]
  rw [e1]
  cases hp:kept.any (bM (l.getD k knotes.dflt)) with
  | true=>rw [ivT rfl,nv (gD rfl (by omega))];simp only [goD,hp,T.val,List.length_append,List.length_cons,List.length_nil]
  | false=>rw [ivF rfl,nv (gD rfl (by omega))];simp only [goD,hp,T.val,List.length_append,List.length_cons,List.length_nil]
 ·rw [ivF (decide_eq_false (by show ¬(k:Int) < _;omega)),List.drop_eq_nil_of_le (by omega)]
  rfl
noncomputable def gD3 (fr st:List Sp->List Nt->List Nt) (s:St AV):T (Ex×St AV):=match fX s.H 0 noM with
 | some [some (.abs (.notes l)),some (.abs (.spans kept)),some (.cells [.vs 9 0 kq 3 false] ty)] =>
   match Sx.look s.E 1,Sx.look s.E 4,Sx.look s.E 5,Sx.look s.E 8,Sx.look s.E 9,Sx.look s.E 10,Nat.beq ty Bj with
   | .clo fid [.ptr 10 0],.v (.c .snil),.v (.c .snil),.v (.c (.vs 8 0 q1 7 false)),.v (.c (.it .i64 q2)),.v (.c (.il .i64 0)),true=>match Nat.beq fid 127 with
     | true=>.need (decide (q1=l.length /\ q2=(q1:Int) /\ kq=kept.length /\ kept.length<=100000 /\ l.length<=100000)) (.leaf (.exit 0,wW kept kept.length l.length l l.length (fr kept l) (st kept l) (fr kept l).length (st kept l).length))
     | false=>.fail "divide"
   | _,_,_,_,_,_,_=>.fail "divide"
 | _=>.fail "divide"
theorem PR {N':Env AV} (hF:N'.F=(NV σ).F) (hG:N'.G=(NV σ).G):b7 Tryz.prog N' 28 LD (gD3 (fun kept l=>cW (fun n=>kept.any (bM n)) l) (fun kept l=>dh (fun n=>kept.any (bM n)) l)):=by
 have hcal:cP Tryz.prog (NV σ) (joinCal (lv (NV σ) (CZ (fun x l=>l.any (bM x))) 5)):=bo (fU okV mQ hvV (aj Gy au) 5)
 refine cd (N:=NV σ) hF hG okV hcal (lp:=fun _=>none) (fun _ _ _ g hg=>by cases hg) fun s s' ex hgs=>?_
 obtain⟨E1,H1⟩:=s
 unfold gD3 at hgs
 split at hgs
 ·rename_i l kept kq ty hs
  have hs:=dJ hs
  simp only at hs
  subst hs
  split at hgs
  ·rename_i fid q1 q2 e1 e4 e5 e8 e9 e10 ety
   have ety:=(af _ _).1 ety
   subst ety
   simp only at e1 e4 e5 e8 e9 e10
   split at hgs
   ·rename_i efid
    have efid:=(af _ _).1 efid
    subst efid
    replace hgs:=ah hgs
    obtain⟨hb,hgs⟩:=hgs
    obtain⟨rfl,rfl,rfl,hk,hl⟩:=of_decide_eq_true hb
    simp only [T.val,Option.some.injEq,Prod.mk.injEq] at hgs
    obtain⟨rfl,rfl⟩:=hgs
    refine⟨{M:=MD,fam:=yy kept l,step:=lj l (fun n=>kept.any (bM n)),ks:=ksD,pk:=bZ,hpk:=(fun d a h=>by cases h),L:=11,len:=rfl,hGL:=(by show 8<=11;decide),run:=Bw σ kept l hk hl,m:=⟨0,[],[]⟩,k:=_,m':=_,ent:=?_,it:=DD l 0 [] [] rfl (Nat.zero_add _) (Nat.zero_le _) (Nat.zero_le _),fin:=rfl}⟩
    refine et (N:=NV σ) (s:=⟨E1,_⟩) (l:=[.notes [],.notes []]) (fun a ha=>⟨7,knotes.ty,by simp only [List.mem_cons,List.not_mem_nil,or_false,or_self] at ha;rw [ha];rfl⟩) (by show 8<=11;decide) fun k hk=>?_
    simp only [ksD,List.mem_cons,List.not_mem_nil,or_false] at hk
    rcases hk with rfl | rfl | rfl | rfl | rfl | rfl
    ·exact .inl e1.symm
    ·exact .inr (.inr ⟨e4,0,7,by decide,rfl⟩)
    ·exact .inr (.inr ⟨e5,1,7,by decide,rfl⟩)
    ·exact .inl e8.symm
    ·exact .inl e9.symm
    ·exact .inr (.inl ⟨by show Sx.look E1 10≠_;rw [e10];rintro ⟨⟩,oT _,fun ρ=>by show _=(Sx.look E1 10).den ρ;rw [e10];rfl⟩)
   ·simp [T.val] at hgs
  ·simp [T.val] at hgs
 ·simp [T.val] at hgs
end Go.Proofs.YtcpdipfepeccgaaGreatDoor
