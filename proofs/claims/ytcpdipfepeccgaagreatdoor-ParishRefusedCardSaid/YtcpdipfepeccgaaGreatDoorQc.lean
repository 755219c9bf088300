import Derived.Test.YtcpdipfepeccgaaGreatDoorOp
import Derived.Test.YtcpdipfepeccgaaGreatDoorSxOh
set_option linter.unusedVariables false
namespace Go.Proofs.YtcpdipfepeccgaaGreatDoor
open Go Go.Sx Go.Proofs
set_option maxRecDepth 100000
variable {σ:Sg}
def aNo:ArgK Unit where
 enc _:=[]
 dec:=fun | []=>some () | _=>none
 ok:=fun l a h ρ=>by split at h<;>cases h;rfl
 free:=fun _=>rfl
def vBo:ValK Bool where
 enc b:=.v (.c (.bt b))
 dec:=fun | .v (.c (.bt b))=>some b | _=>none
 ok:=fun v b h=>by split at h<;>cases h;rfl
def vRp:ValK Rp1 where
 enc x:=.v (.agg (gsC (Rp1.wr x)))
 dec:=fun | .v (.agg cs)=>(match Rp1.rd (cs.map .p) with | some (c,[])=>some c | _=>none) | _=>none
 ok:=fun v b h=>by
  split at h
  ·split at h
   ·rename_i hc
    cases h
    have:=Rp1.rd_s hc
    rw [List.append_nil] at this
    rw [<- this,gsC_map]
   ·cases h
  ·cases h
def vAcc:ValK (Acc×Bool) where
 enc c:=.tup [.agg (gsC (Acc.wr c.1)),.c (.bt c.2)]
 dec:=fun | .tup [.agg cs,.c (.bt b)]=>(match Acc.rd (cs.map .p) with | some (c,[])=>some (c,b) | _=>none) | _=>none
 ok:=fun v b h=>by
  split at h
  ·split at h
   ·rename_i hc
    cases h
    have:=Acc.rd_s hc
    rw [List.append_nil] at this
    rw [<- this,gsC_map]
   ·cases h
  ·cases h
def busyM (m:RiteM):Bool:=!(m.step==0)
def nextM (m:RiteM):Acc×Bool:=cond (!busyM m) (noAcc,false) (m.acc,true)
def tV {β:Type} (v:β) (m:RiteM):T (Option (β×RiteM)):=.need (lensB (rOf m)) (.leaf (some (v,m)))
theorem vV {β:Type} (v:β) (m:RiteM):(tV v m).val=some (some (v,m)):=by
 unfold tV
 rw [lens_of rfl rfl rfl]
 rfl
theorem riNextR (σ:Sg) (m:RiteM):(runMe σ tab0 37 noM [] (riteV m) tRite (RiteM.wr m) []).map (decM vAcc oRite)=tI (!busyM m) (tV (noAcc,false) m) (tV (m.acc,true) m):=by kernel_rfl
theorem riNext_ok:FnOk Tryz.prog (NV σ) 37 (sumG isS noM (methS aNo vAcc oRite (fun _ _=>none) (fun m _=>(nextM m,m)))) :=
 methS_ok tab0_ok rfl fun m x _=>⟨tRite,RiteM.wr m,rfl,[],rfl,fun _=>rfl,by
  rw [riNextR];unfold nextM
  cases h:busyM m
  ·exact vV _ _
  ·exact vV _ _⟩
theorem riReplyR (σ:Sg) (m:RiteM):(runMe σ tab0 59 noM [] (riteV m) tRite (RiteM.wr m) []).map (decM vRp oRite)=tV m.reply m:=by kernel_rfl
theorem riReply_ok:FnOk Tryz.prog (NV σ) 59 (sumG isS noM (methS aNo vRp oRite (fun _ _=>none) (fun m _=>(m.reply,m)))) :=
 methS_ok tab0_ok rfl fun m x _=>⟨tRite,RiteM.wr m,rfl,[],rfl,fun _=>rfl,by rw [riReplyR];exact vV _ _⟩
theorem riBusyR (σ:Sg) (m:RiteM):(runMe σ tab0 58 noM [] (riteV m) tRite (RiteM.wr m) []).map (decM vBo oRite)=tV (busyM m) m:=by kernel_rfl
theorem riBusy_ok:FnOk Tryz.prog (NV σ) 58 (sumG isS noM (methS aNo vBo oRite (fun _ _=>none) (fun m _=>(busyM m,m)))) :=
 methS_ok tab0_ok rfl fun m x _=>⟨tRite,RiteM.wr m,rfl,[],rfl,fun _=>rfl,by rw [riBusyR];exact vV _ _⟩
end Go.Proofs.YtcpdipfepeccgaaGreatDoor

namespace Go.Proofs.YtcpdipfepeccgaaGreatDoor
open Go Go.Sx Go.Proofs
set_option maxRecDepth 100000
variable {σ:Sg} {lp:Lp}
abbrev tSlI:Nat:=24
abbrev tSlS:Nat:=231
abbrev tSlW:Nat:=75
abbrev tNote:Nat:=235
structure MA where
 k:Nat
 b:Bool
def goA {α:Type} (p:α->Bool) (m:MA):List α->Ex×MA
 | []=>(.exit 0,m)
 | a::_=>match p a with | true=>(.ret,⟨m.k,true⟩) | false=>(.normal,⟨m.k+1,false⟩)
def stepA {α:Type} (l:List α) (p:α->Bool) (m:MA):T (Ex×MA):=.need (decide (m.k<=l.length /\ m.b=false)) (.leaf (goA p m (l.drop m.k)))
def idxK {α:Type} (p:α->Bool):Nat->List α->Nat
 | k,[]=>k
 | k,a::r=>match p a with | true=>k | false=>idxK p (k+1) r
def endA {α:Type} (p:α->Bool) (k:Nat) (l:List α):Ex×MA:=match l.any p with | true=>(.ret,⟨idxK p k l,true⟩) | false=>(.exit 0,⟨k+l.length,false⟩)
theorem iterA {α:Type} {l:List α} {p:α->Bool}:∀(r:List α) (k:Nat),l.drop k=r->k<=l.length->iter (stepA l p) (r.length+1) ⟨k,false⟩=some (endA p k r):=by
 intro r
 induction r with
 | nil =>
   intro k hr hk
   rw [List.length_nil,iter,stepA,nv (decide_eq_true ⟨hk,rfl⟩)]
   simp only [T.val,hr,goA]
   rfl
 | cons a r ih =>
   intro k hr hk
   have hlt:k < l.length:=by
    rcases Nat.lt_or_ge k l.length with h | h
    ·exact h
    ·rw [List.drop_eq_nil_of_le h] at hr;cases hr
   have hr2:l.drop (k+1)=r:=by
    rw [show l.drop (k+1)=(l.drop k).drop 1 by rw [List.drop_drop],hr];rfl
   rw [List.length_cons,iter,stepA,nv (decide_eq_true ⟨hk,rfl⟩)]
   simp only [T.val,hr,goA]
   cases ha:p a with
   | true=>simp only [endA,List.any_cons,ha,Bool.true_or,idxK]
   | false =>
     simp only [ih (k+1) hr2 (by omega),endA,List.any_cons,ha,Bool.false_or,idxK,List.length_cons]
     rw [show k+1+r.length=k+(r.length+1) by omega]
theorem tab0L:TabOk Tryz.prog (NVl lp σ) tab0:=fun f g h=>by cases h
def ks1:List Nat:=[2,3,6,7,8]
def slotP (x:Nt) (w:W):Bool:=w.slot==x.slot
def eraP (x:Nt) (e:N1):Bool:=andB (decide (e.val > 0)) (andB (decide (x.birth<=e.val)) (decide (e.val<=x.death)))
def spanP (x:Nt) (s:Sp):Bool:=andB s.is (andB (decide (s.low<=x.death)) (decide (s.high>=x.birth)))
theorem drop_getD {α:Type} (d:α):∀{l:List α} {k:Nat},k < l.length->l.drop k=l.getD k d::l.drop (k+1)
 | [],k,h=>by cases h
 | a::r,0,h=>rfl
 | a::r,k+1,h=>by
   have:=drop_getD d (l:=r) (k:=k) (Nat.lt_of_succ_lt_succ h)
   exact this
theorem plBt (b:Bool):Plain (.v (.c (.bt b))):=by intro x hx;simp [V1.cells] at hx;subst hx;rfl
theorem plIl (n:Int):Plain (.v (.c (.it .i64 n))):=by intro x hx;simp [V1.cells] at hx;subst hx;rfl
noncomputable def L1:Code:=loopAt 2 (loopsOf (bodyOf Tryz.f125))
def chS1 (q:Nat) (l:List W):List (Chunk AV):=[.cells [.vs 9 0 q 5 false] tSlW,.abs (.words l)]
def fam1 (x:Nt) (q:Nat) (l:List W) (i:Int) (b:Bool):St AV :=
 {E:=only ks1 [(2,.v (.c (.ptr 10 0))),(3,.v (.c (.bl b))),(6,.v (.c (.vs 9 0 q 5 false))),(7,.v (.c (.it .i64 q))),(8,.v (.c (.it .i64 i)))] 19,H:=hpC noM [.cells [.vs 9 0 q 5 false] tSlW,.abs (.words l),.cells (Nt.enc x) tNote]}
theorem s1R (σ:Sg) (x:Nt) (q:Nat) (l:List W) (i:Int):(xc (NV σ) (joinCal (lv (NV σ) tab0 5)) (fun _=>none) 19 L1 (fam1 x q l i false)).bind (backS 11 19 ks1 noPk)=.ite (decide (i < (q:Int))) (.need (decide (0<=i /\ i < (q:Int))) (.need (decide (0+i.toNat < l.length)) (.ite (slotP x (l.getD (0+i.toNat) kwords.dflt)) (.leaf (.ret,fam1 x q l i true)) (.leaf (.normal,fam1 x q l (IntKind.wrap .i64 (i+1)) false))))) (.leaf (.exit 0,fam1 x q l i false)):=by kernel_rfl
def famM1 (x:Nt) (l:List W) (m:MA):St AV:=fam1 x l.length l m.k m.b
theorem step1_run (σ:Sg) (x:Nt) (l:List W) (hl:l.length<=100000) (m:MA) (r:Ex×MA) (h:(stepA l (slotP x) m).val=some r) :
 ((xc (NV σ) (joinCal (lv (NV σ) tab0 5)) (fun _=>none) 19 L1 (famM1 x l m)).bind (backS 11 19 ks1 noPk)).val=some (r.1,famM1 x l r.2):=by
 replace h:=need_some h
 obtain⟨hb,h⟩:=h
 obtain⟨h1,h2⟩:=of_decide_eq_true hb
 simp only [T.val,Option.some.injEq] at h
 subst h
 obtain⟨k,b⟩:=m
 simp only at h1 h2
 subst h2
 have e1:0+(k:Int).toNat=k:=by omega
 have hw:IntKind.wrap .i64 ((k:Int)+1)=((k+1:Nat):Int):=wrapQ (by omega)
 dsimp only [famM1]
 rw [s1R]
 by_cases hk:k < l.length
 ·rw [ivT (decide_eq_true (by show (k:Int) < _;omega)),nv (decide_eq_true (by omega)),e1,nv (decide_eq_true hk),hw]
  have ed:l.drop k=l.getD k kwords.dflt::l.drop (k+1):=by
   exact drop_getD _ hk
  rw [ed]
  cases hp:slotP x (l.getD k kwords.dflt) with
  | true=>simp only [goA,hp];rfl
  | false=>simp only [goA,hp];rfl
 ·rw [ivF (decide_eq_false (by show ¬(k:Int) < _;omega)),List.drop_eq_nil_of_le (by omega)]
  rfl
noncomputable def g1 (an:Nt->List W->Bool) (ix:Nt->List W->Nat) (s:St AV):T (Ex×St AV):=match stripS s.H 0 noM with
 | some [some (.cells [.vs 9 0 q 5 false] ty),some (.abs (.words l)),some (.cells [.it .i64 a,.it .i64 b,.it .i64 c,.it .i64 d,.bt e,.it .i64 f,.it .i64 g] ty2)] =>
   match Sx.look s.E 2,Sx.look s.E 3,Sx.look s.E 6,Sx.look s.E 7,Sx.look s.E 8,Nat.beq ty tSlW,Nat.beq ty2 tNote with
   | .v (.c (.ptr 10 0)),.v (.c (.bl false)),.v (.c (.vs 9 0 q1 5 false)),.v (.c (.it .i64 q2)),.v (.c (.il .i64 0)),true,true =>
     .need (decide (q=l.length /\ q1=q /\ q2=(q:Int) /\ l.length<=100000)) (.ite (an ⟨a,b,c,d,e,f,g⟩ l) (.leaf (.ret,fam1 ⟨a,b,c,d,e,f,g⟩ l.length l (ix ⟨a,b,c,d,e,f,g⟩ l) true)) (.leaf (.exit 0,fam1 ⟨a,b,c,d,e,f,g⟩ l.length l l.length false)))
   | _,_,_,_,_,_,_=>.fail "kept"
 | _=>.fail "kept"
theorem g1_ok {N':Env AV} (hF:N'.F=(NV σ).F) (hG:N'.G=(NV σ).G):LoopOk Tryz.prog N' 19 L1 (g1 (fun x l=>l.any (slotP x)) (fun x l=>idxK (slotP x) 0 l)):=by
 have hcal:CalOk Tryz.prog (NV σ) (joinCal (lv (NV σ) tab0 5)):=joinCal_ok (lv_ok okV lpsV hvV tab0_ok 5)
 refine loopOk_it (N:=NV σ) hF hG okV hcal (lp:=fun _=>none) (fun _ _ _ g hg=>by cases hg) fun s s' ex hgs=>?_
 obtain⟨E1,H1⟩:=s
 unfold g1 at hgs
 split at hgs
 ·rename_i q ty l a b c d e f g ty2 hs
  have hs:=stripS_ok hs
  simp only at hs
  subst hs
  split at hgs
  ·rename_i q1 q2 e2 e3 e6 e7 e8 ety ety2
   have ety:=(beq_iff _ _).1 ety
   have ety2:=(beq_iff _ _).1 ety2
   subst ety ety2
   simp only at e2 e3 e6 e7 e8
   replace hgs:=need_some hgs
   obtain⟨hb,hgs⟩:=hgs
   obtain⟨rfl,rfl,rfl,hl⟩:=of_decide_eq_true hb
   have hgo:(ex,s')=((endA (slotP ⟨a,b,c,d,e,f,g⟩) 0 l).1,famM1 ⟨a,b,c,d,e,f,g⟩ l (endA (slotP ⟨a,b,c,d,e,f,g⟩) 0 l).2):=by
    cases ha:l.any (slotP ⟨a,b,c,d,e,f,g⟩) with
    | true =>
      rw [ivT ha] at hgs
      simp only [T.val,Option.some.injEq] at hgs
      rw [<- hgs];unfold endA;rw [ha];rfl
    | false =>
      rw [ivF ha] at hgs
      simp only [T.val,Option.some.injEq] at hgs
      rw [<- hgs];unfold endA;rw [ha]
      simp only [famM1,Nat.zero_add]
   simp only [Prod.mk.injEq] at hgo
   obtain⟨rfl,rfl⟩:=hgo
   refine⟨{M:=MA,fam:=famM1 ⟨a,b,c,d,e,f,g⟩ l,step:=stepA l (slotP ⟨a,b,c,d,e,f,g⟩),ks:=ks1,pk:=noPk,hpk:=(fun d a h=>by cases h),L:=11,len:=rfl,hGL:=(by show 8<=11;decide),run:=step1_run σ ⟨a,b,c,d,e,f,g⟩ l hl,m:=⟨0,false⟩,k:=_,m':=_,ent:=?_,it:=iterA l 0 rfl (Nat.zero_le _),fin:=rfl}⟩
   refine enter_ks (N:=NV σ) (nt:=19) (E:=E1) (ks:=ks1) (E':=[(2,.v (.c (.ptr 10 0))),(3,.v (.c (.bl false))),(6,.v (.c (.vs 9 0 l.length 5 false))),(7,.v (.c (.it .i64 l.length))),(8,.v (.c (.it .i64 (0:Nat))))]) fun k hk=>?_
   simp only [ks1,List.mem_cons,List.not_mem_nil,or_false] at hk
   rcases hk with rfl | rfl | rfl | rfl | rfl
   ·exact .inl e2.symm
   ·exact .inl e3.symm
   ·exact .inl e6.symm
   ·exact .inl e7.symm
   ·exact .inr ⟨by rw [e8];rintro ⟨⟩,plIl _,fun ρ=>by rw [e8];rfl⟩
  ·simp [T.val] at hgs
 ·simp [T.val] at hgs
noncomputable def lp1 (an:Nt->List W->Bool) (ix:Nt->List W->Nat):Lp:=lpAdd 125 2 (g1 an ix) noLp
theorem lps1:LpsOk Tryz.prog (NVl (lp1 (fun x l=>l.any (slotP x)) (fun x l=>idxK (slotP x) 0 l)) σ) :=
 lpsAdd lps0 (fn:=Tryz.f125) (by kernel_rfl) (c:=bodyOf Tryz.f125) (by kernel_rfl) (nt:=19) (by kernel_rfl) (b:=L1) (oneLoop_spec (by kernel_rfl)) (g1_ok rfl rfl)
theorem c1R (σ:Sg) (an:Nt->List W->Bool) (ix:Nt->List W->Nat) (x:Nt) (q:Nat) (l:List W):runC (lp1 an ix) σ tab0 125 noM [.v (.agg (Nt.enc x)),.v (.c (.ptr 8 0))] (chS1 q l) =
 .need (decide (q=l.length /\ q=q /\ (q:Int)=(q:Int) /\ l.length<=100000)) (.ite (an x l) (.leaf (stV (.v (.c (.bl true)),hpC noM (chS1 l.length l)))) (.leaf (stV (.v (.c (.bl false)),hpC noM (chS1 l.length l))))):=by kernel_rfl
def sv1 (an:Nt->List W->Bool) (args:List SV) (ch:List (Chunk AV)):T (SV×List (Chunk AV)×List (Chunk AV)):=match args,ch with
 | [.v (.agg [.it .i64 a,.it .i64 b,.it .i64 c,.it .i64 d,.bt e,.it .i64 f,.it .i64 g]),.v (.c (.ptr 8 0))],[.cells [.vs 9 0 q 5 false] ty,.abs (.words l)]=>match Nat.beq ty tSlW with
   | true=>.need (decide (q=l.length /\ l.length<=100000)) (.leaf (.v (.c (.bt (an ⟨a,b,c,d,e,f,g⟩ l))),chS1 q l,[]))
   | false=>.fail "kept"
 | _,_=>.fail "kept"
theorem sv1_ok:FnOk Tryz.prog (NV σ) 125 (sumC isS noM (sv1 fun x l=>l.any (slotP x))):=by
 refine fnOk_env (N:=NVl (lp1 (fun x l=>l.any (slotP x)) (fun x l=>idxK (slotP x) 0 l)) σ) (N':=NV σ) rfl rfl (sumC_ok isS_ok rfl fun args ch v l' nw h hlen ha hC=>?_)
 unfold sv1 at h
 split at h
 ·rename_i a b c d e f g q ty l
  split at h
  ·rename_i ety
   have ety:=(beq_iff _ _).1 ety
   subst ety
   replace h:=need_some h
   obtain⟨hb,h⟩:=h
   obtain⟨rfl,hl⟩:=of_decide_eq_true hb
   simp only [T.val,Option.some.injEq,Prod.mk.injEq] at h
   obtain⟨rfl,rfl,rfl⟩:=h
   have hr:(runC (lp1 (fun x l=>l.any (slotP x)) (fun x l=>idxK (slotP x) 0 l)) σ tab0 125 noM [.v (.agg [.it .i64 a,.it .i64 b,.it .i64 c,.it .i64 d,.bt e,.it .i64 f,.it .i64 g]),.v (.c (.ptr 8 0))] [.cells [.vs 9 0 l.length 5 false] tSlW,.abs (.words l)]).val=some (stV (.v (.c (.bl (l.any (slotP ⟨a,b,c,d,e,f,g⟩)))),hpC noM (chS1 l.length l))):=by
    refine(congrArg T.val (c1R σ (fun x l=>l.any (slotP x)) (fun x l=>idxK (slotP x) 0 l) ⟨a,b,c,d,e,f,g⟩ l.length l)).trans ?_
    rw [nv (decide_eq_true ⟨rfl,rfl,rfl,hl⟩)]
    cases hp:l.any (slotP ⟨a,b,c,d,e,f,g⟩) with
    | true=>rfl
    | false=>rfl
   exact ctr_val (v:=.v (.c (.bl (l.any (slotP ⟨a,b,c,d,e,f,g⟩))))) (runC_ctr lps1 tab0L rfl hr (by rintro ⟨⟩)) ((plBt _).cl _) fun ρ=>rfl
  ·simp [T.val] at h
 ·simp [T.val] at h
noncomputable def L2:Code:=loopAt 2 (loopsOf (bodyOf Tryz.f126))
def chS2 (q:Nat) (l:List N1):List (Chunk AV):=[.cells [.vs 9 0 q 1 false] tSlI,.abs (.ints l)]
def fam2 (x:Nt) (q:Nat) (l:List N1) (i:Int) (b:Bool):St AV :=
 {E:=only ks1 [(2,.v (.c (.ptr 10 0))),(3,.v (.c (.bl b))),(6,.v (.c (.vs 9 0 q 1 false))),(7,.v (.c (.it .i64 q))),(8,.v (.c (.it .i64 i)))] 27,H:=hpC noM [.cells [.vs 9 0 q 1 false] tSlI,.abs (.ints l),.cells (Nt.enc x) tNote]}
theorem s2R (σ:Sg) (x:Nt) (q:Nat) (l:List N1) (i:Int):(xc (NV σ) (joinCal (lv (NV σ) tab0 5)) (fun _=>none) 27 L2 (fam2 x q l i false)).bind (backS 11 27 ks1 noPk)=.ite (decide (i < (q:Int))) (.need (match decide (0<=i /\ i < (q:Int)) with | true=>decide (0+i.toNat < l.length) | false=>false) (.ite (eraP x (l.getD (0+i.toNat) kints.dflt)) (.leaf (.ret,fam2 x q l i true)) (.leaf (.normal,fam2 x q l (IntKind.wrap .i64 (i+1)) false)))) (.leaf (.exit 0,fam2 x q l i false)):=by kernel_rfl
def famM2 (x:Nt) (l:List N1) (m:MA):St AV:=fam2 x l.length l m.k m.b
theorem step2_run (σ:Sg) (x:Nt) (l:List N1) (hl:l.length<=100000) (m:MA) (r:Ex×MA) (h:(stepA l (eraP x) m).val=some r) :
 ((xc (NV σ) (joinCal (lv (NV σ) tab0 5)) (fun _=>none) 27 L2 (famM2 x l m)).bind (backS 11 27 ks1 noPk)).val=some (r.1,famM2 x l r.2):=by
 replace h:=need_some h
 obtain⟨hb,h⟩:=h
 obtain⟨h1,h2⟩:=of_decide_eq_true hb
 simp only [T.val,Option.some.injEq] at h
 subst h
 obtain⟨k,b⟩:=m
 simp only at h1 h2
 subst h2
 have e1:0+(k:Int).toNat=k:=by omega
 have hw:IntKind.wrap .i64 ((k:Int)+1)=((k+1:Nat):Int):=wrapQ (by omega)
 dsimp only [famM2]
 rw [s2R]
 by_cases hk:k < l.length
 ·rw [ivT (decide_eq_true (by show (k:Int) < _;omega)),e1,nv (by rw [decide_eq_true (show 0<=(k:Int) /\ (k:Int) < (l.length:Int) by omega),decide_eq_true hk]),hw]
  have ed:l.drop k=l.getD k kints.dflt::l.drop (k+1):=by
   exact drop_getD _ hk
  rw [ed]
  cases hp:eraP x (l.getD k kints.dflt) with
  | true=>simp only [goA,hp];rfl
  | false=>simp only [goA,hp];rfl
 ·rw [ivF (decide_eq_false (by show ¬(k:Int) < _;omega)),List.drop_eq_nil_of_le (by omega)]
  rfl
noncomputable def g2 (an:Nt->List N1->Bool) (ix:Nt->List N1->Nat) (s:St AV):T (Ex×St AV):=match stripS s.H 0 noM with
 | some [some (.cells [.vs 9 0 q 1 false] ty),some (.abs (.ints l)),some (.cells [.it .i64 a,.it .i64 b,.it .i64 c,.it .i64 d,.bt e,.it .i64 f,.it .i64 g] ty2)] =>
   match Sx.look s.E 2,Sx.look s.E 3,Sx.look s.E 6,Sx.look s.E 7,Sx.look s.E 8,Nat.beq ty tSlI,Nat.beq ty2 tNote with
   | .v (.c (.ptr 10 0)),.v (.c (.bl false)),.v (.c (.vs 9 0 q1 1 false)),.v (.c (.it .i64 q2)),.v (.c (.il .i64 0)),true,true =>
     .need (decide (q=l.length /\ q1=q /\ q2=(q:Int) /\ l.length<=100000)) (.ite (an ⟨a,b,c,d,e,f,g⟩ l) (.leaf (.ret,fam2 ⟨a,b,c,d,e,f,g⟩ l.length l (ix ⟨a,b,c,d,e,f,g⟩ l) true)) (.leaf (.exit 0,fam2 ⟨a,b,c,d,e,f,g⟩ l.length l l.length false)))
   | _,_,_,_,_,_,_=>.fail "kept"
 | _=>.fail "kept"
theorem g2_ok {N':Env AV} (hF:N'.F=(NV σ).F) (hG:N'.G=(NV σ).G):LoopOk Tryz.prog N' 27 L2 (g2 (fun x l=>l.any (eraP x)) (fun x l=>idxK (eraP x) 0 l)):=by
 have hcal:CalOk Tryz.prog (NV σ) (joinCal (lv (NV σ) tab0 5)):=joinCal_ok (lv_ok okV lpsV hvV tab0_ok 5)
 refine loopOk_it (N:=NV σ) hF hG okV hcal (lp:=fun _=>none) (fun _ _ _ g hg=>by cases hg) fun s s' ex hgs=>?_
 obtain⟨E1,H1⟩:=s
 unfold g2 at hgs
 split at hgs
 ·rename_i q ty l a b c d e f g ty2 hs
  have hs:=stripS_ok hs
  simp only at hs
  subst hs
  split at hgs
  ·rename_i q1 q2 e2 e3 e6 e7 e8 ety ety2
   have ety:=(beq_iff _ _).1 ety
   have ety2:=(beq_iff _ _).1 ety2
   subst ety ety2
   simp only at e2 e3 e6 e7 e8
   replace hgs:=need_some hgs
   obtain⟨hb,hgs⟩:=hgs
   obtain⟨rfl,rfl,rfl,hl⟩:=of_decide_eq_true hb
   have hgo:(ex,s')=((endA (eraP ⟨a,b,c,d,e,f,g⟩) 0 l).1,famM2 ⟨a,b,c,d,e,f,g⟩ l (endA (eraP ⟨a,b,c,d,e,f,g⟩) 0 l).2):=by
    cases ha:l.any (eraP ⟨a,b,c,d,e,f,g⟩) with
    | true =>
      rw [ivT ha] at hgs
      simp only [T.val,Option.some.injEq] at hgs
      rw [<- hgs];unfold endA;rw [ha];rfl
    | false =>
      rw [ivF ha] at hgs
      simp only [T.val,Option.some.injEq] at hgs
      rw [<- hgs];unfold endA;rw [ha]
      simp only [famM2,Nat.zero_add]
   simp only [Prod.mk.injEq] at hgo
   obtain⟨rfl,rfl⟩:=hgo
   refine⟨{M:=MA,fam:=famM2 ⟨a,b,c,d,e,f,g⟩ l,step:=stepA l (eraP ⟨a,b,c,d,e,f,g⟩),ks:=ks1,pk:=noPk,hpk:=(fun d a h=>by cases h),L:=11,len:=rfl,hGL:=(by show 8<=11;decide),run:=step2_run σ ⟨a,b,c,d,e,f,g⟩ l hl,m:=⟨0,false⟩,k:=_,m':=_,ent:=?_,it:=iterA l 0 rfl (Nat.zero_le _),fin:=rfl}⟩
   refine enter_ks (N:=NV σ) (nt:=27) (E:=E1) (ks:=ks1) (E':=[(2,.v (.c (.ptr 10 0))),(3,.v (.c (.bl false))),(6,.v (.c (.vs 9 0 l.length 1 false))),(7,.v (.c (.it .i64 l.length))),(8,.v (.c (.it .i64 (0:Nat))))]) fun k hk=>?_
   simp only [ks1,List.mem_cons,List.not_mem_nil,or_false] at hk
   rcases hk with rfl | rfl | rfl | rfl | rfl
   ·exact .inl e2.symm
   ·exact .inl e3.symm
   ·exact .inl e6.symm
   ·exact .inl e7.symm
   ·exact .inr ⟨by rw [e8];rintro ⟨⟩,plIl _,fun ρ=>by rw [e8];rfl⟩
  ·simp [T.val] at hgs
 ·simp [T.val] at hgs
noncomputable def lp2 (an:Nt->List N1->Bool) (ix:Nt->List N1->Nat):Lp:=lpAdd 126 2 (g2 an ix) noLp
theorem lps2:LpsOk Tryz.prog (NVl (lp2 (fun x l=>l.any (eraP x)) (fun x l=>idxK (eraP x) 0 l)) σ) :=
 lpsAdd lps0 (fn:=Tryz.f126) (by kernel_rfl) (c:=bodyOf Tryz.f126) (by kernel_rfl) (nt:=27) (by kernel_rfl) (b:=L2) (oneLoop_spec (by kernel_rfl)) (g2_ok rfl rfl)
theorem c2R (σ:Sg) (an:Nt->List N1->Bool) (ix:Nt->List N1->Nat) (x:Nt) (q:Nat) (l:List N1):runC (lp2 an ix) σ tab0 126 noM [.v (.agg (Nt.enc x)),.v (.c (.ptr 8 0))] (chS2 q l) =
 .need (decide (q=l.length /\ q=q /\ (q:Int)=(q:Int) /\ l.length<=100000)) (.ite (an x l) (.leaf (stV (.v (.c (.bl true)),hpC noM (chS2 l.length l)))) (.leaf (stV (.v (.c (.bl false)),hpC noM (chS2 l.length l))))):=by kernel_rfl
def sv2 (an:Nt->List N1->Bool) (args:List SV) (ch:List (Chunk AV)):T (SV×List (Chunk AV)×List (Chunk AV)):=match args,ch with
 | [.v (.agg [.it .i64 a,.it .i64 b,.it .i64 c,.it .i64 d,.bt e,.it .i64 f,.it .i64 g]),.v (.c (.ptr 8 0))],[.cells [.vs 9 0 q 1 false] ty,.abs (.ints l)]=>match Nat.beq ty tSlI with
   | true=>.need (decide (q=l.length /\ l.length<=100000)) (.leaf (.v (.c (.bt (an ⟨a,b,c,d,e,f,g⟩ l))),chS2 q l,[]))
   | false=>.fail "kept"
 | _,_=>.fail "kept"
theorem sv2_ok:FnOk Tryz.prog (NV σ) 126 (sumC isS noM (sv2 fun x l=>l.any (eraP x))):=by
 refine fnOk_env (N:=NVl (lp2 (fun x l=>l.any (eraP x)) (fun x l=>idxK (eraP x) 0 l)) σ) (N':=NV σ) rfl rfl (sumC_ok isS_ok rfl fun args ch v l' nw h hlen ha hC=>?_)
 unfold sv2 at h
 split at h
 ·rename_i a b c d e f g q ty l
  split at h
  ·rename_i ety
   have ety:=(beq_iff _ _).1 ety
   subst ety
   replace h:=need_some h
   obtain⟨hb,h⟩:=h
   obtain⟨rfl,hl⟩:=of_decide_eq_true hb
   simp only [T.val,Option.some.injEq,Prod.mk.injEq] at h
   obtain⟨rfl,rfl,rfl⟩:=h
   have hr:(runC (lp2 (fun x l=>l.any (eraP x)) (fun x l=>idxK (eraP x) 0 l)) σ tab0 126 noM [.v (.agg [.it .i64 a,.it .i64 b,.it .i64 c,.it .i64 d,.bt e,.it .i64 f,.it .i64 g]),.v (.c (.ptr 8 0))] [.cells [.vs 9 0 l.length 1 false] tSlI,.abs (.ints l)]).val=some (stV (.v (.c (.bl (l.any (eraP ⟨a,b,c,d,e,f,g⟩)))),hpC noM (chS2 l.length l))):=by
    refine(congrArg T.val (c2R σ (fun x l=>l.any (eraP x)) (fun x l=>idxK (eraP x) 0 l) ⟨a,b,c,d,e,f,g⟩ l.length l)).trans ?_
    rw [nv (decide_eq_true ⟨rfl,rfl,rfl,hl⟩)]
    cases hp:l.any (eraP ⟨a,b,c,d,e,f,g⟩) with
    | true=>rfl
    | false=>rfl
   exact ctr_val (v:=.v (.c (.bl (l.any (eraP ⟨a,b,c,d,e,f,g⟩))))) (runC_ctr lps2 tab0L rfl hr (by rintro ⟨⟩)) ((plBt _).cl _) fun ρ=>rfl
  ·simp [T.val] at h
 ·simp [T.val] at h
noncomputable def L3:Code:=loopAt 2 (loopsOf (bodyOf Tryz.f127))
def chS3 (q:Nat) (l:List Sp):List (Chunk AV):=[.cells [.vs 9 0 q 3 false] tSlS,.abs (.spans l)]
def fam3 (x:Nt) (q:Nat) (l:List Sp) (i:Int) (b:Bool):St AV :=
 {E:=only ks1 [(2,.v (.c (.ptr 10 0))),(3,.v (.c (.bl b))),(6,.v (.c (.vs 9 0 q 3 false))),(7,.v (.c (.it .i64 q))),(8,.v (.c (.it .i64 i)))] 29,H:=hpC noM [.cells [.vs 9 0 q 3 false] tSlS,.abs (.spans l),.cells (Nt.enc x) tNote]}
theorem s3R (σ:Sg) (x:Nt) (q:Nat) (l:List Sp) (i:Int):(xc (NV σ) (joinCal (lv (NV σ) tab0 5)) (fun _=>none) 29 L3 (fam3 x q l i false)).bind (backS 11 29 ks1 noPk)=.ite (decide (i < (q:Int))) (.need (decide (0<=i /\ i < (q:Int))) (.need (decide (0+i.toNat < l.length)) (.ite (spanP x (l.getD (0+i.toNat) kspans.dflt)) (.leaf (.ret,fam3 x q l i true)) (.leaf (.normal,fam3 x q l (IntKind.wrap .i64 (i+1)) false))))) (.leaf (.exit 0,fam3 x q l i false)):=by kernel_rfl
def famM3 (x:Nt) (l:List Sp) (m:MA):St AV:=fam3 x l.length l m.k m.b
theorem step3_run (σ:Sg) (x:Nt) (l:List Sp) (hl:l.length<=100000) (m:MA) (r:Ex×MA) (h:(stepA l (spanP x) m).val=some r) :
 ((xc (NV σ) (joinCal (lv (NV σ) tab0 5)) (fun _=>none) 29 L3 (famM3 x l m)).bind (backS 11 29 ks1 noPk)).val=some (r.1,famM3 x l r.2):=by
 replace h:=need_some h
 obtain⟨hb,h⟩:=h
 obtain⟨h1,h2⟩:=of_decide_eq_true hb
 simp only [T.val,Option.some.injEq] at h
 subst h
 obtain⟨k,b⟩:=m
 simp only at h1 h2
 subst h2
 have e1:0+(k:Int).toNat=k:=by omega
 have hw:IntKind.wrap .i64 ((k:Int)+1)=((k+1:Nat):Int):=wrapQ (by omega)
 dsimp only [famM3]
 rw [s3R]
 by_cases hk:k < l.length
 ·rw [ivT (decide_eq_true (by show (k:Int) < _;omega)),nv (decide_eq_true (by omega)),e1,nv (decide_eq_true hk),hw]
  have ed:l.drop k=l.getD k kspans.dflt::l.drop (k+1):=by
   exact drop_getD _ hk
  rw [ed]
  cases hp:spanP x (l.getD k kspans.dflt) with
  | true=>simp only [goA,hp];rfl
  | false=>simp only [goA,hp];rfl
 ·rw [ivF (decide_eq_false (by show ¬(k:Int) < _;omega)),List.drop_eq_nil_of_le (by omega)]
  rfl
noncomputable def g3 (an:Nt->List Sp->Bool) (ix:Nt->List Sp->Nat) (s:St AV):T (Ex×St AV):=match stripS s.H 0 noM with
 | some [some (.cells [.vs 9 0 q 3 false] ty),some (.abs (.spans l)),some (.cells [.it .i64 a,.it .i64 b,.it .i64 c,.it .i64 d,.bt e,.it .i64 f,.it .i64 g] ty2)] =>
   match Sx.look s.E 2,Sx.look s.E 3,Sx.look s.E 6,Sx.look s.E 7,Sx.look s.E 8,Nat.beq ty tSlS,Nat.beq ty2 tNote with
   | .v (.c (.ptr 10 0)),.v (.c (.bl false)),.v (.c (.vs 9 0 q1 3 false)),.v (.c (.it .i64 q2)),.v (.c (.il .i64 0)),true,true =>
     .need (decide (q=l.length /\ q1=q /\ q2=(q:Int) /\ l.length<=100000)) (.ite (an ⟨a,b,c,d,e,f,g⟩ l) (.leaf (.ret,fam3 ⟨a,b,c,d,e,f,g⟩ l.length l (ix ⟨a,b,c,d,e,f,g⟩ l) true)) (.leaf (.exit 0,fam3 ⟨a,b,c,d,e,f,g⟩ l.length l l.length false)))
   | _,_,_,_,_,_,_=>.fail "kept"
 | _=>.fail "kept"
theorem g3_ok {N':Env AV} (hF:N'.F=(NV σ).F) (hG:N'.G=(NV σ).G):LoopOk Tryz.prog N' 29 L3 (g3 (fun x l=>l.any (spanP x)) (fun x l=>idxK (spanP x) 0 l)):=by
 have hcal:CalOk Tryz.prog (NV σ) (joinCal (lv (NV σ) tab0 5)):=joinCal_ok (lv_ok okV lpsV hvV tab0_ok 5)
 refine loopOk_it (N:=NV σ) hF hG okV hcal (lp:=fun _=>none) (fun _ _ _ g hg=>by cases hg) fun s s' ex hgs=>?_
 obtain⟨E1,H1⟩:=s
 unfold g3 at hgs
 split at hgs
 ·rename_i q ty l a b c d e f g ty2 hs
  have hs:=stripS_ok hs
  simp only at hs
  subst hs
  split at hgs
  ·rename_i q1 q2 e2 e3 e6 e7 e8 ety ety2
   have ety:=(beq_iff _ _).1 ety
   have ety2:=(beq_iff _ _).1 ety2
   subst ety ety2
   simp only at e2 e3 e6 e7 e8
   replace hgs:=need_some hgs
   obtain⟨hb,hgs⟩:=hgs
   obtain⟨rfl,rfl,rfl,hl⟩:=of_decide_eq_true hb
   have hgo:(ex,s')=((endA (spanP ⟨a,b,c,d,e,f,g⟩) 0 l).1,famM3 ⟨a,b,c,d,e,f,g⟩ l (endA (spanP ⟨a,b,c,d,e,f,g⟩) 0 l).2):=by
    cases ha:l.any (spanP ⟨a,b,c,d,e,f,g⟩) with
    | true =>
      rw [ivT ha] at hgs
      simp only [T.val,Option.some.injEq] at hgs
      rw [<- hgs];unfold endA;rw [ha];rfl
    | false =>
      rw [ivF ha] at hgs
      simp only [T.val,Option.some.injEq] at hgs
      rw [<- hgs];unfold endA;rw [ha]
      simp only [famM3,Nat.zero_add]
   simp only [Prod.mk.injEq] at hgo
   obtain⟨rfl,rfl⟩:=hgo
   refine⟨{M:=MA,fam:=famM3 ⟨a,b,c,d,e,f,g⟩ l,step:=stepA l (spanP ⟨a,b,c,d,e,f,g⟩),ks:=ks1,pk:=noPk,hpk:=(fun d a h=>by cases h),L:=11,len:=rfl,hGL:=(by show 8<=11;decide),run:=step3_run σ ⟨a,b,c,d,e,f,g⟩ l hl,m:=⟨0,false⟩,k:=_,m':=_,ent:=?_,it:=iterA l 0 rfl (Nat.zero_le _),fin:=rfl}⟩
   refine enter_ks (N:=NV σ) (nt:=29) (E:=E1) (ks:=ks1) (E':=[(2,.v (.c (.ptr 10 0))),(3,.v (.c (.bl false))),(6,.v (.c (.vs 9 0 l.length 3 false))),(7,.v (.c (.it .i64 l.length))),(8,.v (.c (.it .i64 (0:Nat))))]) fun k hk=>?_
   simp only [ks1,List.mem_cons,List.not_mem_nil,or_false] at hk
   rcases hk with rfl | rfl | rfl | rfl | rfl
   ·exact .inl e2.symm
   ·exact .inl e3.symm
   ·exact .inl e6.symm
   ·exact .inl e7.symm
   ·exact .inr ⟨by rw [e8];rintro ⟨⟩,plIl _,fun ρ=>by rw [e8];rfl⟩
  ·simp [T.val] at hgs
 ·simp [T.val] at hgs
noncomputable def lp3 (an:Nt->List Sp->Bool) (ix:Nt->List Sp->Nat):Lp:=lpAdd 127 2 (g3 an ix) noLp
theorem lps3:LpsOk Tryz.prog (NVl (lp3 (fun x l=>l.any (spanP x)) (fun x l=>idxK (spanP x) 0 l)) σ) :=
 lpsAdd lps0 (fn:=Tryz.f127) (by kernel_rfl) (c:=bodyOf Tryz.f127) (by kernel_rfl) (nt:=29) (by kernel_rfl) (b:=L3) (oneLoop_spec (by kernel_rfl)) (g3_ok rfl rfl)
theorem c3R (σ:Sg) (an:Nt->List Sp->Bool) (ix:Nt->List Sp->Nat) (x:Nt) (q:Nat) (l:List Sp):runC (lp3 an ix) σ tab0 127 noM [.v (.agg (Nt.enc x)),.v (.c (.ptr 8 0))] (chS3 q l) =
 .need (decide (q=l.length /\ q=q /\ (q:Int)=(q:Int) /\ l.length<=100000)) (.ite (an x l) (.leaf (stV (.v (.c (.bl true)),hpC noM (chS3 l.length l)))) (.leaf (stV (.v (.c (.bl false)),hpC noM (chS3 l.length l))))):=by kernel_rfl
def sv3 (an:Nt->List Sp->Bool) (args:List SV) (ch:List (Chunk AV)):T (SV×List (Chunk AV)×List (Chunk AV)):=match args,ch with
 | [.v (.agg [.it .i64 a,.it .i64 b,.it .i64 c,.it .i64 d,.bt e,.it .i64 f,.it .i64 g]),.v (.c (.ptr 8 0))],[.cells [.vs 9 0 q 3 false] ty,.abs (.spans l)]=>match Nat.beq ty tSlS with
   | true=>.need (decide (q=l.length /\ l.length<=100000)) (.leaf (.v (.c (.bt (an ⟨a,b,c,d,e,f,g⟩ l))),chS3 q l,[]))
   | false=>.fail "kept"
 | _,_=>.fail "kept"
theorem sv3_ok:FnOk Tryz.prog (NV σ) 127 (sumC isS noM (sv3 fun x l=>l.any (spanP x))):=by
 refine fnOk_env (N:=NVl (lp3 (fun x l=>l.any (spanP x)) (fun x l=>idxK (spanP x) 0 l)) σ) (N':=NV σ) rfl rfl (sumC_ok isS_ok rfl fun args ch v l' nw h hlen ha hC=>?_)
 unfold sv3 at h
 split at h
 ·rename_i a b c d e f g q ty l
  split at h
  ·rename_i ety
   have ety:=(beq_iff _ _).1 ety
   subst ety
   replace h:=need_some h
   obtain⟨hb,h⟩:=h
   obtain⟨rfl,hl⟩:=of_decide_eq_true hb
   simp only [T.val,Option.some.injEq,Prod.mk.injEq] at h
   obtain⟨rfl,rfl,rfl⟩:=h
   have hr:(runC (lp3 (fun x l=>l.any (spanP x)) (fun x l=>idxK (spanP x) 0 l)) σ tab0 127 noM [.v (.agg [.it .i64 a,.it .i64 b,.it .i64 c,.it .i64 d,.bt e,.it .i64 f,.it .i64 g]),.v (.c (.ptr 8 0))] [.cells [.vs 9 0 l.length 3 false] tSlS,.abs (.spans l)]).val=some (stV (.v (.c (.bl (l.any (spanP ⟨a,b,c,d,e,f,g⟩)))),hpC noM (chS3 l.length l))):=by
    refine(congrArg T.val (c3R σ (fun x l=>l.any (spanP x)) (fun x l=>idxK (spanP x) 0 l) ⟨a,b,c,d,e,f,g⟩ l.length l)).trans ?_
    rw [nv (decide_eq_true ⟨rfl,rfl,rfl,hl⟩)]
    cases hp:l.any (spanP ⟨a,b,c,d,e,f,g⟩) with
    | true=>rfl
    | false=>rfl
   exact ctr_val (v:=.v (.c (.bl (l.any (spanP ⟨a,b,c,d,e,f,g⟩))))) (runC_ctr lps3 tab0L rfl hr (by rintro ⟨⟩)) ((plBt _).cl _) fun ρ=>rfl
  ·simp [T.val] at h
 ·simp [T.val] at h
end Go.Proofs.YtcpdipfepeccgaaGreatDoor

namespace Go.Proofs.YtcpdipfepeccgaaGreatDoor
open Go Go.Sx Go.Proofs
set_option maxRecDepth 100000
variable {σ:Sg} {lp:Lp}
def ksD:List Nat:=[1,4,5,8,9,10]
noncomputable def LD:Code:=loopAt 2 (loopsOf (bodyOf Tryz.f124))
noncomputable def tabD1 (an:Nt->List W->Bool):Tab:=tabAdd 125 (sumC isS noM (sv1 an)) tab0
noncomputable def tabD2 (an:Nt->List N1->Bool):Tab:=tabAdd 126 (sumC isS noM (sv2 an)) tab0
noncomputable def tabD3 (an:Nt->List Sp->Bool):Tab:=tabAdd 127 (sumC isS noM (sv3 an)) tab0
abbrev noteD (l:List Nt) (i:Int):Nt:=l.getD (0+i.toNat) knotes.dflt
def sizeD (σ:Sg) (n:Nat) (l:List Nt):Bool:=decide (n=Intf.len (F6 σ) (AV.notes l) /\ (n+1) * (SI.bytes si179+1)<=lim)
def famD1 (kept:List W) (kq:Nat) (q:Nat) (l:List Nt) (i:Int) (f s:List Nt) (lf ls:Nat):St AV :=
 {E:=only ksD [(1,.clo 125 [.ptr 10 0]),(4,.v (.c (.vs 11 0 lf 7 false))),(5,.v (.c (.vs 12 0 ls 7 false))),(8,.v (.c (.vs 8 0 q 7 false))),(9,.v (.c (.it .i64 q))),(10,.v (.c (.it .i64 i)))] 28,
   H:=hpC noM [.abs (.notes l),.abs (.words kept),.cells [.vs 9 0 kq 5 false] tSlW,.abs (.notes f),.abs (.notes s)]}
theorem d1R (σ:Sg) (an:Nt->List W->Bool) (kept:List W) (kq q:Nat) (l:List Nt) (i:Int) (f s:List Nt) (lf ls:Nat):(xc (NV σ) (joinCal (lv (NV σ) (tabD1 an) 5)) (fun _=>none) 28 LD (famD1 kept kq q l i f s lf ls)).bind (backS 11 28 ksD noPk)=.ite (decide (i < (q:Int))) (.need (decide (0<=i /\ i < (q:Int))) (.need (decide (0+i.toNat < l.length)) (.need (decide (kq=kept.length /\ kept.length<=100000))
 (.ite (an (noteD l i) kept) (.need (sizeD σ ls s) (.leaf (.normal,famD1 kept kq q l (IntKind.wrap .i64 (i+1)) f (s++[noteD l i]) lf (ls+1)))) (.need (sizeD σ lf f) (.leaf (.normal,famD1 kept kq q l (IntKind.wrap .i64 (i+1)) (f++[noteD l i]) s (lf+1) ls)))))))
 (.leaf (.exit 0,famD1 kept kq q l i f s lf ls)):=by kernel_rfl
def famD2 (kept:List N1) (kq:Nat) (q:Nat) (l:List Nt) (i:Int) (f s:List Nt) (lf ls:Nat):St AV :=
 {E:=only ksD [(1,.clo 126 [.ptr 10 0]),(4,.v (.c (.vs 11 0 lf 7 false))),(5,.v (.c (.vs 12 0 ls 7 false))),(8,.v (.c (.vs 8 0 q 7 false))),(9,.v (.c (.it .i64 q))),(10,.v (.c (.it .i64 i)))] 28,
   H:=hpC noM [.abs (.notes l),.abs (.ints kept),.cells [.vs 9 0 kq 1 false] tSlI,.abs (.notes f),.abs (.notes s)]}
theorem d2R (σ:Sg) (an:Nt->List N1->Bool) (kept:List N1) (kq q:Nat) (l:List Nt) (i:Int) (f s:List Nt) (lf ls:Nat):(xc (NV σ) (joinCal (lv (NV σ) (tabD2 an) 5)) (fun _=>none) 28 LD (famD2 kept kq q l i f s lf ls)).bind (backS 11 28 ksD noPk)=.ite (decide (i < (q:Int))) (.need (decide (0<=i /\ i < (q:Int))) (.need (decide (0+i.toNat < l.length)) (.need (decide (kq=kept.length /\ kept.length<=100000))
 (.ite (an (noteD l i) kept) (.need (sizeD σ ls s) (.leaf (.normal,famD2 kept kq q l (IntKind.wrap .i64 (i+1)) f (s++[noteD l i]) lf (ls+1)))) (.need (sizeD σ lf f) (.leaf (.normal,famD2 kept kq q l (IntKind.wrap .i64 (i+1)) (f++[noteD l i]) s (lf+1) ls)))))))
 (.leaf (.exit 0,famD2 kept kq q l i f s lf ls)):=by kernel_rfl
def famD3 (kept:List Sp) (kq:Nat) (q:Nat) (l:List Nt) (i:Int) (f s:List Nt) (lf ls:Nat):St AV :=
 {E:=only ksD [(1,.clo 127 [.ptr 10 0]),(4,.v (.c (.vs 11 0 lf 7 false))),(5,.v (.c (.vs 12 0 ls 7 false))),(8,.v (.c (.vs 8 0 q 7 false))),(9,.v (.c (.it .i64 q))),(10,.v (.c (.it .i64 i)))] 28,
   H:=hpC noM [.abs (.notes l),.abs (.spans kept),.cells [.vs 9 0 kq 3 false] tSlS,.abs (.notes f),.abs (.notes s)]}
theorem d3R (σ:Sg) (an:Nt->List Sp->Bool) (kept:List Sp) (kq q:Nat) (l:List Nt) (i:Int) (f s:List Nt) (lf ls:Nat):(xc (NV σ) (joinCal (lv (NV σ) (tabD3 an) 5)) (fun _=>none) 28 LD (famD3 kept kq q l i f s lf ls)).bind (backS 11 28 ksD noPk)=.ite (decide (i < (q:Int))) (.need (decide (0<=i /\ i < (q:Int))) (.need (decide (0+i.toNat < l.length)) (.need (decide (kq=kept.length /\ kept.length<=100000))
 (.ite (an (noteD l i) kept) (.need (sizeD σ ls s) (.leaf (.normal,famD3 kept kq q l (IntKind.wrap .i64 (i+1)) f (s++[noteD l i]) lf (ls+1)))) (.need (sizeD σ lf f) (.leaf (.normal,famD3 kept kq q l (IntKind.wrap .i64 (i+1)) (f++[noteD l i]) s (lf+1) ls)))))))
 (.leaf (.exit 0,famD3 kept kq q l i f s lf ls)):=by kernel_rfl
end Go.Proofs.YtcpdipfepeccgaaGreatDoor

namespace Go.Proofs.YtcpdipfepeccgaaGreatDoor
open Go Go.Sx Go.Proofs
set_option maxRecDepth 100000
variable {σ:Sg} {lp:Lp}
theorem enter_only {nt:Nat} {N:Env AV} {s:St AV} {ks:List Nat} {E':Ev} {l:List AV} (hl:∀a∈l,∃es ty,N.F.arr a=some (es,ty,[])) (hG:N.G<=s.H.length)
 (hE:∀k∈ks,Sx.look E' k=Sx.look s.E k \/ (Sx.look s.E k≠.unk /\ Plain (Sx.look E' k) /\ ∀ρ,(Sx.look E' k).den ρ=(Sx.look s.E k).den ρ) \/ (Sx.look s.E k=.v (.c .snil) /\ ∃j es,j < l.length /\ Sx.look E' k=.v (.c (.vs (s.H.length+j) 0 0 es false)))):Enter N nt s {E:=only ks E' nt,H:=s.H++absL l}:=by
 refine enter_grow (l:=l) rfl hl hG (fun k hk=>?_) fun k hk=>by simp only [only_look,if_neg (show ¬k < nt by omega)]
 simp only [only_look,if_pos hk]
 cases hh:hasN ks k with
 | false=>exact .inl rfl
 | true=>exact .inr (hE k ((hasN_iff _ _).1 hh))
structure MD where
 k:Nat
 f:List Nt
 s:List Nt
def goD (p:Nt->Bool) (m:MD):List Nt->Ex×MD
 | []=>(.exit 0,m)
 | a::_=>match p a with | true=>(.normal,⟨m.k+1,m.f,m.s++[a]⟩) | false=>(.normal,⟨m.k+1,m.f++[a],m.s⟩)
def stepD (l:List Nt) (p:Nt->Bool) (m:MD):T (Ex×MD):=.need (decide (m.k<=l.length /\ m.f.length<=m.k /\ m.s.length<=m.k)) (.leaf (goD p m (l.drop m.k)))
def freeD (p:Nt->Bool) (l:List Nt):List Nt:=l.filter fun n=>!(p n)
def stayD (p:Nt->Bool) (l:List Nt):List Nt:=l.filter p
theorem iterD {l:List Nt} {p:Nt->Bool}:∀(r:List Nt) (k:Nat) (f s:List Nt),l.drop k=r->k+r.length=l.length->f.length<=k->s.length<=k->iter (stepD l p) (r.length+1) ⟨k,f,s⟩=some (.exit 0,⟨l.length,f++freeD p r,s++stayD p r⟩):=by
 intro r
 induction r with
 | nil =>
   intro k f s hr hk hf hs
   rw [List.length_nil,iter,stepD,nv (decide_eq_true ⟨by simp only [List.length_nil] at hk;show k<=_;omega,hf,hs⟩)]
   simp only [T.val,hr,goD,freeD,stayD,List.filter_nil,List.append_nil]
   simp only [List.length_nil,Nat.add_zero] at hk
   rw [hk]
 | cons a r ih =>
   intro k f s hr hk hf hs
   have hr2:l.drop (k+1)=r:=by
    rw [show l.drop (k+1)=(l.drop k).drop 1 by rw [List.drop_drop],hr];rfl
   rw [List.length_cons] at hk
   rw [List.length_cons,iter,stepD,nv (decide_eq_true ⟨by show k<=_;omega,hf,hs⟩)]
   simp only [T.val,hr,goD]
   cases ha:p a with
   | true =>
     simp only
     rw [ih (k+1) f (s++[a]) hr2 (by omega) (by omega) (by rw [List.length_append];simp only [List.length_cons,List.length_nil];omega)]
     simp only [freeD,stayD,List.filter_cons,ha,Bool.not_true,List.append_assoc,List.singleton_append]
     rfl
   | false =>
     simp only
     rw [ih (k+1) (f++[a]) s hr2 (by omega) (by rw [List.length_append];simp only [List.length_cons,List.length_nil];omega) (by omega)]
     simp only [freeD,stayD,List.filter_cons,ha,Bool.not_false,List.append_assoc,List.singleton_append]
     rfl
theorem sizeD_of {n:Nat} {l:List Nt} (h:n=l.length) (hn:l.length<=100000):sizeD σ n l=true:=by
 unfold sizeD
 subst h
 exact decide_eq_true ⟨rfl,Nat.le_trans (Nat.mul_le_mul_right _ (Nat.succ_le_succ hn)) (by decide)⟩
def famDM1 (kept:List W) (l:List Nt) (m:MD):St AV:=famD1 kept kept.length l.length l m.k m.f m.s m.f.length m.s.length
theorem stepD1_run (σ:Sg) (kept:List W) (l:List Nt) (hk:kept.length<=100000) (hl:l.length<=100000) (m:MD) (r:Ex×MD) (h:(stepD l (fun n=>kept.any (slotP n)) m).val=some r) :
 ((xc (NV σ) (joinCal (lv (NV σ) (tabD1 (fun x l=>l.any (slotP x))) 5)) (fun _=>none) 28 LD (famDM1 kept l m)).bind (backS 11 28 ksD noPk)).val=some (r.1,famDM1 kept l r.2):=by
 replace h:=need_some h
 obtain⟨hb,h⟩:=h
 obtain⟨h1,h2,h3⟩:=of_decide_eq_true hb
 simp only [T.val,Option.some.injEq] at h
 subst h
 obtain⟨k,f,s⟩:=m
 simp only at h1 h2 h3
 have e1:0+(k:Int).toNat=k:=by omega
 have hw:IntKind.wrap .i64 ((k:Int)+1)=((k+1:Nat):Int):=wrapQ (by omega)
 dsimp only [famDM1]
 rw [d1R]
 by_cases hlt:k < l.length
 ·rw [ivT (decide_eq_true (by show (k:Int) < _;omega)),nv (decide_eq_true (by omega)),nv (decide_eq_true (by omega)),nv (decide_eq_true ⟨rfl,hk⟩),hw,drop_getD knotes.dflt hlt]
  dsimp only [noteD]
  rw [e1]
  cases hp:kept.any (slotP (l.getD k knotes.dflt)) with
  | true=>rw [ivT rfl,nv (sizeD_of rfl (by omega))];simp only [goD,hp,T.val,List.length_append,List.length_cons,List.length_nil]
  | false=>rw [ivF rfl,nv (sizeD_of rfl (by omega))];simp only [goD,hp,T.val,List.length_append,List.length_cons,List.length_nil]
 ·rw [ivF (decide_eq_false (by show ¬(k:Int) < _;omega)),List.drop_eq_nil_of_le (by omega)]
  rfl
noncomputable def gD1 (fr st:List W->List Nt->List Nt) (s:St AV):T (Ex×St AV):=match stripS s.H 0 noM with
 | some [some (.abs (.notes l)),some (.abs (.words kept)),some (.cells [.vs 9 0 kq 5 false] ty)] =>
   match Sx.look s.E 1,Sx.look s.E 4,Sx.look s.E 5,Sx.look s.E 8,Sx.look s.E 9,Sx.look s.E 10,Nat.beq ty tSlW with
   | .clo fid [.ptr 10 0],.v (.c .snil),.v (.c .snil),.v (.c (.vs 8 0 q1 7 false)),.v (.c (.it .i64 q2)),.v (.c (.il .i64 0)),true=>match Nat.beq fid 125 with
     | true=>.need (decide (q1=l.length /\ q2=(q1:Int) /\ kq=kept.length /\ kept.length<=100000 /\ l.length<=100000)) (.leaf (.exit 0,famD1 kept kept.length l.length l l.length (fr kept l) (st kept l) (fr kept l).length (st kept l).length))
     | false=>.fail "divide"
   | _,_,_,_,_,_,_=>.fail "divide"
 | _=>.fail "divide"
theorem gD1_ok {N':Env AV} (hF:N'.F=(NV σ).F) (hG:N'.G=(NV σ).G):LoopOk Tryz.prog N' 28 LD (gD1 (fun kept l=>freeD (fun n=>kept.any (slotP n)) l) (fun kept l=>stayD (fun n=>kept.any (slotP n)) l)):=by
 have hcal:CalOk Tryz.prog (NV σ) (joinCal (lv (NV σ) (tabD1 (fun x l=>l.any (slotP x))) 5)):=joinCal_ok (lv_ok okV lpsV hvV (tabAdd_ok sv1_ok tab0_ok) 5)
 refine loopOk_it (N:=NV σ) hF hG okV hcal (lp:=fun _=>none) (fun _ _ _ g hg=>by cases hg) fun s s' ex hgs=>?_
 obtain⟨E1,H1⟩:=s
 unfold gD1 at hgs
 split at hgs
 ·rename_i l kept kq ty hs
  have hs:=stripS_ok hs
  simp only at hs
  subst hs
  split at hgs
  ·rename_i fid q1 q2 e1 e4 e5 e8 e9 e10 ety
   have ety:=(beq_iff _ _).1 ety
   subst ety
   simp only at e1 e4 e5 e8 e9 e10
   split at hgs
   ·rename_i efid
    have efid:=(beq_iff _ _).1 efid
    subst efid
    replace hgs:=need_some hgs
    obtain⟨hb,hgs⟩:=hgs
    obtain⟨rfl,rfl,rfl,hk,hl⟩:=of_decide_eq_true hb
    simp only [T.val,Option.some.injEq,Prod.mk.injEq] at hgs
    obtain⟨rfl,rfl⟩:=hgs
    refine⟨{M:=MD,fam:=famDM1 kept l,step:=stepD l (fun n=>kept.any (slotP n)),ks:=ksD,pk:=noPk,hpk:=(fun d a h=>by cases h),L:=11,len:=rfl,hGL:=(by show 8<=11;decide),run:=stepD1_run σ kept l hk hl,m:=⟨0,[],[]⟩,k:=_,m':=_,ent:=?_,it:=iterD l 0 [] [] rfl (Nat.zero_add _) (Nat.zero_le _) (Nat.zero_le _),fin:=rfl}⟩
    refine enter_only (N:=NV σ) (s:=⟨E1,_⟩) (l:=[.notes [],.notes []]) (fun a ha=>⟨7,knotes.ty,by simp only [List.mem_cons,List.not_mem_nil,or_false,or_self] at ha;rw [ha];rfl⟩) (by show 8<=11;decide) fun k hk=>?_
    simp only [ksD,List.mem_cons,List.not_mem_nil,or_false] at hk
    rcases hk with rfl | rfl | rfl | rfl | rfl | rfl
    ·exact .inl e1.symm
    ·exact .inr (.inr ⟨e4,0,7,by decide,rfl⟩)
    ·exact .inr (.inr ⟨e5,1,7,by decide,rfl⟩)
    ·exact .inl e8.symm
    ·exact .inl e9.symm
    ·exact .inr (.inl ⟨by show Sx.look E1 10≠_;rw [e10];rintro ⟨⟩,plIl _,fun ρ=>by show _=(Sx.look E1 10).den ρ;rw [e10];rfl⟩)
   ·simp [T.val] at hgs
  ·simp [T.val] at hgs
 ·simp [T.val] at hgs
def famDM2 (kept:List N1) (l:List Nt) (m:MD):St AV:=famD2 kept kept.length l.length l m.k m.f m.s m.f.length m.s.length
theorem stepD2_run (σ:Sg) (kept:List N1) (l:List Nt) (hk:kept.length<=100000) (hl:l.length<=100000) (m:MD) (r:Ex×MD) (h:(stepD l (fun n=>kept.any (eraP n)) m).val=some r) :
 ((xc (NV σ) (joinCal (lv (NV σ) (tabD2 (fun x l=>l.any (eraP x))) 5)) (fun _=>none) 28 LD (famDM2 kept l m)).bind (backS 11 28 ksD noPk)).val=some (r.1,famDM2 kept l r.2):=by
 replace h:=need_some h
 obtain⟨hb,h⟩:=h
 obtain⟨h1,h2,h3⟩:=of_decide_eq_true hb
 simp only [T.val,Option.some.injEq] at h
 subst h
 obtain⟨k,f,s⟩:=m
 simp only at h1 h2 h3
 have e1:0+(k:Int).toNat=k:=by omega
 have hw:IntKind.wrap .i64 ((k:Int)+1)=((k+1:Nat):Int):=wrapQ (by omega)
 dsimp only [famDM2]
 rw [d2R]
 by_cases hlt:k < l.length
 ·rw [ivT (decide_eq_true (by show (k:Int) < _;omega)),nv (decide_eq_true (by omega)),nv (decide_eq_true (by omega)),nv (decide_eq_true ⟨rfl,hk⟩),hw,drop_getD knotes.dflt hlt]
  dsimp only [noteD]
  rw [e1]
  cases hp:kept.any (eraP (l.getD k knotes.dflt)) with
  | true=>rw [ivT rfl,nv (sizeD_of rfl (by omega))];simp only [goD,hp,T.val,List.length_append,List.length_cons,List.length_nil]
  | false=>rw [ivF rfl,nv (sizeD_of rfl (by omega))];simp only [goD,hp,T.val,List.length_append,List.length_cons,List.length_nil]
 ·rw [ivF (decide_eq_false (by show ¬(k:Int) < _;omega)),List.drop_eq_nil_of_le (by omega)]
  rfl
noncomputable def gD2 (fr st:List N1->List Nt->List Nt) (s:St AV):T (Ex×St AV):=match stripS s.H 0 noM with
 | some [some (.abs (.notes l)),some (.abs (.ints kept)),some (.cells [.vs 9 0 kq 1 false] ty)] =>
   match Sx.look s.E 1,Sx.look s.E 4,Sx.look s.E 5,Sx.look s.E 8,Sx.look s.E 9,Sx.look s.E 10,Nat.beq ty tSlI with
   | .clo fid [.ptr 10 0],.v (.c .snil),.v (.c .snil),.v (.c (.vs 8 0 q1 7 false)),.v (.c (.it .i64 q2)),.v (.c (.il .i64 0)),true=>match Nat.beq fid 126 with
     | true=>.need (decide (q1=l.length /\ q2=(q1:Int) /\ kq=kept.length /\ kept.length<=100000 /\ l.length<=100000)) (.leaf (.exit 0,famD2 kept kept.length l.length l l.length (fr kept l) (st kept l) (fr kept l).length (st kept l).length))
     | false=>.fail "divide"
   | _,_,_,_,_,_,_=>.fail "divide"
 | _=>.fail "divide"
theorem gD2_ok {N':Env AV} (hF:N'.F=(NV σ).F) (hG:N'.G=(NV σ).G):LoopOk Tryz.prog N' 28 LD (gD2 (fun kept l=>freeD (fun n=>kept.any (eraP n)) l) (fun kept l=>stayD (fun n=>kept.any (eraP n)) l)):=by
 have hcal:CalOk Tryz.prog (NV σ) (joinCal (lv (NV σ) (tabD2 (fun x l=>l.any (eraP x))) 5)):=joinCal_ok (lv_ok okV lpsV hvV (tabAdd_ok sv2_ok tab0_ok) 5)
 refine loopOk_it (N:=NV σ) hF hG okV hcal (lp:=fun _=>none) (fun _ _ _ g hg=>by cases hg) fun s s' ex hgs=>?_
 obtain⟨E1,H1⟩:=s
 unfold gD2 at hgs
 split at hgs
 ·rename_i l kept kq ty hs
  have hs:=stripS_ok hs
  simp only at hs
  subst hs
  split at hgs
  ·rename_i fid q1 q2 e1 e4 e5 e8 e9 e10 ety
   have ety:=(beq_iff _ _).1 ety
   subst ety
   simp only at e1 e4 e5 e8 e9 e10
   split at hgs
   ·rename_i efid
    have efid:=(beq_iff _ _).1 efid
    subst efid
    replace hgs:=need_some hgs
    obtain⟨hb,hgs⟩:=hgs
    obtain⟨rfl,rfl,rfl,hk,hl⟩:=of_decide_eq_true hb
    simp only [T.val,Option.some.injEq,Prod.mk.injEq] at hgs
    obtain⟨rfl,rfl⟩:=hgs
    refine⟨{M:=MD,fam:=famDM2 kept l,step:=stepD l (fun n=>kept.any (eraP n)),ks:=ksD,pk:=noPk,hpk:=(fun d a h=>by cases h),L:=11,len:=rfl,hGL:=(by show 8<=11;decide),run:=stepD2_run σ kept l hk hl,m:=⟨0,[],[]⟩,k:=_,m':=_,ent:=?_,it:=iterD l 0 [] [] rfl (Nat.zero_add _) (Nat.zero_le _) (Nat.zero_le _),fin:=rfl}⟩
    refine enter_only (N:=NV σ) (s:=⟨E1,_⟩) (l:=[.notes [],.notes []]) (fun a ha=>⟨7,knotes.ty,by simp only [List.mem_cons,List.not_mem_nil,or_false,or_self] at ha;rw [ha];rfl⟩) (by show 8<=11;decide) fun k hk=>?_
    simp only [ksD,List.mem_cons,List.not_mem_nil,or_false] at hk
    rcases hk with rfl | rfl | rfl | rfl | rfl | rfl
    ·exact .inl e1.symm
    ·exact .inr (.inr ⟨e4,0,7,by decide,rfl⟩)
    ·exact .inr (.inr ⟨e5,1,7,by decide,rfl⟩)
    ·exact .inl e8.symm
    ·exact .inl e9.symm
    ·exact .inr (.inl ⟨by show Sx.look E1 10≠_;rw [e10];rintro ⟨⟩,plIl _,fun ρ=>by show _=(Sx.look E1 10).den ρ;rw [e10];rfl⟩)
   ·simp [T.val] at hgs
  ·simp [T.val] at hgs
 ·simp [T.val] at hgs
def famDM3 (kept:List Sp) (l:List Nt) (m:MD):St AV:=famD3 kept kept.length l.length l m.k m.f m.s m.f.length m.s.length
theorem stepD3_run (σ:Sg) (kept:List Sp) (l:List Nt) (hk:kept.length<=100000) (hl:l.length<=100000) (m:MD) (r:Ex×MD) (h:(stepD l (fun n=>kept.any (spanP n)) m).val=some r) :
 ((xc (NV σ) (joinCal (lv (NV σ) (tabD3 (fun x l=>l.any (spanP x))) 5)) (fun _=>none) 28 LD (famDM3 kept l m)).bind (backS 11 28 ksD noPk)).val=some (r.1,famDM3 kept l r.2):=by
 replace h:=need_some h
 obtain⟨hb,h⟩:=h
 obtain⟨h1,h2,h3⟩:=of_decide_eq_true hb
 simp only [T.val,Option.some.injEq] at h
 subst h
 obtain⟨k,f,s⟩:=m
 simp only at h1 h2 h3
 have e1:0+(k:Int).toNat=k:=by omega
 have hw:IntKind.wrap .i64 ((k:Int)+1)=((k+1:Nat):Int):=wrapQ (by omega)
 dsimp only [famDM3]
 rw [d3R]
 by_cases hlt:k < l.length
 ·rw [ivT (decide_eq_true (by show (k:Int) < _;omega)),nv (decide_eq_true (by omega)),nv (decide_eq_true (by omega)),nv (decide_eq_true ⟨rfl,hk⟩),hw,drop_getD knotes.dflt hlt]
  dsimp only [noteD]
  rw [e1]
  cases hp:kept.any (spanP (l.getD k knotes.dflt)) with
  | true=>rw [ivT rfl,nv (sizeD_of rfl (by omega))];simp only [goD,hp,T.val,List.length_append,List.length_cons,List.length_nil]
  | false=>rw [ivF rfl,nv (sizeD_of rfl (by omega))];simp only [goD,hp,T.val,List.length_append,List.length_cons,List.length_nil]
 ·rw [ivF (decide_eq_false (by show ¬(k:Int) < _;omega)),List.drop_eq_nil_of_le (by omega)]
  rfl
noncomputable def gD3 (fr st:List Sp->List Nt->List Nt) (s:St AV):T (Ex×St AV):=match stripS s.H 0 noM with
 | some [some (.abs (.notes l)),some (.abs (.spans kept)),some (.cells [.vs 9 0 kq 3 false] ty)] =>
   match Sx.look s.E 1,Sx.look s.E 4,Sx.look s.E 5,Sx.look s.E 8,Sx.look s.E 9,Sx.look s.E 10,Nat.beq ty tSlS with
   | .clo fid [.ptr 10 0],.v (.c .snil),.v (.c .snil),.v (.c (.vs 8 0 q1 7 false)),.v (.c (.it .i64 q2)),.v (.c (.il .i64 0)),true=>match Nat.beq fid 127 with
     | true=>.need (decide (q1=l.length /\ q2=(q1:Int) /\ kq=kept.length /\ kept.length<=100000 /\ l.length<=100000)) (.leaf (.exit 0,famD3 kept kept.length l.length l l.length (fr kept l) (st kept l) (fr kept l).length (st kept l).length))
     | false=>.fail "divide"
   | _,_,_,_,_,_,_=>.fail "divide"
 | _=>.fail "divide"
theorem gD3_ok {N':Env AV} (hF:N'.F=(NV σ).F) (hG:N'.G=(NV σ).G):LoopOk Tryz.prog N' 28 LD (gD3 (fun kept l=>freeD (fun n=>kept.any (spanP n)) l) (fun kept l=>stayD (fun n=>kept.any (spanP n)) l)):=by
 have hcal:CalOk Tryz.prog (NV σ) (joinCal (lv (NV σ) (tabD3 (fun x l=>l.any (spanP x))) 5)):=joinCal_ok (lv_ok okV lpsV hvV (tabAdd_ok sv3_ok tab0_ok) 5)
 refine loopOk_it (N:=NV σ) hF hG okV hcal (lp:=fun _=>none) (fun _ _ _ g hg=>by cases hg) fun s s' ex hgs=>?_
 obtain⟨E1,H1⟩:=s
 unfold gD3 at hgs
 split at hgs
 ·rename_i l kept kq ty hs
  have hs:=stripS_ok hs
  simp only at hs
  subst hs
  split at hgs
  ·rename_i fid q1 q2 e1 e4 e5 e8 e9 e10 ety
   have ety:=(beq_iff _ _).1 ety
   subst ety
   simp only at e1 e4 e5 e8 e9 e10
   split at hgs
   ·rename_i efid
    have efid:=(beq_iff _ _).1 efid
    subst efid
    replace hgs:=need_some hgs
    obtain⟨hb,hgs⟩:=hgs
    obtain⟨rfl,rfl,rfl,hk,hl⟩:=of_decide_eq_true hb
    simp only [T.val,Option.some.injEq,Prod.mk.injEq] at hgs
    obtain⟨rfl,rfl⟩:=hgs
    refine⟨{M:=MD,fam:=famDM3 kept l,step:=stepD l (fun n=>kept.any (spanP n)),ks:=ksD,pk:=noPk,hpk:=(fun d a h=>by cases h),L:=11,len:=rfl,hGL:=(by show 8<=11;decide),run:=stepD3_run σ kept l hk hl,m:=⟨0,[],[]⟩,k:=_,m':=_,ent:=?_,it:=iterD l 0 [] [] rfl (Nat.zero_add _) (Nat.zero_le _) (Nat.zero_le _),fin:=rfl}⟩
    refine enter_only (N:=NV σ) (s:=⟨E1,_⟩) (l:=[.notes [],.notes []]) (fun a ha=>⟨7,knotes.ty,by simp only [List.mem_cons,List.not_mem_nil,or_false,or_self] at ha;rw [ha];rfl⟩) (by show 8<=11;decide) fun k hk=>?_
    simp only [ksD,List.mem_cons,List.not_mem_nil,or_false] at hk
    rcases hk with rfl | rfl | rfl | rfl | rfl | rfl
    ·exact .inl e1.symm
    ·exact .inr (.inr ⟨e4,0,7,by decide,rfl⟩)
    ·exact .inr (.inr ⟨e5,1,7,by decide,rfl⟩)
    ·exact .inl e8.symm
    ·exact .inl e9.symm
    ·exact .inr (.inl ⟨by show Sx.look E1 10≠_;rw [e10];rintro ⟨⟩,plIl _,fun ρ=>by show _=(Sx.look E1 10).den ρ;rw [e10];rfl⟩)
   ·simp [T.val] at hgs
  ·simp [T.val] at hgs
 ·simp [T.val] at hgs
end Go.Proofs.YtcpdipfepeccgaaGreatDoor
