import Derived.Test.YtadmfaohjnjajaaGreatDoorQy
import Derived.Test.YtadmfaohjnjajaaGreatDoorRu
import Derived.Test.YtadmfaohjnjajaaGreatDoorRr
set_option linter.unusedVariables false
set_option linter.unusedSimpArgs false
set_option maxHeartbeats 0
set_option maxRecDepth 100000
noncomputable section
namespace Go.Proofs.YtadmfaohjnjajaaGreatDoor
section
open Go Go.Sx Go.Proofs
variable {σ:Sg} {lp:Lp}
def agj:List Bool:=mkM 15
def tB (b:Bool):T (SV×List AV×List AV):=.aE (.v (.c (.bt b)),[],[])
def oD (σ:Sg) (s:Cell) (o:O):T (SV×List AV×List AV):=kN σ ca 15 agj [.v (.c s),.v (.agg (FM (O.wr o)))] []
theorem am1 (σ:Sg) (o:O):oD σ (.il .i64 1) o=sd tI (tB true) (tB false) o:=by kernel_rfl
theorem am0 (σ:Sg) (o:O):oD σ (.il .i64 2) o=sL tI (tB true) (tB false) o:=by kernel_rfl
theorem amZ (σ:Sg) (o:O):oD σ (.il .i64 3) o=sY tI (tB true) (tB false) (tB true) o:=by kernel_rfl
theorem amY (σ:Sg) (o:O):oD σ (.il .i64 4) o=yi tI (tB true) (tB false) o:=by kernel_rfl
theorem amX (σ:Sg) (o:O):oD σ (.il .i64 5) o=yx tI (tB true) (tB false) o:=by kernel_rfl
theorem am2 (σ:Sg) (s:Int) (h:∀c∈[(1:Int),2,3,4,5],(s==c)=false) (o:O):oD σ (.iv .i64 s [1,2,3,4,5] h) o=tB false:=by kernel_rfl
def aIO:l9 (Int×O) where
 bx x:=[.v (.c (.it .i64 x.1)),.v (.agg (FM (O.wr x.2)))]
 iM:=fun | [.v (.c c),.v (.agg cs)]=>(match j6 c,O.rd ((B6 cs).map .p) with | some s,some (o,[])=>some (s,o) | _,_=>none) | _=>none
 ok:=fun l a h ρ=>by
  split at h
  ·split at h
   ·rename_i h0 h1
    cases h
    have:=O.gK h1
    rw [aeJ] at this
    rw [<- this,qy]
    simp only [abv,aeU,SV.aq,V1.aq,uz,cB h0 ρ]
    rfl
   ·cases h
  ·cases h
 free:=fun _=>rfl
theorem spB {α β:Type} {d:α->Option β} {b:Bool} {t e:T α} {x y:β} (h1:(t.map d).val=some (some x)) (h2:(e.map d).val=some (some y)):((tI b t e).map d).val=some (some (cond b x y)):=by cases b<;>assumption
theorem vTB (b:Bool):((tB b).map (pZ J2)).val=some (some b):=rfl
theorem abS:cD Tryz.prog (NV σ) 15 (bP cJ agj (zd aIO J2 (fun _=>none) (fun x=>kU x.1 x.2))) :=
 vQ bn (jC _) fun x _=>by
  obtain⟨s,o⟩:=x
  unfold kU
  dsimp only
  by_cases h1:s=1
  ·subst h1
   refine⟨[.v (.c (.il .i64 1)),.v (.agg (FM (O.wr o)))],rfl,fun _=>rfl,?_⟩
   show ((oD σ _ o).map (pZ J2)).val=_
   rw [am1,if_pos rfl];unfold sd
   repeat' first | exact vTB _ | apply spB
  rw [if_neg h1]
  by_cases h2:s=2
  ·subst h2
   refine⟨[.v (.c (.il .i64 2)),.v (.agg (FM (O.wr o)))],rfl,fun _=>rfl,?_⟩
   show ((oD σ _ o).map (pZ J2)).val=_
   rw [am0,if_pos rfl];unfold sL
   repeat' first | exact vTB _ | apply spB
  rw [if_neg h2]
  by_cases h3:s=3
  ·subst h3
   refine⟨[.v (.c (.il .i64 3)),.v (.agg (FM (O.wr o)))],rfl,fun _=>rfl,?_⟩
   show ((oD σ _ o).map (pZ J2)).val=_
   rw [amZ,if_pos rfl];unfold sY
   repeat' first | exact vTB _ | apply spB
  rw [if_neg h3]
  by_cases h4:s=4
  ·subst h4
   refine⟨[.v (.c (.il .i64 4)),.v (.agg (FM (O.wr o)))],rfl,fun _=>rfl,?_⟩
   show ((oD σ _ o).map (pZ J2)).val=_
   rw [amY,if_pos rfl];unfold yi
   repeat' first | exact vTB _ | apply spB
  rw [if_neg h4]
  by_cases h5:s=5
  ·subst h5
   refine⟨[.v (.c (.il .i64 5)),.v (.agg (FM (O.wr o)))],rfl,fun _=>rfl,?_⟩
   show ((oD σ _ o).map (pZ J2)).val=_
   rw [amX,if_pos rfl];unfold yx
   repeat' first | exact vTB _ | apply spB
  rw [if_neg h5]
  have h:∀c∈[(1:Int),2,3,4,5],(s==c)=false:=DR (by simp [h1,h2,h3,h4,h5])
  refine⟨[.v (.c (.iv .i64 s [1,2,3,4,5] h)),.v (.agg (FM (O.wr o)))],rfl,fun _=>rfl,?_⟩
  show ((oD σ _ o).map (pZ J2)).val=_
  rw [am2];rfl
theorem Fc {α:Type} {b:Bool} {t e:T (Option α)} {x y:Bool} {j:α} (h:cond b x y=true) (h1:x=true->t.val=some (some j)) (h2:y=true->e.val=some (some j)):(tI b t e).val=some (some j):=by
 cases b
 ·exact h2 h
 ·exact h1 h
theorem RP:cD Tryz.prog (NV σ) 34 (bP cJ bL (sm Fx GS (fun o=>some (sd cond true false o)) DZ)) :=
 sj bn rfl fun o h=>⟨Fx.bx o,rfl,fun _=>rfl,by
  have h:sd cond true false o=true:=h
  rw [aaB];unfold sd at h ⊢
  revert h
  repeat' first | exact fun _=>rfl | exact fun h=>absurd h (by decide) | (refine fun h=>Fc h ?_ ?_)⟩
theorem S6:cD Tryz.prog (NV σ) 35 (bP cJ bL (sm Fx GU (fun o=>some (sL cond true false o)) D0)) :=
 sj bn rfl fun o h=>⟨Fx.bx o,rfl,fun _=>rfl,by
  have h:sL cond true false o=true:=h
  rw [ace];unfold sL at h ⊢
  revert h
  repeat' first | exact fun _=>rfl | exact fun h=>absurd h (by decide) | (refine fun h=>Fc h ?_ ?_)⟩
theorem WI:cD Tryz.prog (NV σ) 36 (bP cJ bL (sm Fx DL (fun o=>some (sY cond true false false o)) G3)) :=
 sj bn rfl fun o h=>⟨Fx.bx o,rfl,fun _=>rfl,by
  have h:sY cond true false false o=true:=h
  rw [ags];unfold sY at h ⊢
  revert h
  repeat' first | exact fun _=>rfl | exact fun h=>absurd h (by decide) | (refine fun h=>Fc h ?_ ?_)⟩
theorem T1:cD Tryz.prog (NV σ) 37 (bP cJ bL (sm Fx NY (fun o=>some (yi cond true false o)) G2)) :=
 sj bn rfl fun o h=>⟨Fx.bx o,rfl,fun _=>rfl,by
  have h:yi cond true false o=true:=h
  rw [ae8];unfold yi at h ⊢
  revert h
  repeat' first | exact fun _=>rfl | exact fun h=>absurd h (by decide) | (refine fun h=>Fc h ?_ ?_)⟩
theorem UI:cD Tryz.prog (NV σ) 38 (bP cJ bL (sm Fx DK (fun o=>some (yx cond true false o)) Lj)) :=
 sj bn rfl fun o h=>⟨Fx.bx o,rfl,fun _=>rfl,by
  have h:yx cond true false o=true:=h
  rw [afu];unfold yx at h ⊢
  revert h
  repeat' first | exact fun _=>rfl | exact fun h=>absurd h (by decide) | (refine fun h=>Fc h ?_ ?_)⟩
end
section
open Go Go.Sx Go.Proofs
variable {σ:Sg} {lp:Lp}
structure CO where
 fit:Int->O->Bool
 qI:Nat->O->Bool
 Tv:au->Cl->Bool
 bg:au->Cl->au
def adw (σ:Sg) (G:CO) (F:xi) (k:Nat):mK:=bA 15 (bP cJ agj (zd aIO J2 (fun _=>none) (fun x=>G.fit x.1 x.2)))
 (bA 34 (bP cJ bL (sm Fx GS (fun o=>some (G.qI 1 o)) DZ)) (bA 35 (bP cJ bL (sm Fx GU (fun o=>some (G.qI 2 o)) D0))
 (bA 36 (bP cJ bL (sm Fx DL (fun o=>some (G.qI 3 o)) G3)) (bA 37 (bP cJ bL (sm Fx NY (fun o=>some (G.qI 4 o)) G2))
 (bA 38 (bP cJ bL (sm Fx DK (fun o=>some (G.qI 5 o)) Lj)) (bA 55 (bP cJ bL (fZ Kb J2 gW (fun _ _=>none) (fun m _=>(iq m,m))))
 (bA 54 (bP cJ bL (fZ aCl B0 gW (fun m c=>some (G.Tv m c)) (fun m c=>((),G.bg m c))))
 (bA 29 (Q4 σ (bP cJ bL (G5 2 Kb FX (fun v _=>some (F.nr v)) fun v _=>(.ji [],tD F k v,[])))) ca))))))))
def mGv:List Bool:=mkM 9
def ab6:SV×List AV×List AV->Option (SV×az)
 | (v,[.tu a],[])=>some (v,a)
 | _=>none
def uc (σ:Sg) (G:CO) (F:xi) (k:Nat) (v:az) (o:O):T (Option (SV×az)):=(Bs jr σ (adw σ G F k) 9 mGv [.v (.c (.ptr 7 0)),.v (.agg (FM (O.wr o)))] [iD v] (fP AV.len qg (dh 0 (az.wr v)))).map ab6
def nV:Cl:=⟨1,gX,ao,ao,0,0,⟨0,0⟩⟩
def uF (s:Nat) (o:O):dU:=match s with | 1=>.dZ (DZ o) | 2=>.dH (D0 o) | 3=>.lit (G3 o) | 4=>.ph (G2 o) | _=>.oM (Lj o)
def Ga (bg:au->Cl->au) (s:Nat) (v:az) (o:O):az:={v with aQ:=bg v.aQ nV,bh:=1,call:=nV,op:=o,cC:=some (uF s o),answer:=⟨0,0⟩}
def zc {β:Type} (I:Bool->β->β->β) (N:Bool->β->β) (E:Nat->β) (L:az->β) (G:CO) (nr:az->Bool) (ad:az->az) (s:Nat) (v:az) (o:O):β :=
 I (v.bh != 0) (N true (E TD)) (I (!G.fit v.sort o) (N true (E TE)) (N (G.qI s o) (N (G.Tv v.aQ nV) (N true (N (nr (Ga G.bg s v o)) (N true (L (ad (Ga G.bg s v o)))))))))
def Qq (v:az):T (Option (SV×az)):=.aE (some (.v (.c .fL),v))
def Qr (σ:Sg) (v:az) (i:Nat):T (Option (SV×az)):=.aE (some (.v (OC σ i),v))
theorem ahq (σ:Sg) (G:CO) (F:xi) (v:az) (o:O):uc σ G F 1 {v with sort:=1,cC:=none} o=zc tI tN (Qr σ {v with sort:=1,cC:=none}) Qq G F.nr (tD F 1) 1 {v with sort:=1,cC:=none} o:=by kernel_rfl
theorem ahp (σ:Sg) (G:CO) (F:xi) (v:az) (j:dr) (o:O):uc σ G F 1 {v with sort:=1,cC:=some (.dZ j)} o=zc tI tN (Qr σ {v with sort:=1,cC:=some (.dZ j)}) Qq G F.nr (tD F 1) 1 {v with sort:=1,cC:=some (.dZ j)} o:=by kernel_rfl
theorem aho (σ:Sg) (G:CO) (F:xi) (v:az) (o:O):uc σ G F 2 {v with sort:=2,cC:=none} o=zc tI tN (Qr σ {v with sort:=2,cC:=none}) Qq G F.nr (tD F 2) 2 {v with sort:=2,cC:=none} o:=by kernel_rfl
theorem ahn (σ:Sg) (G:CO) (F:xi) (v:az) (j:cY) (o:O):uc σ G F 2 {v with sort:=2,cC:=some (.dH j)} o=zc tI tN (Qr σ {v with sort:=2,cC:=some (.dH j)}) Qq G F.nr (tD F 2) 2 {v with sort:=2,cC:=some (.dH j)} o:=by kernel_rfl
theorem ahm (σ:Sg) (G:CO) (F:xi) (v:az) (o:O):uc σ G F 3 {v with sort:=3,cC:=none} o=zc tI tN (Qr σ {v with sort:=3,cC:=none}) Qq G F.nr (tD F 3) 3 {v with sort:=3,cC:=none} o:=by kernel_rfl
theorem ahl (σ:Sg) (G:CO) (F:xi) (v:az) (j:cM) (o:O):uc σ G F 3 {v with sort:=3,cC:=some (.lit j)} o=zc tI tN (Qr σ {v with sort:=3,cC:=some (.lit j)}) Qq G F.nr (tD F 3) 3 {v with sort:=3,cC:=some (.lit j)} o:=by kernel_rfl
theorem ahk (σ:Sg) (G:CO) (F:xi) (v:az) (o:O):uc σ G F 4 {v with sort:=4,cC:=none} o=zc tI tN (Qr σ {v with sort:=4,cC:=none}) Qq G F.nr (tD F 4) 4 {v with sort:=4,cC:=none} o:=by kernel_rfl
theorem ahj (σ:Sg) (G:CO) (F:xi) (v:az) (j:bW) (o:O):uc σ G F 4 {v with sort:=4,cC:=some (.ph j)} o=zc tI tN (Qr σ {v with sort:=4,cC:=some (.ph j)}) Qq G F.nr (tD F 4) 4 {v with sort:=4,cC:=some (.ph j)} o:=by kernel_rfl
theorem ahi (σ:Sg) (G:CO) (F:xi) (v:az) (o:O):uc σ G F 5 {v with sort:=5,cC:=none} o=zc tI tN (Qr σ {v with sort:=5,cC:=none}) Qq G F.nr (tD F 5) 5 {v with sort:=5,cC:=none} o:=by kernel_rfl
theorem ahh (σ:Sg) (G:CO) (F:xi) (v:az) (j:cd) (o:O):uc σ G F 5 {v with sort:=5,cC:=some (.oM j)} o=zc tI tN (Qr σ {v with sort:=5,cC:=some (.oM j)}) Qq G F.nr (tD F 5) 5 {v with sort:=5,cC:=some (.oM j)} o:=by kernel_rfl
theorem Wa (i:Nat):∀(gs:Gs),iQ (dh i gs)=iQ gs:=by
 induction i with
 | zero=>intro gs;match gs with
   | []=>rfl
   | .p c::r=>cases c<;>rfl
   | .s _ _::r=>rfl
   | .r _::r=>rfl
   | .i _ _::r=>rfl
 | succ i ih=>intro gs;match gs with
   | []=>rfl
   | .p c::r=>show GC.p (DQ c)::iQ (dh i r)=_;rw [ih r];rfl
   | .s a e::r=>show GC.s a e::iQ (dh i r)=_;rw [ih r];rfl
   | .r a::r=>show GC.r a::iQ (dh i r)=_;rw [ih r];rfl
   | .i t a::r=>show GC.i t a::iQ (dh i r)=_;rw [ih r];rfl
def stB (k:Nat) (o:O):Bool:=match k with | 1=>sd cond true false o | 2=>sL cond true false o | 3=>sY cond true false false o | 4=>yi cond true false o | _=>yx cond true false o
def JC:CO:=⟨kU,stB,FW,aX⟩
theorem aeM (k:Nat):cD Tryz.prog (NV σ) 29 (Q4 σ (bP cJ bL (G5 2 Kb FX (fun v _=>some ((oN k).nr v)) fun v _=>(.ji [],tD (oN k) k v,[])))):=by
 refine Iz (Ll rfl fun v x h=>?_)
 have h:(oN k).nr v=true:=h
 show qT _ _ _ _ _ (.ji []) (gM bL [iD (tD (oN k) k v)])
 rw [adK_eq h]
 exact QW σ v (IM h).1
theorem Um (k:Nat):dB Tryz.prog (NV σ) (adw σ JC (oN k) k) :=
 aK abS (aK RP (aK S6 (aK WI (aK T1 (aK UI (aK vG (aK Fa (aK (aeM k) bn))))))))
theorem HW {r:SV×List AV×List AV} {v:SV} {a:az} (h:ab6 r=some (v,a)):r=(v,[.tu a],[]):=by
 unfold ab6 at h
 split at h
 ·cases h;rfl
 ·cases h
def Jb (v:az):Prop:=1<=v.sort /\ v.sort<=5 /\ (cZ v=0 \/ (cZ v:Int)=v.sort)
theorem abF (σ:Sg) (v:az) (o:O) (hk:Jb v) (r:Option (SV×az)) (h:(zc tI tN (Qr σ v) Qq JC (oN v.sort.toNat).nr (tD (oN v.sort.toNat) v.sort.toNat) v.sort.toNat v o).val=some r):(uc σ JC (oN v.sort.toNat) v.sort.toNat v o).val=some r:=by
 obtain⟨so,en,ri,dg,cl,op,cC,an⟩:=v
 obtain⟨h1,h2,h3⟩:=hk
 dsimp only at h1 h2 h3
 rcases (by omega:so=1 \/ so=2 \/ so=3 \/ so=4 \/ so=5) with rfl | rfl | rfl | rfl | rfl
 ·cases cC with
  | none=>exact(congrArg T.val (ahq σ JC (oN 1) ⟨1,en,ri,dg,cl,op,none,an⟩ o)).trans h
  | some j =>
    cases j with
    | dZ j=>exact(congrArg T.val (ahp σ JC (oN 1) ⟨1,en,ri,dg,cl,op,none,an⟩ j o)).trans h
    | _=>simp [cZ] at h3
 ·cases cC with
  | none=>exact(congrArg T.val (aho σ JC (oN 2) ⟨2,en,ri,dg,cl,op,none,an⟩ o)).trans h
  | some j =>
    cases j with
    | dH j=>exact(congrArg T.val (ahn σ JC (oN 2) ⟨2,en,ri,dg,cl,op,none,an⟩ j o)).trans h
    | _=>simp [cZ] at h3
 ·cases cC with
  | none=>exact(congrArg T.val (ahm σ JC (oN 3) ⟨3,en,ri,dg,cl,op,none,an⟩ o)).trans h
  | some j =>
    cases j with
    | lit j=>exact(congrArg T.val (ahl σ JC (oN 3) ⟨3,en,ri,dg,cl,op,none,an⟩ j o)).trans h
    | _=>simp [cZ] at h3
 ·cases cC with
  | none=>exact(congrArg T.val (ahk σ JC (oN 4) ⟨4,en,ri,dg,cl,op,none,an⟩ o)).trans h
  | some j =>
    cases j with
    | ph j=>exact(congrArg T.val (ahj σ JC (oN 4) ⟨4,en,ri,dg,cl,op,none,an⟩ j o)).trans h
    | _=>simp [cZ] at h3
 ·cases cC with
  | none=>exact(congrArg T.val (ahi σ JC (oN 5) ⟨5,en,ri,dg,cl,op,none,an⟩ o)).trans h
  | some j =>
    cases j with
    | oM j=>exact(congrArg T.val (ahh σ JC (oN 5) ⟨5,en,ri,dg,cl,op,none,an⟩ j o)).trans h
    | _=>simp [cZ] at h3
theorem aaN (v:az):iQ (az.wr v)=az.wr v:=by
 obtain⟨so,en,ri,dg,cl,op,cC,an⟩:=v
 cases cC with
 | none=>rfl
 | some j=>cases j<;>rfl
theorem abG (σ:Sg) (v:az) (o:O) (hk:Jb v) {x:SV} {v':az} (h:(zc tI tN (Qr σ v) Qq JC (oN v.sort.toNat).nr (tD (oN v.sort.toNat) v.sort.toNat) v.sort.toNat v o).val=some (some (x,v'))) :
 qT Tryz.prog (NV σ) 9 [.v (.c (.ptr 7 0)),.v (.agg (FM (O.wr o)))] (gM mGv [iD v]) x (gM mGv [iD v']):=by
 obtain⟨y,h1,h2⟩:=dp (abF σ v o hk _ h)
 rw [HW h2] at h1
 exact sK (ub ou (B3 (Um _)) (jC _) (a:=iD v) (K:=fP AV.len qg (dh 0 (az.wr v))) ⟨_,rfl⟩ (fun L S w hq=>yO ((sW (N:=hP jr σ) rfl (by rw [Wa,aaN];exact rfl) rfl L S w).1 hq)) (fun x hx=>by
  simp only [abk,abo,or_false] at hx
  rcases hx with rfl | rfl
  ·exact I3 (jC _)
  ·exact zR rfl) h1).1
def xb (v:az) (o:O):az:=kH (Ga aX v.sort.toNat v o)
def K9 (v:az) (o:O):Prop:=FW v.aQ nV=true /\ tz (Ga aX v.sort.toNat v o)=true
def Qs (σ:Sg) (args:List SV) (l:List AV):T (SV×List AV×List AV):=match args,l with
 | [.v (.c (.ptr 7 0)),a],[.tu v]=>match Fx.iM [a] with
   | some o=>.aJ (iI (Jb v)) (.ite (v.bh != 0) (.aE (.v (OC σ TD),[.tu v],[])) (.ite (!kU v.sort o) (.aE (.v (OC σ TE),[.tu v],[])) (.aJ (iI (K9 v o)) (.aE (.v (.c .fL),[.tu (xb v o)],[])))))
   | none=>.fail "Give"
 | _,_=>.fail "Give"
theorem abR {v:az} {o:O} (hk:Jb v) (h:kU v.sort o=true):stB v.sort.toNat o=true:=by
 obtain⟨h1,h2,h3⟩:=hk
 generalize v.sort=s at h1 h2 h
 rcases (by omega:s=1 \/ s=2 \/ s=3 \/ s=4 \/ s=5) with rfl | rfl | rfl | rfl | rfl
 ·exact h
 ·exact h
 ·have h:sY cond true false true o=true:=h
  show sY cond true false false o=true
  unfold sY at h ⊢
  cases hb:u9 o with
  | true=>rw [hb] at h;cases h
  | false =>
    show cond _ _ _=true
    have hg:(!uP o)=false:=by
     unfold u9 at hb
     split at hb
     ·rename_i hg;exact eq_of_beq hg
     ·cases hb
    have hg:uP o=true:=by simpa using hg
    unfold uP at hg
    cases h6:o.aj==6 with
    | true=>rfl
    | false =>
      cases h7:o.aj==7 with
      | true=>rfl
      | false =>
        cases h8:o.aj==8 with
        | true=>rfl
        | false =>
          rw [h6,h7,h8] at hg
          split at hg
          ·cases hg
          ·cases hg
 ·exact h
 ·exact h
theorem abE:cD Tryz.prog (NV σ) 9 (bP cJ mGv (Qs σ)):=by
 refine gH dE (jC _) fun args l x l' nw h hl bM=>?_
 unfold Qs at h
 split at h
 ·rename_i a v
  split at h
  ·rename_i o ho
   obtain⟨hk,h⟩:=aD (h:(T.aJ _ _).val=_)
   have hk:=gJ hk
   have fin:∀{x0:SV} {v0:az},(zc tI tN (Qr σ v) Qq JC (oN v.sort.toNat).nr (tD (oN v.sort.toNat) v.sort.toNat) v.sort.toNat v o).val=some (some (x0,v0))->some (x0,[AV.tu v0],([]:List AV))=some (x,l',nw)->qT Tryz.prog (NV σ) 9 [.v (.c (.ptr 7 0)),a] (gM mGv [iD v]) x (gM mGv (l'++nw)):=fun {x0 v0} h1 h2=>by
    cases h2
    exact jg (abG σ v o hk h1) fun ρ=>congrArg (List.cons (SV.aq ρ (.v (.c (.ptr 7 0))))) (Fx.ok _ _ ho ρ).symm
   unfold zc at fin
   cases hb:(v.bh != 0) with
   | true =>
     rw [hb] at h fin
     exact fin rfl h
   | false =>
     rw [hb] at h fin
     cases hf:kU v.sort o with
     | false =>
       rw [hf] at h
       exact fin (show (tI (!kU v.sort o) _ _).val=_ by rw [hf];rfl) h
     | true =>
       rw [hf] at h
       obtain⟨h2,h⟩:=aD (h:(T.aJ _ _).val=_)
       obtain⟨h3,h4⟩:=gJ h2
       have ho:(oN v.sort.toNat).nr (Ga aX v.sort.toNat v o)=true:=by
        show (match tz (Ga aX v.sort.toNat v o) with | true=>Nat.beq (cZ (Ga aX v.sort.toNat v o)) v.sort.toNat | false=>false)=true
        rw [h4]
        refine(aC _ _).2 ?_
        have h1:=hk.1;have h2:=hk.2.1
        unfold Ga
        generalize v.sort=s at h1 h2
        rcases (by omega:s=1 \/ s=2 \/ s=3 \/ s=4 \/ s=5) with rfl | rfl | rfl | rfl | rfl<;>rfl
       refine fin (x0:=.v (.c .fL)) (v0:=xb v o) ?_ h
       show (tI (!kU v.sort o) _ (tN (stB v.sort.toNat o) (tN (FW v.aQ nV) _))).val=_
       rw [hf]
       refine(nv (abR hk hf)).trans ((nv h3).trans ((nv rfl).trans ((nv ho).trans ((nv rfl).trans ?_))))
       show some (some (SV.v (V1.c Cell.fL),tD _ _ _))=_
       rw [show JC.bg=aX from rfl,adK_eq ho];rfl
  ·cases h
 ·cases h
end
section
open Go Go.Sx Go.Proofs
def dU.WF (n:Int) (hd:Bool):dU->Prop
 | .dZ j=>j.WF n /\ hd=false
 | .dH j=>j.WF n /\ hd=true
 | .lit j=>j.WF n /\ hd=false
 | .ph j=>j.WF n /\ hd=false
 | .oM j=>j.WF n /\ hd=false
def dU.aw (c:Cl):dU->Prop
 | .dZ j=>True
 | .dH j=>j.aw c
 | .lit j=>j.aw c
 | .ph j=>j.aw c
 | .oM j=>j.aw c
def dU.rk:dU->Nat
 | .dZ j=>j.rk
 | .dH j=>j.rk
 | .lit j=>j.rk
 | .ph j=>j.rk
 | .oM j=>j.rk
theorem TL (w:Option bm):wrk w<=2:=by
 cases w with
 | none=>exact adr _
 | some w=>show bm.rk w<=2;unfold bm.rk;repeat' split
           all_goals decide
theorem Wz (l:cM):l.rk<=3:=by
 have:=TL l.walk
 unfold cM.rk
 split<;>omega
theorem dU.akz (j:dU):j.rk<=3:=by
 cases j with
 | dZ j=>show dr.rk j<=3;unfold dr.rk;split<;>decide
 | dH j=>show cY.rk j<=3;unfold cY.rk;split<;>decide
 | lit j=>exact Wz j
 | ph j =>
   show bW.rk j<=3
   unfold bW.rk
   split
   ·cases j.inner with
    | none=>exact adr _
    | some l=>exact Wz l
   ·have:=TL j.walk;omega
 | oM j =>
   show cd.rk j<=3
   unfold cd.rk
   have:crk j.kz<=2:=by
    cases j.kz with
    | none=>exact adr _
    | some c=>show aN.rk c<=2;unfold aN.rk;repeat' split
              all_goals decide
   split<;>omega
theorem dU.adS {n:Int} {hd:Bool} {j:dU} (h:j.WF n hd):j.ok=true:=by
 cases j with
 | ph j =>
   obtain⟨h,_⟩:=h
   show R1 j=true
   have a:∀{x y:Bool},x=true->y=true->gC x y=true:=fun {x y} h1 h2=>by rw [h1,h2];rfl
   have o1:∀{x y:Bool},x=true->lL x y=true:=fun {x y} h1=>by rw [h1];rfl
   have o2:∀{x y:Bool},y=true->lL x y=true:=fun {x y} h1=>by rw [h1];cases x<;>rfl
   refine a (aaS h.key) (a (aaS h.kd) (a (aaS h.child) ?_))
   have hw:=h.wb
   have hc:=h.wc
   have hp:=h.pc
   generalize j.pc=pc at hw hc hp
   rcases hp with rfl | rfl | rfl | rfl | rfl | rfl | rfl | rfl | rfl | rfl | rfl | rfl | rfl | rfl | rfl | rfl | rfl
   all_goals first
    | exact o1 (by decide)
    | exact o2 (o1 (a (by decide) (hw rfl)))
    | exact o2 (o2 (a (by decide) (hc (by decide))))
 | oM j =>
   obtain⟨h,_⟩:=h
   show K8 j=true
   unfold K8
   split
   ·exact aaS h.kd
   ·rename_i c hc
    have hl:=(h.cl c hc).lv
    rw [show sg c=true from aaS (by omega)]
    exact aaS h.kd
 | _=>rfl
structure anV (n:Int) (hd:Bool) (r0:Nat) (r:Cl×dU):Prop where
 PI:r.1.aj=12 \/ ClB n hd r.1
 nk:r.1.aj≠12->sU n r.1
 wf:r.2.WF n hd
 rk:FG r.1->r.2.rk < r0
 aw:r.2.aw r.1
theorem W7 {n:Int} (h0:0<=n) {hd:Bool} {j:dU} (h:j.WF n hd) {c:Cl} (ha:j.aw c) {x:cr} (hr:vg n hd c x):anV n hd j.rk (j.next x):=by
 have cb:∀{c:Cl},hd=false->Res n c->(c.aj=12 \/ ClB n hd c):=fun {c} e h=>h.elim .inl fun h=>.inr (.inl ⟨h,fun e2=>by rw [e] at e2;cases e2⟩)
 have nk:∀{c:Cl},Res n c->c.aj≠12->sU n c:=fun {c} h e=>h.elim (fun h=>absurd h e) id
 cases j with
 | dZ j=>have hn:=aaz h0 h.1 hr.w;exact⟨cb h.2 hn.PI,nk hn.PI,⟨hn.wf,h.2⟩,hn.rk,trivial⟩
 | dH j =>
   obtain⟨h,rfl⟩:=h
   have hn:=acb h0 h ha hr
   exact⟨hn.PI.elim .inl fun h=>.inr (.inl ⟨h,fun _=>hn.aw.2⟩),nk hn.PI,⟨hn.wf,rfl⟩,hn.rk,hn.aw.1⟩
 | lit j=>have hn:=Oa h0 h.1 ha hr;exact⟨cb h.2 hn.PI,nk hn.PI,⟨hn.wf,h.2⟩,hn.rk,hn.aw⟩
 | ph j=>have hn:=ae1 h0 h.1 ha hr;exact⟨cb h.2 hn.PI,nk hn.PI,⟨hn.wf,h.2⟩,hn.rk,hn.aw⟩
 | oM j=>have hn:=afs h0 h.1 ha hr;exact⟨cb h.2 hn.PI,nk hn.PI,⟨hn.wf,h.2⟩,hn.rk,hn.aw⟩
structure az.WF (n:Int) (K:Nat) (v:az):Prop where
 kj:Jb v
 dg:0<=v.bh /\ v.bh<=4
 aQ:v.aQ.WF n (v.sort==2) K
 call:v.aQ.step≠0->v.aQ.call=v.call
 Xc:v.bh=0->v.aQ.step=0
 cC:(v.bh=1 \/ v.bh=2)->∃j,v.cC=some j /\ j.WF n (v.sort==2) /\ j.aw v.call /\ (v.aQ.step=0->vg n (v.sort==2) v.call v.aQ.bz)
def az.ml (v:az):Prop:=v.bh=0 \/ v.aQ.step≠0
def rK (v:az):Nat:=if v.bh=0 \/ v.aQ.step≠0 then 1 else if v.bh=1 \/ v.bh=2 then(match v.cC with | some j=>j.rk+4 | none=>0) else 2
theorem DV {v:az} (h:v.bh=0 \/ v.aQ.step≠0):rK v=1:=if_pos h
theorem WW {v w:az} (h:Jb v) (hs:w.sort=v.sort) (hk:cZ w=cZ v):Jb w:=by
 obtain⟨a,b,c⟩:=h
 exact⟨by rw [hs];exact a,by rw [hs];exact b,by rw [hk,hs];exact c⟩
theorem OY {n:Int} {m:au} {c:Cl} (h:sU n c) (hi:¬FG c):(aX m c).step≠0:=by
 unfold FG at hi
 have hk:c.aj=3 \/ c.aj=4 \/ c.aj=5 \/ c.aj=6 \/ c.aj=8 \/ c.aj=9:=by
  rcases h.2.2 with⟨h,_⟩ | ⟨h,_⟩ | ⟨h,_⟩ | h | ⟨h,_⟩<;>omega
 unfold aX fz
 rw [if_neg (by omega),if_neg (by omega)]
 unfold jA
 rw [if_neg (by omega),if_neg (by omega)]
 by_cases k3:c.aj=3
 ·rw [if_pos k3];show (1:Int)≠0;decide
 rw [if_neg k3]
 by_cases k4:c.aj=4
 ·rw [if_pos k4];show (1:Int)≠0;decide
 rw [if_neg k4]
 by_cases k5:c.aj=5
 ·rw [if_pos k5];show (1:Int)≠0;decide
 rw [if_neg k5]
 by_cases k6:c.aj=6
 ·rw [if_pos k6];show (5:Int)≠0;decide
 rw [if_neg k6,if_neg (by omega)]
 by_cases k8:c.aj=8
 ·rw [if_pos k8]
  split
  ·show (8:Int)≠0;decide
  ·show (1:Int)≠0;decide
 rw [if_neg k8,if_pos (by omega)]
 show (2:Int)≠0;decide
theorem Vn {n:Int} (h0:0<=n) {K:Nat} (hK:K<=100000) {v:az} (h:v.WF n K):(v.ml /\ (cF v).val=some (.exit 0,v)) \/ (¬v.ml /\ ∃v',(cF v).val=some (.normal,v') /\ v'.WF n (K+1) /\ v'.sort=v.sort /\ rK v' < rK v):=by
 by_cases hr:v.ml
 ·refine .inl ⟨hr,?_⟩
  unfold cF eT
  rcases hr with h1 | h1
  ·rw [show ((v.bh != 0)==true)=false by rw [h1];rfl];rfl
  ·cases (v.bh != 0)==true with
   | false=>rfl
   | true =>
     have hb:iq v.aQ=true:=by unfold iq;simpa using h1
     rw [hb];rfl
 ·have qV:¬(v.bh=0 \/ v.aQ.step≠0):=hr
  have hd:v.bh≠0:=fun e=>hr (.inl e)
  have hs:v.aQ.step=0:=by
   by_cases e:v.aQ.step=0
   ·exact e
   ·exact absurd (.inr e) hr
  have e1:((v.bh != 0)==true)=true:=by simpa using hd
  have e2:iq v.aQ=false:=by unfold iq;rw [hs];rfl
  refine .inr ⟨hr,?_⟩
  by_cases hj:v.bh=1 \/ v.bh=2
  ·obtain⟨j,ej,hjw,haw,hrp⟩:=h.cC hj
   have hn:=W7 h0 hjw haw (hrp hs)
   have hk:=h.aQ
   have adU:rK v=j.rk+4:=by unfold rK;rw [if_neg qV,if_pos hj,ej]
   have OE:(cF v).val=(fX tI tN Gr Ge v (j.next v.aQ.bz)).val:=by
    unfold cF eT
    rw [e1,e2,ej]
    rcases hj with hj | hj
    ·rw [hj];exact nv (dU.adS hjw)
    ·rw [hj];exact nv (dU.adS hjw)
   have Jx:∀(d:Int) (c:Cl) (r:au) (a:An),Jb {v with bh:=d,call:=c,aQ:=r,cC:=some (j.next v.aQ.bz).2,answer:=a}:=fun d c r a=>by
    refine WW h.kj rfl ?_
    show cZ {v with bh:=d,call:=c,aQ:=r,cC:=some (j.next v.aQ.bz).2,answer:=a}=cZ v
    have:cZ v=cZ {v with cC:=some j}:=by rw [<- ej]
    rw [this,<- GZ j v.aQ.bz v]
    rfl
   generalize j.next v.aQ.bz=nx at hn OE Jx
   cases agZ:nx.1.aj != 12 with
   | true =>
     have dA:nx.1.aj≠12:=by simpa using agZ
     have hcb:ClB n (v.sort==2) nx.1:=hn.PI.elim (fun e=>absurd e dA) id
     obtain⟨ob,rr⟩:=zw h0 hk hs hcb hK
     have ev:(fX tI tN Gr Ge v nx).val=some (.normal,{v with bh:=2,call:=nx.1,aQ:=aX v.aQ nx.1,cC:=some nx.2}):=by
      unfold fX
      rw [agZ]
      exact nv ob
     refine⟨_,OE.trans ev,⟨Jx 2 nx.1 _ v.answer,⟨by show (0:Int)<=2;decide,by show (2:Int)<=4;decide⟩,rr.wf,rr.on,fun e=>absurd (show (2:Int)=0 from e) (by decide),fun _=>⟨nx.2,rfl,hn.wf,hn.aw,rr.off⟩⟩,rfl,?_⟩
     rw [adU]
     by_cases hb:(aX v.aQ nx.1).step=0
     ·have him:FG nx.1:=by
       by_cases hi:FG nx.1
       ·exact hi
       ·exact absurd hb (OY (hn.nk dA) hi)
      have:=hn.rk him
      unfold rK
      rw [if_neg (fun e=>e.elim (fun e=>absurd (show (2:Int)=0 from e) (by decide)) fun e=>e hb),if_pos (.inr rfl)]
      show nx.2.rk+4 < j.rk+4
      omega
     ·rw [DV (.inr hb)];omega
   | false =>
     obtain⟨ob,rr⟩:=zw (c:=fU) h0 hk hs (.inr (.inr (.inl rfl))) hK
     have ev:(fX tI tN Gr Ge v nx).val=some (.normal,{v with answer:=nx.1.p9,bh:=3,call:=fU,aQ:=aX v.aQ fU,cC:=some nx.2}):=by
      unfold fX
      rw [agZ]
      exact nv ob
     refine⟨_,OE.trans ev,⟨Jx 3 fU _ nx.1.p9,⟨by show (0:Int)<=3;decide,by show (3:Int)<=4;decide⟩,rr.wf,rr.on,fun e=>absurd (show (3:Int)=0 from e) (by decide),fun e=>absurd (show (3:Int)=1 \/ (3:Int)=2 from e) (by decide)⟩,rfl,?_⟩
     rw [adU]
     unfold rK
     split
     ·omega
     ·rw [if_neg (show ¬((3:Int)=1 \/ (3:Int)=2) by decide)];omega
  ·have ev:(cF v).val=some (.normal,{v with bh:=0}):=by
    unfold cF eT
    rw [e1,e2,show (v.bh==1)=false by simpa using fun e=>hj (.inl e),show (v.bh==2)=false by simpa using fun e=>hj (.inr e)]
    rfl
   refine⟨_,ev,⟨WW h.kj rfl rfl,⟨by show (0:Int)<=0;decide,by show (0:Int)<=4;decide⟩,⟨B.mono h.aQ.b (by omega),h.aQ.call,h.aQ.acc,h.aQ.st⟩,h.call,fun _=>hs,fun e=>absurd (show (0:Int)=1 \/ (0:Int)=2 from e) (by decide)⟩,rfl,?_⟩
   rw [DV (.inl rfl)]
   unfold rK
   rw [if_neg qV,if_neg hj];omega
theorem Fp {n:Int} (h0:0<=n):∀(k:Nat) {K:Nat} {v:az},K+k<=100000->v.WF n K->rK v<=k->∃v',eJ cF k v=some (.exit 0,v') /\ v'.WF n (K+k) /\ v'.ml /\ v'.sort=v.sort
 | 0,K,v,hK,h,hn=>by
   exfalso
   have:rK v=0:=by omega
   unfold rK at this
   split at this
   ·cases this
   ·split at this
    ·rename_i hj
     obtain⟨j,ej,_⟩:=h.cC hj
     rw [ej] at this
     have this:j.rk+4=0:=this
     omega
    ·cases this
 | k+1,K,v,hK,h,hn=>by
   rcases Vn h0 (by omega) h with⟨hr,e⟩ | ⟨_,v',e,hw,hso,du⟩
   ·refine⟨v,by rw [eJ,e],⟨h.kj,h.dg,⟨B.mono h.aQ.b (by omega),h.aQ.call,h.aQ.acc,h.aQ.st⟩,h.call,h.Xc,h.cC⟩,hr,rfl⟩
   ·obtain⟨v2,e2,w2,r2,s2⟩:=Fp h0 k (by omega) hw (by omega)
    exact⟨v2,by rw [eJ,e];exact e2,by rw [show K+(k+1)=K+1+k by omega];exact w2,r2,s2.trans hso⟩
theorem Wo {v:az}:rK v<=BI:=by
 unfold rK BI
 split
 ·decide
 ·split
  ·split
   ·rename_i j _
    have:=dU.akz j;omega
   ·decide
  ·decide
theorem O2 {n:Int} (h0:0<=n) {K:Nat} {v:az} (hK:K+16<=100000) (h:v.WF n K):tz v=true /\ (kH v).WF n (K+16) /\ (kH v).ml /\ (kH v).sort=v.sort:=by
 obtain⟨v',e,w,r,so⟩:=Fp h0 BI (by show K+16<=_;exact hK) h Wo
 have e2:ah4 v=some (.exit 0,v'):=e
 have e3:kH v=v':=by unfold kH;rw [e2]
 refine⟨by unfold tz;rw [e2];rfl,?_⟩
 rw [e3];exact⟨w,r,so⟩
theorem aaP {n:Int} {K:Nat} {v:az} (h:v.WF n K) (hr:v.ml) (hb:v.bh≠0):v.aQ.step≠0 /\ (jB v.aQ).1=v.aQ.acc /\ Gh n (v.sort==2) v.aQ.acc:=by
 have hs:v.aQ.step≠0:=hr.elim (fun e=>absurd e hb) id
 refine⟨hs,?_,h.aQ.acc hs⟩
 unfold jB iq
 rw [show (v.aQ.step==0)=false by simpa using hs]
 rfl
theorem UD {n:Nat} {K:Nat} {v:az} {p:ai} (hK:K<=100000) (h:v.WF n K) (hr:v.ml) (hb:v.bh≠0) (hp:p.WF n) (hd:Hd (v.sort==2) p) :
 Ja v.aQ=true /\ (jH v p).WF n (K+1) /\ p.bG (jB v.aQ).1 /\ (p.aU (jB v.aQ).1).2.WF n /\ Hd (v.sort==2) (p.aU (jB v.aQ).1).2:=by
 obtain⟨hs,ea,ha⟩:=aaP h hr hb
 have hv:=ha.bG hp
 have hx:=Bi hp hd hv ha.w ha.h
 rw [ea]
 obtain⟨ot,rr⟩:=ZI (by omega) h.aQ hs ⟨hx.w,hx.al,hx.ld⟩ hK
 refine⟨ot,?_,hv,hx.wf,hx.h0⟩
 unfold jH
 rw [ea]
 rw [h.call hs] at rr
 refine⟨WW h.kj rfl rfl,h.dg,rr.wf,rr.on,fun e=>absurd e hb,fun hj=>?_⟩
 obtain⟨j,ej,hjw,haw,_⟩:=h.cC hj
 exact⟨j,ej,hjw,haw,rr.off⟩
theorem afq {n:Nat} {K:Nat} {v:az} {p:ai} (hK:K+17<=100000) (h:v.WF n K) (hr:v.ml) (hb:v.bh≠0) (hp:p.WF n) (hd:Hd (v.sort==2) p) :
 VZ v p /\ p.bG (jB v.aQ).1 /\ (gU v p).2.1.WF n (K+17) /\ (gU v p).2.1.ml /\ (gU v p).2.1.sort=v.sort /\ (gU v p).2.2.WF n /\ Hd (v.sort==2) (gU v p).2.2:=by
 obtain⟨h1,h2,h3,h4,h5⟩:=UD (by omega) h hr hb hp hd
 obtain⟨a1,a2,a3,a4⟩:=O2 (by omega) (K:=K+1) (by omega) h2
 have e:(gU v p).2=(kH (jH v p),(p.aU (jB v.aQ).1).2):=by
  unfold gU qn qD
  have c:∀{b:Bool} {x y:Ch×az×ai} {q:az×ai},x.2=q->y.2=q->(cond b x y).2=q:=fun {b x y q} h1 h2=>by cases b<;>assumption
  repeat' first | exact rfl | apply c
 rw [e]
 exact⟨⟨h1,a1⟩,h3,a2,a3,a4,h4,h5⟩
end
section
open Go Go.Sx Go.Proofs
variable {σ:Sg} {lp:Lp}
theorem SP {N:dV AV} {nt:Nat} {E:Ev} {H H':Hp AV} (ho:MU N H H') (nC:dM N H') (hs:zZ H H'=true):rX N nt {E:=E,H:=H} {E:=E,H:=H'}:=fun hc=>by
 obtain⟨len,dw,GY⟩:=n8 hs
 refine⟨⟨fun k=>(hc.E k).mono dw,nC.1⟩,len,fun ρ a w bC=>?_⟩
 obtain⟨ρ1,o1,l1,f1⟩:=ho ρ w bC.own
 refine⟨ρ1,⟨⟨bC.em.size,fun k hk=>?_⟩,o1⟩,⟨dw,fun n c h=>l1 n (bQ h),GY,len,fun _ _ _=>rfl,fun n c k h hk=>.inr (f1 n c k h hk),rfl,rfl,rfl,abV _⟩⟩
 rw [bC.em.get k hk]
 exact(SV.b4 (hc.E k) fun m c h=>l1 m (bQ h)).symm
def LN:Code:=ia 5 (cA (eM Tryz.f20))
def ksN:List Nat:=[6,7]
abbrev afo:TypeId:=120
def VL (n:Nat) (len:Nat):List Cell:=[.vs 7 0 85 5 true,.vs 8 0 n 52 false,.vs 10 0 len 1 false,.il .i64 0,.il .i64 0,.fL]
def hpN (b:List W) (sl:List Sl) (n:Nat) (l:List N1) (len:Nat):Hp AV:=gM bL [.eU b,.aS sl]++[some (.cells (VL n len) afo),some (.bI (.jS l))]
def Mf (b:List W) (sl:List Sl) (n:Nat) (i:Int) (l:List N1) (len:Nat):St AV:={E:=only ksN [(6,.v (.c (.ptr 9 0))),(7,.v (.c (.it .i64 i)))] 45,H:=hpN b sl n l len}
def UZ (σ:Sg) (n:Nat) (l:List N1):Bool:=decide (n=iL.len (F6 σ) (AV.jS l) /\ (n+1) * (SI.bytes KJ+1)<=qU)
theorem nR (σ:Sg) (b:List W) (sl:List Sl) (n:Nat) (i:Int) (l:List N1) (len:Nat):(xc (NV σ) (bs (lv (NV σ) ca 5)) (fun _=>none) 45 LN (Mf b sl n i l len)).bind (eQ 10 45 ksN eV) =
 .ite (decide (i>=1)) (.aJ (UZ σ len l) (.aE (.normal,Mf b sl n (IntKind.wrap .i64 (i - 1)) (l++[⟨i⟩]) (len+1)))) (.aE (.exit 0,Mf b sl n i l len)):=by kernel_rfl
def tf:Nat->List N1
 | 0=>[]
 | n+1=>⟨(n+1:Nat)⟩::tf n
theorem v7:∀n,(tf n).length=n
 | 0=>rfl
 | n+1=>congrArg (·+1) (v7 n)
structure MN where
 i:Nat
 l:List N1
def goN (m:MN):Ex×MN:=match m.i with
 | 0=>(.exit 0,m)
 | i+1=>(.normal,⟨i,m.l++[⟨(i+1:Nat)⟩]⟩)
def KE (m:MN):T (Ex×MN):=.aJ (decide (m.i<=1024 /\ m.l.length+m.i<=1024)) (.aE (goN m))
theorem ad2:∀(i:Nat) (l:List N1),l.length+i<=1024->eJ KE (i+1) ⟨i,l⟩=some (.exit 0,⟨0,l++tf i⟩)
 | 0,l,h=>by
   rw [eJ,KE,nv (aaS ⟨adr _,h⟩)]
   simp only [T.val,goN,tf,aeJ]
 | i+1,l,h=>by
   rw [eJ,KE,nv (aaS ⟨by show i+1<=1024;omega,h⟩)]
   simp only [T.val,goN]
   rw [ad2 i _ (by rw [abl];simp only [abn,adY];omega)]
   simp only [tf,acC,acS]
theorem UY {n:Nat} {l:List N1} (h:n=l.length) (hn:l.length<=100000):UZ σ n l=true:=by
 unfold UZ
 subst h
 exact aaS ⟨rfl,abL (adN _ (afc hn)) (by decide)⟩
def Qy (b:List W) (sl:List Sl) (n:Nat) (m:MN):St AV:=Mf b sl n (m.i:Int) m.l m.l.length
theorem Rt (σ:Sg) (b:List W) (sl:List Sl) (n:Nat) (m:MN) (r:Ex×MN) (h:(KE m).val=some r) :
 ((xc (NV σ) (bs (lv (NV σ) ca 5)) (fun _=>none) 45 LN (Qy b sl n m)).bind (eQ 10 45 ksN eV)).val=some (r.1,Qy b sl n r.2):=by
 obtain⟨hb,h⟩:=aD (h:(T.aJ _ _).val=_)
 obtain⟨h1,h2⟩:=aaV hb
 obtain⟨i,l⟩:=m
 cases h
 show ((xc (NV σ) _ _ 45 LN (Mf b sl n i l l.length)).bind _).val=_
 rw [nR]
 cases i with
 | zero=>rw [wG (by simp)];rfl
 | succ i =>
   rw [tG (by simp;omega),nv (UY rfl (by dsimp only at h2;omega))]
   show some (Ex.normal,Mf b sl n (IntKind.wrap .i64 (((i+1:Nat):Int) - 1)) (l++[(⟨((i+1:Nat):Int)⟩:N1)]) (l.length+1))=_
   rw [CP (by dsimp only at h1;omega),show (((i+1:Nat):Int) - 1)=(i:Int) by omega]
   show _=some (Ex.normal,Mf b sl n (i:Int) (l++[(⟨((i+1:Nat):Int)⟩:N1)]) (l++[(⟨((i+1:Nat):Int)⟩:N1)]).length)
   rw [abl];rfl
theorem TY {α:Type} (K:AK α) {a:AV} {l:List Cell} {n:Nat} {rs:List α} (ha:a.fW=some (K.es,K.ty,K.dC rs)) (h:K.A6 n l=some rs):ig (NV σ) (.kD l K.es K.ty) (.bI a):=by
 obtain⟨h1,h2⟩:=K.zr h
 intro ρ n w
 refine⟨fun hv=>?_,fun k=>Iff.rfl⟩
 refine(((NV σ).F.mJ a _ _ _ (show (NV σ).F.fW a=_ from ha)).2 _ _ _).2 ?_
 have hv:mM (ρ.L n) (ρ.S n) (aA ρ l) K.es K.ty w:=hv
 rw [h1,show aA Nm.id l=aA ρ l from ad7 fun c hc=>b4 _ fun m hm=>by rw [h2 c hc] at hm;cases hm]
 exact hv
def TF:List Cell:=kg [.il .i64 0,.il .i64 0,.il .i64 0,.il .i64 0,.bl false] 85
def xj:List W:=List.replicate 85 ao
def NU (n:Nat):List Cell:=[.vs 7 0 85 5 true,.vs 8 0 n 52 false,.dq,.il .i64 0,.il .i64 0,.fL]
def abr (sl:List Sl) (n:Nat):Hp AV:=gM bL []++[some (.kD TF 5 60),some (.bI (.aS sl)),some (.cells (NU n) afo)]
def arR (sl:List Sl) (n:Nat) (s:St AV):Prop:=Sx.aF s.E 6=.v (.c (.ptr 9 0)) /\ Sx.aF s.E 7=.v (.c (.it .i64 n)) /\ s.H=abr sl n
def gN (sl:List Sl) (n:Nat) (s:St AV):T (Ex×St AV):=.aJ (iI (arR sl n s /\ n<=1024)) (.aE (.exit 0,Mf xj sl n 0 (tf n) n))
theorem amK {N':dV AV} (hF:N'.F=(NV σ).F) (hG:N'.G=(NV σ).G) (sl:List Sl) (n:Nat):fY Tryz.prog N' 45 LN (gN sl n):=by
 have cH:gF Tryz.prog (NV σ) (bs (lv (NV σ) ca 5)):=dj (my rH tA J7 bn 5)
 refine eO (N:=NV σ) hF hG rH cH (lp:=fun _=>none) (fun _ _ _ g hg=>by cases hg) fun s s' ex cG=>?_
 obtain⟨E1,H1⟩:=s
 unfold gN at cG
 replace cG:=aD cG
 obtain⟨hb,cG⟩:=cG
 obtain⟨⟨e6,e7,eH⟩,hn⟩:=gJ hb
 simp only at e6 e7 eH
 subst eH
 cases cG
 have hC:dM (NV σ) (cV (abr sl n) 7 (some (.bI (.eU xj)))):=Bd (by kernel_rfl)
 refine⟨{M:=MN,sH:=Qy xj sl n,step:=KE,ks:=ksN,pk:=eV,zH:=fun d a h=>(by cases h),L:=10,len:=rfl,FL:=(by show 7<=10;decide),run:=Rt σ xj sl n,m:=⟨n,[]⟩,k:=n+1,m':=⟨0,tf n⟩,Ka:=?_,it:=(by rw [ad2 n [] (by simpa using hn)];rfl),fin:=(by unfold Qy;simp only [v7];rfl)}⟩
 refine rX.trans (OH (nt:=45) (E:=E1) (E':=[(6,.v (.c (.ptr 9 0))),(7,.v (.c (.it .i64 n)))]) (ks:=ksN) (n:=7) (c:=.kD TF 5 60) (c':=.bI (.eU xj)) rfl (TY dS (n:=85) rfl (by kernel_rfl)) rfl fun k hk=>?_) ?_
 ·simp only [ksN,abk,abo,or_false] at hk
  rcases hk with rfl | rfl
  ·exact .inl e6.symm
  ·exact .inl e7.symm
 ·refine SP (H':=hpN xj sl n [] 0) (aaH (N:=NV σ) (n:=9) (l:=NU n) (l':=VL n 0) (ty:=afo) (a:=.jS []) hC rfl rfl (fun ρ ρ' e1 e2=>?_) (by show 7<=10;decide)) (Bd (by kernel_rfl)) (by kernel_rfl)
  have e8:ρ'.L 7=ρ.L 7:=e1 7 (by show 7 < 10;decide)
  have e9:ρ'.L 8=ρ.L 8:=e1 8 (by show 8 < 10;decide)
  have Zn:ρ'.L 10=⟨0,0,0⟩:=e2
  simp only [VL,NU,aA,abv,aeU,Cell.aq,e8,e9,Zn]
  rfl
def PG (lp:Lp) (σ:Sg) (tab:mK) (f:FuncId) (M:List Bool) (args:List SV) (l:List AV):T (SV×List AV×List AV) :=
 (Q.bind (Q.lv (hP lp σ) tab 24 (.fn f) args (gM M l)) (Bb (CU σ) cJ M l.length [])).map V9
theorem Vk (qd:fH Tryz.prog (hP lp σ)) {tab:mK} (ht:dB Tryz.prog (hP lp σ) tab) {f:FuncId} {M:List Bool} (hM:7=M.length) {args:List SV} {l:List AV} {v:SV} {l' nw:List AV}
 (bM:∀x∈args,fh (gM M l) x) (h:(PG lp σ tab f M args l).val=some (v,l',nw)):qT Tryz.prog (hP lp σ) f args (gM M l) v (gM M (l'++nw)) /\ l'.length=l.length:=by
 unfold PG at h
 obtain⟨v0,rfl,h0⟩:=CC h
 rw [Q.bind_eq,Q.lv_eq] at h0
 obtain⟨⟨v1,H2⟩,hr,hc⟩:=T.bf h0
 exact(fun x=>⟨CJ x.1,x.2⟩) (wg (N:=hP lp σ) (tO rfl) dE hM bM (MU.refl _) (fun m c h=>⟨c,h⟩) ((abN qd ht 24 f).ctr hr bM ⟨(AG (σ:=σ) M l).1,trivial⟩) hc)
def Tq:Sl:=⟨0,false,[ao,ao,ao,ao,ao,ao,ao,ao,ao,ao]⟩
def nQ (n:Nat):ai:=⟨xj,List.replicate n Tq,tf n,0,0,none⟩
def agl (n:Nat):Lp:=lV 20 5 (gN (List.replicate n Tq) n) jr
theorem ali (n:Nat):fH Tryz.prog (hP (agl n) σ) :=
 lM ou (fn:=Tryz.f20) (by kernel_rfl) (c:=eM Tryz.f20) (by kernel_rfl) (nt:=45) (by kernel_rfl) (b:=LN) (cE (by kernel_rfl)) (amK (σ:=σ) (N':=hP jr σ) rfl rfl _ n)
def anb (n:Nat):Prop:=(SV.v (.c (.ptr 9 0))=.v (.c (.ptr 9 0)) /\ SV.v (.c (.it .i64 n))=.v (.c (.it .i64 n)) /\ abr (List.replicate n Tq) n=abr (List.replicate n Tq) n) /\ n<=1024
@[reducible] def PT:wL ai:=⟨AV.gP,fun | .gP m=>some m | _=>none,fun a j h=>by split at h<;>cases h;rfl,fun _=>rfl⟩
theorem Wm (σ:Sg) (n:Nat):(PG (agl n) σ ca 20 bL [.v (.c (.it .i64 (Int.ofNat n))),.v (.c (.il .i64 85))] []).map (tg PT) =
 .ite (lL (decide (Int.ofNat n < 0)) (lL (decide (Int.ofNat n > 1024)) (decide ((85:Int) > 200)))) (.fail "load") (.aJ (decide (0<=Int.ofNat n /\ Int.ofNat n=Int.ofNat n /\ (Int.ofNat n).toNat * (SI.bytes U3+1)<=qU)) (.aJ (iI (anb n))
  (.aJ true (.aJ (decide (n=(List.replicate n Tq).length)) (.aJ (decide (n=(tf n).length)) (.aJ true (.aE (some (nQ n))))))))):=by kernel_rfl
def aI2:l9 (Int×Int) where
 bx x:=[.v (.c (.it .i64 x.1)),.v (.c (.it .i64 x.2))]
 iM:=fun | [.v (.c a),.v (.c b)]=>(match j6 a,j6 b with | some a,some b=>some (a,b) | _,_=>none) | _=>none
 ok:=fun l a h ρ=>by
  split at h
  ·split at h
   ·rename_i h0 h1
    cases h
    simp only [abv,aeU,SV.aq,V1.aq,cB h0 ρ,cB h1 ρ];rfl
   ·cases h
  ·cases h
 free:=fun _=>rfl
theorem Lg (σ:Sg) (n:Nat) (hn:n<=1024):((PG (agl n) σ ca 20 bL [.v (.c (.it .i64 (Int.ofNat n))),.v (.c (.il .i64 85))] []).map (tg PT)).val=some (some (nQ n)):=by
 rw [Wm]
 have e:lL (decide (Int.ofNat n < 0)) (lL (decide (Int.ofNat n > 1024)) (decide ((85:Int) > 200)))=false:=by
  rw [aaZ (show ¬Int.ofNat n < 0 by simp),aaZ (show ¬Int.ofNat n > 1024 by simp;omega)];rfl
 rw [wG e]
 refine(nv (aaS ⟨by simp,rfl,abL (adN _ (show (Int.ofNat n).toNat<=1024 from hn)) (by decide)⟩)).trans ((nv (iY ⟨⟨rfl,rfl,rfl⟩,hn⟩)).trans ((nv rfl).trans ((nv (aaS List.length_replicate.symm)).trans ((nv (aaS (v7 n).symm)).trans (nv rfl)))))
theorem N6:cD Tryz.prog (NV σ) 20 (bP cJ bL (sm aI2 PT (fun x=>some (decide (0<=x.1 /\ x.1<=1024 /\ x.2=85))) (fun x=>nQ x.1.toNat))):=by
 refine gH dE rfl fun args l v l' nw h hl bM=>?_
 unfold sm at h
 split at h
 ·split at h
  ·rename_i x hx
   replace h:=jQ h
   obtain⟨oI,h⟩:=h
   obtain⟨h1,h2,h3⟩:=aaV (show decide _=true from oI)
   cases h
   obtain⟨i,c⟩:=x
   dsimp only at h1 h2 h3
   subst h3
   obtain⟨n,rfl⟩:∃n:Nat,i=Int.ofNat n:=⟨i.toNat,by simp;omega⟩
   obtain⟨y,g1,g2⟩:=dp (Lg σ n (by simp at h2;omega))
   have g2:=EU g2
   subst g2
   have hc:=sK (Vk (ali n) (B3 bn) (M:=bL) rfl (fI rfl) g1).1
   exact jg hc fun ρ=>by rw [<- aI2.ok _ _ hx ρ];rfl
  ·cases h
 ·cases h
end
section
open Go Go.Sx Go.Proofs
variable {σ:Sg} {lp:Lp}
def aI5:l9 (Int×Int×Int×Int×Int) where
 bx x:=[.v (.c (.it .i64 x.1)),.v (.c (.it .i64 x.2.1)),.v (.c (.it .i64 x.2.2.1)),.v (.c (.it .i64 x.2.2.2.1)),.v (.c (.it .i64 x.2.2.2.2))]
 iM:=fun | [.v (.c a),.v (.c b),.v (.c c),.v (.c d),.v (.c e)]=>(match j6 a,j6 b,j6 c,j6 d,j6 e with | some a,some b,some c,some d,some e=>some (a,b,c,d,e) | _,_,_,_,_=>none) | _=>none
 ok:=fun l a h ρ=>by
  split at h
  ·split at h
   ·rename_i h0 h1 h2 h3 h4
    cases h
    simp only [abv,aeU,SV.aq,V1.aq,cB h0 ρ,cB h1 ρ,cB h2 ρ,cB h3 ρ,cB h4 ρ];rfl
   ·cases h
  ·cases h
 free:=fun _=>rfl
def acZ (s:Int) (r:au) (e:Int):az:=⟨s,e,r,0,aW,⟨0,0,0,0⟩,none,⟨0,0⟩⟩
def adt (Bg:Int->Int->Int->Int->Bool) (mr:Int×Int×Int×Int->au):mK:=bA 26 (bP cJ bL (sm aI4 gW (fun x=>some (!(Bg x.1 x.2.1 x.2.2.1 x.2.2.2))) mr)) ca
theorem Zz (σ:Sg) (Bg:Int->Int->Int->Int->Bool) (mr:Int×Int×Int×Int->au) (s e me th no:Int):(kN σ (adt Bg mr) 8 bL (aI5.bx (s,e,me,th,no)) []).map (tg FX) =
 .ite (lL (decide (s < 1)) (decide (s > 5))) (.fail "load") (.aJ (!(Bg e me th no)) (.aJ true (.aE (some (acZ s (mr (e,me,th,no)) e))))):=by kernel_rfl
def uB (x:Int×Int×Int×Int×Int):az:=acZ x.1 (CB (x.2.1,x.2.2.1,x.2.2.2.1,x.2.2.2.2)) x.2.1
def Fe (x:Int×Int×Int×Int×Int):Bool:=lL (lL (decide (x.1 < 1)) (decide (x.1 > 5))) (zx x.2.1 x.2.2.1 x.2.2.2.1 x.2.2.2.2)
theorem Q5:cD Tryz.prog (NV σ) 8 (bP cJ bL (sm aI5 FX (fun x=>some (!(Fe x))) uB)) :=
 sj (tab:=adt zx CB) (aK Vr bn) rfl fun x h=>⟨aI5.bx x,rfl,fun _=>rfl,by
  obtain⟨s,e,me,th,no⟩:=x
  have h:(!(lL (lL (decide (s < 1)) (decide (s > 5))) (zx e me th no)))=true:=h
  rw [Zz]
  cases h1:lL (decide (s < 1)) (decide (s > 5)) with
  | true=>rw [h1] at h;cases h
  | false =>
    rw [h1] at h
    cases h2:zx e me th no with
    | true=>rw [h2] at h;cases h
    | false=>rfl⟩
end
section
open Go Go.Sx Go.Proofs
def anS (s:Int) (o:O):Prop:=(s=1 /\ (o.aj=1 \/ o.aj=2 \/ o.aj=3)) \/ (s=2 /\ (o.aj=4 \/ o.aj=5)) \/ ((s=3 \/ s=4 \/ s=5) /\ (o.aj=6 \/ o.aj=7 \/ o.aj=8) /\ 0<=o.key /\ o.key < 256 /\ (o.aj=6->o.bO<=3))
theorem JD {o:O} (h:uP o=true):(o.aj=6 \/ o.aj=7 \/ o.aj=8) /\ 0<=o.key /\ o.key < 256 /\ (o.aj=6->o.bO<=3):=by
 unfold uP at h
 split at h
 ·cases h
 ·rename_i hk
  have SF:0<=o.key /\ o.key < 256:=by
   split at hk
   ·rename_i h1
    have h1:¬o.key < 0:=abb (eq_of_beq h1)
    have h2:¬o.key > 255:=abb hk
    omega
   ·cases hk
  split at h
  ·rename_i h6
   have h6:o.aj=6:=QC h6
   refine⟨.inl h6,SF.1,SF.2,fun _=>?_⟩
   split at h
   ·split at h
    ·split at h
     ·exact aaV h
     ·cases h
    ·cases h
   ·cases h
  ·rename_i h6
   have h6:o.aj≠6:=PW h6
   split at h
   ·rename_i h7
    exact⟨.inr (.inl (QC h7)),SF.1,SF.2,fun e=>absurd e h6⟩
   ·split at h
    ·rename_i h8
     exact⟨.inr (.inr (QC h8)),SF.1,SF.2,fun e=>absurd e h6⟩
    ·cases h
theorem MH {o:O} (h:u9 o=false):uP o=true:=by
 unfold u9 at h
 split at h
 ·rename_i hg
  have hg:(!uP o)=false:=eq_of_beq hg
  simpa using hg
 ·cases h
theorem MG {o:O} (h:u7 o=false):uP o=true:=by
 unfold u7 at h
 split at h
 ·rename_i hg
  have hg:(!uP o)=false:=eq_of_beq hg
  simpa using hg
 ·cases h
theorem Qv {s:Int} {o:O} (h:kU s o=true):anS s o:=by
 unfold kU at h
 by_cases h1:s=1
 ·rw [if_pos h1] at h
  refine .inl ⟨h1,?_⟩
  unfold sd at h
  cases a:o.aj==1 with
  | true=>exact .inl (QC a)
  | false =>
    cases b:o.aj==2 with
    | true=>exact .inr (.inl (QC b))
    | false =>
      cases d:o.aj==3 with
      | true=>exact .inr (.inr (QC d))
      | false=>rw [a,b,d] at h;cases h
 rw [if_neg h1] at h
 by_cases h2:s=2
 ·rw [if_pos h2] at h
  refine .inr (.inl ⟨h2,?_⟩)
  unfold sL at h
  cases a:o.aj==4 with
  | true=>exact .inl (QC a)
  | false =>
    cases b:o.aj==5 with
    | true=>exact .inr (QC b)
    | false=>rw [a,b] at h;cases h
 rw [if_neg h2] at h
 by_cases h3:s=3
 ·rw [if_pos h3] at h
  unfold sY at h
  cases a:u9 o with
  | true=>rw [a] at h;cases h
  | false=>exact .inr (.inr ⟨.inl h3,JD (MH a)⟩)
 rw [if_neg h3] at h
 by_cases h4:s=4
 ·rw [if_pos h4] at h
  unfold yi at h
  cases a:u9 o with
  | true=>rw [a] at h;cases h
  | false=>exact .inr (.inr ⟨.inr (.inl h4),JD (MH a)⟩)
 rw [if_neg h4] at h
 by_cases h5:s=5
 ·rw [if_pos h5] at h
  unfold yx at h
  cases a:u7 o with
  | true=>rw [a] at h;cases h
  | false=>exact .inr (.inr ⟨.inr (.inr h5),JD (MG a)⟩)
 rw [if_neg h5] at h
 cases h
theorem Wu {n:Int} (h0:0<=n) {s:Int} {o:O} (h:anS s o) (c:Cl):(uF s.toNat o).WF n (s==2) /\ (uF s.toNat o).aw c:=by
 have z:∀{p:Int} {P:Prop},(0:Int)=p->p≠0->P:=fun h h2=>absurd h.symm h2
 rcases h with⟨rfl,hk⟩ | ⟨rfl,hk⟩ | ⟨hs,hk,k0,k1,ht⟩
 ·refine⟨⟨⟨hk,.inr (.inl rfl),fun e=>z e (by decide),aR h0,aR h0,fun _ e=>absurd (show (0:Int)=2 \/ (0:Int)=3 \/ (0:Int)=4 from e) (by decide)⟩,rfl⟩,trivial⟩
 ·refine⟨⟨⟨hk,.inr (.inl rfl),fun e=>z e (by decide),aR h0,aR h0,aR h0,aR h0,fun _ e=>absurd (show (0:Int)=2 \/ (0:Int)=3 \/ (0:Int)=4 \/ (0:Int)=6 \/ (0:Int)=7 from e) (by decide),fun _ e=>absurd (show (0:Int)=6 \/ (0:Int)=7 from e) (by decide)⟩,rfl⟩,fun _ e=>absurd (show (0:Int)=1 from e) (by decide)⟩
 ·rcases hs with rfl | rfl | rfl
  ·exact⟨⟨G0 h0 (fQ (by decide) (by decide)) hk,rfl⟩,G1⟩
  ·refine⟨⟨⟨⟨k0,k1⟩,hk,⟨by show (0:Int)<=0;decide,by show (0:Int) < 8;decide⟩,.inr (.inl rfl),fun e=>z e (by decide),fun e=>z e (by decide),fun e=>absurd (show (3:Int)<=0 from e.1) (by decide),aR h0,aR h0,aR h0,aR h0,fun e=>absurd (show (4:Int)<=0 from e.1) (by decide),fun w e=>(by cases e),fun e=>z e (by decide)⟩,rfl⟩,⟨fun e=>z e (by decide),fun e=>z e (by decide)⟩⟩
  ·refine⟨⟨⟨hk,ht,?_,fun e=>z e (by decide),aR h0,fun e=>?_,fun c e=>(by cases e),fun e=>?_⟩,rfl⟩,fun _ e=>absurd (show (0:Int)=1 from e) (by decide)⟩
   ·rcases hk with hk | hk | hk
    ·exact .inl ⟨hk,.inr (.inl rfl)⟩
    ·exact .inr (.inl ⟨hk,.inr (.inl rfl)⟩)
    ·exact .inr (.inr (.inl ⟨hk,.inr (.inl rfl)⟩))
   ·rcases e with⟨_,e⟩ | ⟨_,e⟩ | e
    ·exact absurd (show (2:Int)<=0 from e) (by decide)
    ·exact absurd (show (2:Int)<=0 from e) (by decide)
    ·exact absurd (show (101:Int)<=0 from e) (by decide)
   ·rcases e with⟨_,e⟩ | ⟨_,e⟩
    ·exact absurd (show (0:Int)=7 \/ (0:Int)=9 \/ (0:Int)=10 \/ (0:Int)=11 \/ (0:Int)=12 from e) (by decide)
    ·exact absurd (show (0:Int)=3 \/ (0:Int)=4 \/ (0:Int)=5 from e) (by decide)
theorem abc {s:Int} (h1:1<=s) (h5:s<=5) (o:O) (v:az):(cZ {v with cC:=some (uF s.toNat o)}:Int)=s:=by
 rcases (by omega:s=1 \/ s=2 \/ s=3 \/ s=4 \/ s=5) with rfl | rfl | rfl | rfl | rfl<;>rfl
theorem abD {n:Int} (h0:0<=n) {K:Nat} {v:az} (hK:K+17<=100000) (h:v.WF n K) (hb:v.bh=0) {o:O} (hf:kU v.sort o=true):K9 v o /\ (xb v o).WF n (K+17) /\ (xb v o).ml /\ (xb v o).sort=v.sort:=by
 have oA:=Qv hf
 obtain⟨ob,rr⟩:=zw (c:=nV) h0 h.aQ (h.Xc hb) (.inr (.inl rfl)) (by omega)
 obtain⟨jw,ja⟩:=Wu h0 oA nV
 have hw:(Ga aX v.sort.toNat v o).WF n (K+1):=by
  refine⟨⟨h.kj.1,h.kj.2.1,.inr (abc h.kj.1 h.kj.2.1 o v)⟩,⟨by show (0:Int)<=1;decide,by show (1:Int)<=4;decide⟩,rr.wf,rr.on,fun e=>absurd (show (1:Int)=0 from e) (by decide),fun _=>⟨_,rfl,jw,ja,rr.off⟩⟩
 obtain⟨a1,a2,a3,a4⟩:=O2 h0 (K:=K+1) (by omega) hw
 exact⟨⟨ob,a1⟩,a2,a3,a4⟩
theorem R9 {n:Int} (h0:0<=n) {s e me th no:Int} (hs:1<=s /\ s<=5) (he:1<=e /\ e<=5) (ht:1<=th /\ th<=6) (hm:0<=me /\ me < th):(uB (s,e,me,th,no)).WF n 0 /\ (uB (s,e,me,th,no)).ml:=by
 refine⟨⟨⟨hs.1,hs.2,.inl rfl⟩,⟨by show (0:Int)<=0;decide,by show (0:Int)<=4;decide⟩,⟨⟨he,⟨hm.1,by show me < 6;omega⟩,ht,⟨aR h0,aR h0,aR h0,aR h0,aR h0,aR h0,aR h0,aR h0,aR h0⟩,fun x hx=>(by cases hx),abV _,aR h0,adr _⟩,fun e=>absurd rfl e,fun e=>absurd rfl e,.inl rfl⟩,fun e=>absurd rfl e,fun _=>rfl,fun e=>absurd (show (0:Int)=1 \/ (0:Int)=2 from e) (by decide)⟩,.inl rfl⟩
theorem az.WF.mono {n:Int} {K K':Nat} {v:az} (h:v.WF n K) (hk:K<=K'):v.WF n K':=⟨h.kj,h.dg,⟨B.mono h.aQ.b hk,h.aQ.call,h.aQ.acc,h.aQ.st⟩,h.call,h.Xc,h.cC⟩
