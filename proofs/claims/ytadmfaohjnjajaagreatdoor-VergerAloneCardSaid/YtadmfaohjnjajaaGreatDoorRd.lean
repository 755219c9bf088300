import Derived.Test.YtadmfaohjnjajaaGreatDoorQy
import Derived.Test.YtadmfaohjnjajaaGreatDoorRu
import Derived.Test.YtadmfaohjnjajaaGreatDoorRr
set_option linter.unusedVariables false
set_option linter.unusedSimpArgs false
set_option maxHeartbeats 0
set_option maxRecDepth 100000
noncomputable section
namespace Go.Proofs.YtadmfaohjnjajaaGreatDoor
section
open Go Go.Sx Go.Proofs
variable {σ:Sg} {lp:Lp}
def Ye:List Bool:=mkM 15
def tB (b:Bool):T (SV×List AV×List AV):=.aD (.v (.c (.bt b)),[],[])
def oZ (σ:Sg) (s:Cell) (o:O):T (SV×List AV×List AV):=kG σ b9 15 Ye [.v (.c s),.v (.agg (Dw (O.wr o)))] []
theorem apj (σ:Sg) (o:O):oZ σ (.il .i64 1) o=tv tI (tB true) (tB false) o:=by kernel_rfl
theorem aph (σ:Sg) (o:O):oZ σ (.il .i64 2) o=ua tI (tB true) (tB false) o:=by kernel_rfl
theorem apg (σ:Sg) (o:O):oZ σ (.il .i64 3) o=uq tI (tB true) (tB false) (tB true) o:=by kernel_rfl
theorem apf (σ:Sg) (o:O):oZ σ (.il .i64 4) o=yX tI (tB true) (tB false) o:=by kernel_rfl
theorem ape (σ:Sg) (o:O):oZ σ (.il .i64 5) o=zc tI (tB true) (tB false) o:=by kernel_rfl
theorem apk (σ:Sg) (s:Int) (h:∀c∈[(1:Int),2,3,4,5],(s==c)=false) (o:O):oZ σ (.iv .i64 s [1,2,3,4,5] h) o=tB false:=by kernel_rfl
def aIO:mh (Int×O) where
 enc x:=[.v (.c (.it .i64 x.1)),.v (.agg (Dw (O.wr x.2)))]
 jm:=fun | [.v (.c c),.v (.agg cs)]=>(match kL c,O.rd ((CP cs).map .p) with | some s,some (o,[])=>some (s,o) | _,_=>none) | _=>none
 ok:=fun l a h ρ=>by
  split at h
  ·split at h
   ·rename_i h0 h1;cases h;have:=O.ia h1;rw [aeF] at this;rw [<- this,rn];simp only [aaU,afm,SV.ay,V1.ay,vn,b6 h0 ρ];rfl
   ·cases h
  ·cases h
 free:=fun _=>rfl
theorem spB {α β:Type} {d:α->Option β} {b:Bool} {t e:T α} {x y:β} (h1:(t.map d).val=some (some x)) (h2:(e.map d).val=some (some y)):((tI b t e).map d).val=some (some (cond b x y)):=by cases b<;>assumption
theorem vTB (b:Bool):((tB b).map (qv C5)).val=some (some b):=rfl
theorem Ky:cE Tryz.prog (NV σ) 15 (bJ cL Ye (xx aIO C5 (fun _=>none) (fun x=>dU x.1 x.2))) :=
 wT bp (ju _) fun x _=>by
  obtain⟨s,o⟩:=x;unfold dU;dsimp only;by_cases h1:s=1
  ·subst h1;refine⟨[.v (.c (.il .i64 1)),.v (.agg (Dw (O.wr o)))],rfl,fun _=>rfl,?_⟩;show ((oZ σ _ o).map (qv C5)).val=_;rw [apj,if_pos rfl];unfold tv
   repeat' first | exact vTB _ | apply spB
  rw [if_neg h1];by_cases h2:s=2
  ·subst h2;refine⟨[.v (.c (.il .i64 2)),.v (.agg (Dw (O.wr o)))],rfl,fun _=>rfl,?_⟩;show ((oZ σ _ o).map (qv C5)).val=_;rw [aph,if_pos rfl];unfold ua
   repeat' first | exact vTB _ | apply spB
  rw [if_neg h2];by_cases h3:s=3
  ·subst h3;refine⟨[.v (.c (.il .i64 3)),.v (.agg (Dw (O.wr o)))],rfl,fun _=>rfl,?_⟩;show ((oZ σ _ o).map (qv C5)).val=_;rw [apg,if_pos rfl];unfold uq
   repeat' first | exact vTB _ | apply spB
  rw [if_neg h3];by_cases h4:s=4
  ·subst h4;refine⟨[.v (.c (.il .i64 4)),.v (.agg (Dw (O.wr o)))],rfl,fun _=>rfl,?_⟩;show ((oZ σ _ o).map (qv C5)).val=_;rw [apf,if_pos rfl];unfold yX
   repeat' first | exact vTB _ | apply spB
  rw [if_neg h4];by_cases h5:s=5
  ·subst h5;refine⟨[.v (.c (.il .i64 5)),.v (.agg (Dw (O.wr o)))],rfl,fun _=>rfl,?_⟩;show ((oZ σ _ o).map (qv C5)).val=_;rw [ape,if_pos rfl];unfold zc
   repeat' first | exact vTB _ | apply spB
  rw [if_neg h5];have h:∀c∈[(1:Int),2,3,4,5],(s==c)=false:=EO (by simp [h1,h2,h3,h4,h5]);refine⟨[.v (.c (.iv .i64 s [1,2,3,4,5] h)),.v (.agg (Dw (O.wr o)))],rfl,fun _=>rfl,?_⟩;show ((oZ σ _ o).map (qv C5)).val=_;rw [apk];rfl
theorem Gi {α:Type} {b:Bool} {t e:T (Option α)} {x y:Bool} {j:α} (h:cond b x y=true) (h1:x=true->t.val=some (some j)) (h2:y=true->e.val=some (some j)):(tI b t e).val=some (some j):=by
 cases b
 ·exact h2 h
 ·exact h1 h
theorem TN:cE Tryz.prog (NV σ) 34 (bJ cL bS (qO BZ HW (fun o=>some (tv cond true false o)) EY)) :=
 qX bp rfl fun o h=>⟨BZ.enc o,rfl,fun _=>rfl,by
  have h:tv cond true false o=true:=h;rw [ab3];unfold tv at h ⊢;revert h
  repeat' first | exact fun _=>rfl | exact fun h=>absurd h (by decide) | (refine fun h=>Gi h ?_ ?_)⟩
theorem UP:cE Tryz.prog (NV σ) 35 (bJ cL bS (qO BZ HX (fun o=>some (ua cond true false o)) EZ)) :=
 qX bp rfl fun o h=>⟨BZ.enc o,rfl,fun _=>rfl,by
  have h:ua cond true false o=true:=h;rw [adY];unfold ua at h ⊢;revert h
  repeat' first | exact fun _=>rfl | exact fun h=>absurd h (by decide) | (refine fun h=>Gi h ?_ ?_)⟩
theorem Yp:cE Tryz.prog (NV σ) 36 (bJ cL bS (qO BZ EH (fun o=>some (uq cond true false false o)) Ie)) :=
 qX bp rfl fun o h=>⟨BZ.enc o,rfl,fun _=>rfl,by
  have h:uq cond true false false o=true:=h;rw [aij];unfold uq at h ⊢;revert h
  repeat' first | exact fun _=>rfl | exact fun h=>absurd h (by decide) | (refine fun h=>Gi h ?_ ?_)⟩
theorem VF:cE Tryz.prog (NV σ) 37 (bJ cL bS (qO BZ Pu (fun o=>some (yX cond true false o)) Ic)) :=
 qX bp rfl fun o h=>⟨BZ.enc o,rfl,fun _=>rfl,by
  have h:yX cond true false o=true:=h;rw [agP];unfold yX at h ⊢;revert h
  repeat' first | exact fun _=>rfl | exact fun h=>absurd h (by decide) | (refine fun h=>Gi h ?_ ?_)⟩
theorem Ww:cE Tryz.prog (NV σ) 38 (bJ cL bS (qO BZ EG (fun o=>some (zc cond true false o)) MF)) :=
 qX bp rfl fun o h=>⟨BZ.enc o,rfl,fun _=>rfl,by
  have h:zc cond true false o=true:=h;rw [ahc];unfold zc at h ⊢;revert h
  repeat' first | exact fun _=>rfl | exact fun h=>absurd h (by decide) | (refine fun h=>Gi h ?_ ?_)⟩
end
section
open Go Go.Sx Go.Proofs
variable {σ:Sg} {lp:Lp}
structure DH where
 OD:Int->O->Bool
 qM:Nat->O->Bool
 Vc:ax->Cl->Bool
 bg:ax->Cl->ax
def afe (σ:Sg) (G:DH) (F:xX) (k:Nat):m7:=br 15 (bJ cL Ye (xx aIO C5 (fun _=>none) (fun x=>G.OD x.1 x.2)))
 (br 34 (bJ cL bS (qO BZ HW (fun o=>some (G.qM 1 o)) EY)) (br 35 (bJ cL bS (qO BZ HX (fun o=>some (G.qM 2 o)) EZ))
 (br 36 (bJ cL bS (qO BZ EH (fun o=>some (G.qM 3 o)) Ie)) (br 37 (bJ cL bS (qO BZ Pu (fun o=>some (G.qM 4 o)) Ic))
 (br 38 (bJ cL bS (qO BZ EG (fun o=>some (G.qM 5 o)) MF)) (br 55 (bJ cL bS (fS Lf C5 iA (fun _ _=>none) (fun m _=>(gT m,m))))
 (br 54 (bJ cL bS (fS aCl CI iA (fun m c=>some (G.Vc m c)) (fun m c=>((),G.bg m c))))
 (br 29 (SZ σ (bJ cL bS (Ih 2 Lf EF (fun v _=>some (F.oh v)) fun v _=>(.iW [],uG F k v,[])))) b9))))))))
def mGv:List Bool:=mkM 9
def adO:SV×List AV×List AV->Option (SV×aA)
 | (v,[.rE a],[])=>some (v,a)
 | _=>none
def uT (σ:Sg) (G:DH) (F:xX) (k:Nat) (v:aA) (o:O):T (Option (SV×aA)):=(Ca jE σ (afe σ G F k) 9 mGv [.v (.c (.ptr 7 0)),.v (.agg (Dw (O.wr o)))] [iG v] (gk AV.len qJ (dp 0 (aA.wr v)))).map adO
def kO:Cl:=⟨1,iC,aq,aq,0,0,⟨0,0⟩⟩
def iE (s:Nat) (o:O):dV:=match s with | 1=>.eu (EY o) | 2=>.dO (EZ o) | 3=>.lit (Ie o) | 4=>.pQ (Ic o) | _=>.pn (MF o)
def CU (bg:ax->Cl->ax) (s:Nat) (v:aA) (o:O):aA:={v with aP:=bg v.aP kO,aO:=1,call:=kO,op:=o,cF:=some (iE s o),answer:=⟨0,0⟩}
def zR {β:Type} (I:Bool->β->β->β) (N:Bool->β->β) (E:Nat->β) (L:aA->β) (G:DH) (oh:aA->Bool) (ad:aA->aA) (s:Nat) (v:aA) (o:O):β :=
 I (v.aO != 0) (N true (E KY)) (I (!G.OD v.sort o) (N true (E QF)) (N (G.qM s o) (N (G.Vc v.aP kO) (N true (N (oh (CU G.bg s v o)) (N true (L (ad (CU G.bg s v o)))))))))
def Sa (v:aA):T (Option (SV×aA)):=.aD (some (.v (.c .fL),v))
def Sb (σ:Sg) (v:aA) (i:Nat):T (Option (SV×aA)):=.aD (some (.v (zZ σ i),v))
theorem ajo (σ:Sg) (G:DH) (F:xX) (v:aA) (o:O):uT σ G F 1 {v with sort:=1,cF:=none} o=zR tI tN (Sb σ {v with sort:=1,cF:=none}) Sa G F.oh (uG F 1) 1 {v with sort:=1,cF:=none} o:=by kernel_rfl
theorem ajn (σ:Sg) (G:DH) (F:xX) (v:aA) (j:dz) (o:O):uT σ G F 1 {v with sort:=1,cF:=some (.eu j)} o=zR tI tN (Sb σ {v with sort:=1,cF:=some (.eu j)}) Sa G F.oh (uG F 1) 1 {v with sort:=1,cF:=some (.eu j)} o:=by kernel_rfl
theorem ajm (σ:Sg) (G:DH) (F:xX) (v:aA) (o:O):uT σ G F 2 {v with sort:=2,cF:=none} o=zR tI tN (Sb σ {v with sort:=2,cF:=none}) Sa G F.oh (uG F 2) 2 {v with sort:=2,cF:=none} o:=by kernel_rfl
theorem ajl (σ:Sg) (G:DH) (F:xX) (v:aA) (j:dj) (o:O):uT σ G F 2 {v with sort:=2,cF:=some (.dO j)} o=zR tI tN (Sb σ {v with sort:=2,cF:=some (.dO j)}) Sa G F.oh (uG F 2) 2 {v with sort:=2,cF:=some (.dO j)} o:=by kernel_rfl
theorem ajk (σ:Sg) (G:DH) (F:xX) (v:aA) (o:O):uT σ G F 3 {v with sort:=3,cF:=none} o=zR tI tN (Sb σ {v with sort:=3,cF:=none}) Sa G F.oh (uG F 3) 3 {v with sort:=3,cF:=none} o:=by kernel_rfl
theorem ajj (σ:Sg) (G:DH) (F:xX) (v:aA) (j:cU) (o:O):uT σ G F 3 {v with sort:=3,cF:=some (.lit j)} o=zR tI tN (Sb σ {v with sort:=3,cF:=some (.lit j)}) Sa G F.oh (uG F 3) 3 {v with sort:=3,cF:=some (.lit j)} o:=by kernel_rfl
theorem aji (σ:Sg) (G:DH) (F:xX) (v:aA) (o:O):uT σ G F 4 {v with sort:=4,cF:=none} o=zR tI tN (Sb σ {v with sort:=4,cF:=none}) Sa G F.oh (uG F 4) 4 {v with sort:=4,cF:=none} o:=by kernel_rfl
theorem ajh (σ:Sg) (G:DH) (F:xX) (v:aA) (j:ca) (o:O):uT σ G F 4 {v with sort:=4,cF:=some (.pQ j)} o=zR tI tN (Sb σ {v with sort:=4,cF:=some (.pQ j)}) Sa G F.oh (uG F 4) 4 {v with sort:=4,cF:=some (.pQ j)} o:=by kernel_rfl
theorem ajg (σ:Sg) (G:DH) (F:xX) (v:aA) (o:O):uT σ G F 5 {v with sort:=5,cF:=none} o=zR tI tN (Sb σ {v with sort:=5,cF:=none}) Sa G F.oh (uG F 5) 5 {v with sort:=5,cF:=none} o:=by kernel_rfl
theorem ajf (σ:Sg) (G:DH) (F:xX) (v:aA) (j:cD) (o:O):uT σ G F 5 {v with sort:=5,cF:=some (.pn j)} o=zR tI tN (Sb σ {v with sort:=5,cF:=some (.pn j)}) Sa G F.oh (uG F 5) 5 {v with sort:=5,cF:=some (.pn j)} o:=by kernel_rfl
theorem XW (i:Nat):∀(gs:Gs),jl (dp i gs)=jl gs:=by
 induction i with
 | zero=>intro gs;match gs with
   | []=>rfl
   | .p c::r=>cases c<;>rfl
   | .s _ _::r=>rfl
   | .r _::r=>rfl
   | .i _ _::r=>rfl
 | succ i ih=>intro gs;match gs with
   | []=>rfl
   | .p c::r=>show GC.p (EN c)::jl (dp i r)=_;rw [ih r];rfl
   | .s a e::r=>show GC.s a e::jl (dp i r)=_;rw [ih r];rfl
   | .r a::r=>show GC.r a::jl (dp i r)=_;rw [ih r];rfl
   | .i t a::r=>show GC.i t a::jl (dp i r)=_;rw [ih r];rfl
def stB (k:Nat) (o:O):Bool:=match k with | 1=>tv cond true false o | 2=>ua cond true false o | 3=>uq cond true false false o | 4=>yX cond true false o | _=>zc cond true false o
def Lb:DH:=⟨dU,stB,G5,bj⟩
theorem ags (k:Nat):cE Tryz.prog (NV σ) 29 (SZ σ (bJ cL bS (Ih 2 Lf EF (fun v _=>some ((pF k).oh v)) fun v _=>(.iW [],uG (pF k) k v,[])))):=by refine JB (MG rfl fun v x h=>?_);have h:(pF k).oh v=true:=h;show rT _ _ _ _ _ (.iW []) (iQ bS [iG (uG (pF k) k v)]);rw [adK_eq h];exact SO σ v (JO h).1
theorem VY (k:Nat):dH Tryz.prog (NV σ) (afe σ Lb (pF k) k) :=
 aH Ky (aH TN (aH UP (aH Yp (aH VF (aH Ww (aH wM (aH Gg (aH (ags k) bp))))))))
theorem I6 {r:SV×List AV×List AV} {v:SV} {a:aA} (h:adO r=some (v,a)):r=(v,[.rE a],[]):=by
 unfold adO at h;split at h
 ·cases h;rfl
 ·cases h
def CO (v:aA):Prop:=1<=v.sort /\ v.sort<=5 /\ (dq v=0 \/ (dq v:Int)=v.sort)
theorem adk (σ:Sg) (v:aA) (o:O) (hk:CO v) (r:Option (SV×aA)) (h:(zR tI tN (Sb σ v) Sa Lb (pF v.sort.toNat).oh (uG (pF v.sort.toNat) v.sort.toNat) v.sort.toNat v o).val=some r):(uT σ Lb (pF v.sort.toNat) v.sort.toNat v o).val=some r:=by
 obtain⟨so,en,ri,dg,cl,op,cF,an⟩:=v;obtain⟨h1,h2,h3⟩:=hk;dsimp only at h1 h2 h3;rcases (by omega:so=1 \/ so=2 \/ so=3 \/ so=4 \/ so=5) with rfl | rfl | rfl | rfl | rfl
 ·cases cF with
  | none=>exact(congrArg T.val (ajo σ Lb (pF 1) ⟨1,en,ri,dg,cl,op,none,an⟩ o)).trans h
  | some j =>
    cases j with
    | eu j=>exact(congrArg T.val (ajn σ Lb (pF 1) ⟨1,en,ri,dg,cl,op,none,an⟩ j o)).trans h
    | _=>simp [dq] at h3
 ·cases cF with
  | none=>exact(congrArg T.val (ajm σ Lb (pF 2) ⟨2,en,ri,dg,cl,op,none,an⟩ o)).trans h
  | some j =>
    cases j with
    | dO j=>exact(congrArg T.val (ajl σ Lb (pF 2) ⟨2,en,ri,dg,cl,op,none,an⟩ j o)).trans h
    | _=>simp [dq] at h3
 ·cases cF with
  | none=>exact(congrArg T.val (ajk σ Lb (pF 3) ⟨3,en,ri,dg,cl,op,none,an⟩ o)).trans h
  | some j =>
    cases j with
    | lit j=>exact(congrArg T.val (ajj σ Lb (pF 3) ⟨3,en,ri,dg,cl,op,none,an⟩ j o)).trans h
    | _=>simp [dq] at h3
 ·cases cF with
  | none=>exact(congrArg T.val (aji σ Lb (pF 4) ⟨4,en,ri,dg,cl,op,none,an⟩ o)).trans h
  | some j =>
    cases j with
    | pQ j=>exact(congrArg T.val (ajh σ Lb (pF 4) ⟨4,en,ri,dg,cl,op,none,an⟩ j o)).trans h
    | _=>simp [dq] at h3
 ·cases cF with
  | none=>exact(congrArg T.val (ajg σ Lb (pF 5) ⟨5,en,ri,dg,cl,op,none,an⟩ o)).trans h
  | some j =>
    cases j with
    | pn j=>exact(congrArg T.val (ajf σ Lb (pF 5) ⟨5,en,ri,dg,cl,op,none,an⟩ j o)).trans h
    | _=>simp [dq] at h3
theorem ach (v:aA):jl (aA.wr v)=aA.wr v:=by
 obtain⟨so,en,ri,dg,cl,op,cF,an⟩:=v;cases cF with
 | none=>rfl
 | some j=>cases j<;>rfl
theorem adl (σ:Sg) (v:aA) (o:O) (hk:CO v) {x:SV} {v':aA} (h:(zR tI tN (Sb σ v) Sa Lb (pF v.sort.toNat).oh (uG (pF v.sort.toNat) v.sort.toNat) v.sort.toNat v o).val=some (some (x,v'))) :
 rT Tryz.prog (NV σ) 9 [.v (.c (.ptr 7 0)),.v (.agg (Dw (O.wr o)))] (iQ mGv [iG v]) x (iQ mGv [iG v']):=by
 obtain⟨y,h1,h2⟩:=dw (adk σ v o hk _ h);rw [I6 h2] at h1;exact tZ (uS nO (CJ (VY _)) (ju _) (a:=iG v) (K:=gk AV.len qJ (dp 0 (aA.wr v))) ⟨_,rfl⟩ (fun L S w hq=>zt ((uZ (N:=iu jE σ) rfl (by rw [XW,ach];exact rfl) rfl L S w).1 hq)) (fun x hx=>by
  simp only [aaO,aaR,or_false] at hx;rcases hx with rfl | rfl
  ·exact J0 (ju _)
  ·exact AJ rfl) h1).1
def dx (v:aA) (o:O):aA:=jI (CU bj v.sort.toNat v o)
def EE (v:aA) (o:O):Prop:=G5 v.aP kO=true /\ tz (CU bj v.sort.toNat v o)=true
def NA (σ:Sg) (args:List SV) (l:List AV):T (SV×List AV×List AV):=match args,l with
 | [.v (.c (.ptr 7 0)),a],[.rE v]=>match BZ.jm [a] with
   | some o=>.aE (iI (CO v)) (.ite (v.aO != 0) (.aD (.v (zZ σ KY),[.rE v],[])) (.ite (!dU v.sort o) (.aD (.v (zZ σ QF),[.rE v],[])) (.aE (iI (EE v o)) (.aD (.v (.c .fL),[.rE (dx v o)],[])))))
   | none=>.fail "Give"
 | _,_=>.fail "Give"
theorem ady {v:aA} {o:O} (hk:CO v) (h:dU v.sort o=true):stB v.sort.toNat o=true:=by
 obtain⟨h1,h2,h3⟩:=hk;generalize v.sort=s at h1 h2 h;rcases (by omega:s=1 \/ s=2 \/ s=3 \/ s=4 \/ s=5) with rfl | rfl | rfl | rfl | rfl
 ·exact h
 ·exact h
 ·have h:uq cond true false true o=true:=h;show uq cond true false false o=true;unfold uq at h ⊢;cases hb:vZ o with
  | true=>rw [hb] at h;cases h
  | false =>
    show cond _ _ _=true;have hg:(!vG o)=false:=by
     unfold vZ at hb;split at hb
     ·rename_i hg;exact eq_of_beq hg
     ·cases hb
    have hg:vG o=true:=by simpa using hg
    unfold vG at hg;cases h6:o.aj==6 with
    | true=>rfl
    | false =>
      cases h7:o.aj==7 with
      | true=>rfl
      | false =>
        cases h8:o.aj==8 with
        | true=>rfl
        | false =>
          rw [h6,h7,h8] at hg;split at hg
          ·cases hg
          ·cases hg
 ·exact h
 ·exact h
theorem Sc:cE Tryz.prog (NV σ) 9 (bJ cL mGv (NA σ)):=by
 refine hZ dL (ju _) fun args l x l' nw h hl bZ=>?_;unfold NA at h;split at h
 ·rename_i a v;split at h
  ·rename_i o ho;obtain⟨hk,h⟩:=aC (h:(T.aE _ _).val=_);have hk:=fv hk;have fin:∀{x0:SV} {v0:aA},(zR tI tN (Sb σ v) Sa Lb (pF v.sort.toNat).oh (uG (pF v.sort.toNat) v.sort.toNat) v.sort.toNat v o).val=some (some (x0,v0))->some (x0,[AV.rE v0],([]:List AV))=some (x,l',nw)->rT Tryz.prog (NV σ) 9 [.v (.c (.ptr 7 0)),a] (iQ mGv [iG v]) x (iQ mGv (l'++nw)):=fun {x0 v0} h1 h2=>by cases h2;exact jh (adl σ v o hk h1) fun ρ=>congrArg (List.cons (SV.ay ρ (.v (.c (.ptr 7 0))))) (BZ.ok _ _ ho ρ).symm
   unfold zR at fin;cases hb:(v.aO != 0) with
   | true =>rw [hb] at h fin;exact fin rfl h
   | false =>
     rw [hb] at h fin;cases hf:dU v.sort o with
     | false =>rw [hf] at h;exact fin (show (tI (!dU v.sort o) _ _).val=_ by rw [hf];rfl) h
     | true =>
       rw [hf] at h;obtain⟨h2,h⟩:=aC (h:(T.aE _ _).val=_);obtain⟨h3,h4⟩:=fv h2;have ho:(pF v.sort.toNat).oh (CU bj v.sort.toNat v o)=true:=by show (match tz (CU bj v.sort.toNat v o) with | true=>Nat.beq (dq (CU bj v.sort.toNat v o)) v.sort.toNat | false=>false)=true;rw [h4];refine(aG _ _).2 ?_;have h1:=hk.1;have h2:=hk.2.1;unfold CU;generalize v.sort=s at h1 h2;rcases (by omega:s=1 \/ s=2 \/ s=3 \/ s=4 \/ s=5) with rfl | rfl | rfl | rfl | rfl<;>rfl
       refine fin (x0:=.v (.c .fL)) (v0:=dx v o) ?_ h;show (tI (!dU v.sort o) _ (tN (stB v.sort.toNat o) (tN (G5 v.aP kO) _))).val=_;rw [hf];refine(nv (ady hk hf)).trans ((nv h3).trans ((nv rfl).trans ((nv ho).trans ((nv rfl).trans ?_))));show some (some (SV.v (V1.c Cell.fL),uG _ _ _))=_;rw [show Lb.bg=bj from rfl,adK_eq ho];rfl
  ·cases h
 ·cases h
end
section
open Go Go.Sx Go.Proofs
def dV.WF (n:Int) (hd:Bool):dV->Prop
 | .eu j=>j.WF n /\ hd=false
 | .dO j=>j.WF n /\ hd=true
 | .lit j=>j.WF n /\ hd=false
 | .pQ j=>j.WF n /\ hd=false
 | .pn j=>j.WF n /\ hd=false
def dV.aw (c:Cl):dV->Prop
 | .eu j=>True
 | .dO j=>j.aw c
 | .lit j=>j.aw c
 | .pQ j=>j.aw c
 | .pn j=>j.aw c
def dV.rk:dV->Nat
 | .eu j=>j.rk
 | .dO j=>j.rk
 | .lit j=>j.rk
 | .pQ j=>j.rk
 | .pn j=>j.rk
theorem Vs (w:Option bs):wrk w<=2:=by
 cases w with
 | none=>exact acX _
 | some w=>show bs.rk w<=2;unfold bs.rk;repeat' split
           all_goals decide
theorem Yh (l:cU):l.rk<=3:=by have:=Vs l.walk;unfold cU.rk;split<;>omega
theorem dV.amP (j:dV):j.rk<=3:=by
 cases j with
 | eu j=>show dz.rk j<=3;unfold dz.rk;split<;>decide
 | dO j=>show dj.rk j<=3;unfold dj.rk;split<;>decide
 | lit j=>exact Yh j
 | pQ j =>
   show ca.rk j<=3;unfold ca.rk;split
   ·cases j.inner with
    | none=>exact acX _
    | some l=>exact Yh l
   ·have:=Vs j.walk;omega
 | pn j =>
   show cD.rk j<=3;unfold cD.rk;have:crk j.kY<=2:=by
    cases j.kY with
    | none=>exact acX _
    | some c=>show aQ.rk c<=2;unfold aQ.rk;repeat' split
              all_goals decide
   split<;>omega
theorem dV.afA {n:Int} {hd:Bool} {j:dV} (h:j.WF n hd):j.ok=true:=by
 cases j with
 | pQ j =>
   obtain⟨h,_⟩:=h;show TX j=true;have a:∀{x y:Bool},x=true->y=true->gU x y=true:=fun {x y} h1 h2=>by rw [h1,h2];rfl
   have o1:∀{x y:Bool},x=true->ll x y=true:=fun {x y} h1=>by rw [h1];rfl
   have o2:∀{x y:Bool},y=true->ll x y=true:=fun {x y} h1=>by rw [h1];cases x<;>rfl
   refine a (aaC h.key) (a (aaC h.kd) (a (aaC h.child) ?_));have hw:=h.wb;have hc:=h.wc;have hp:=h.pc;generalize j.pc=pc at hw hc hp;rcases hp with rfl | rfl | rfl | rfl | rfl | rfl | rfl | rfl | rfl | rfl | rfl | rfl | rfl | rfl | rfl | rfl | rfl;all_goals first
    | exact o1 (by decide)
    | exact o2 (o1 (a (by decide) (hw rfl)))
    | exact o2 (o2 (a (by decide) (hc (by decide))))
 | pn j =>
   obtain⟨h,_⟩:=h;show Mr j=true;unfold Mr;split
   ·exact aaC h.kd
   ·rename_i c hc;have hl:=(h.cl c hc).lv;rw [show tx c=true from aaC (by omega)];exact aaC h.kd
 | _=>rfl
structure aqc (n:Int) (hd:Bool) (r0:Nat) (r:Cl×dV):Prop where
 Rk:r.1.aj=12 \/ ClB n hd r.1
 nk:r.1.aj≠12->ug n r.1
 wf:r.2.WF n hd
 rk:GO r.1->r.2.rk < r0
 aw:r.2.aw r.1
theorem YG {n:Int} (h0:0<=n) {hd:Bool} {j:dV} (h:j.WF n hd) {c:Cl} (ha:j.aw c) {x:cJ} (hr:wh n hd c x):aqc n hd j.rk (j.next x):=by
 have cb:∀{c:Cl},hd=false->Res n c->(c.aj=12 \/ ClB n hd c):=fun {c} e h=>h.elim .inl fun h=>.inr (.inl ⟨h,fun e2=>by rw [e] at e2;cases e2⟩);have nk:∀{c:Cl},Res n c->c.aj≠12->ug n c:=fun {c} h e=>h.elim (fun h=>absurd h e) id;cases j with
 | eu j=>have hn:=ab1 h0 h.1 hr.w;exact⟨cb h.2 hn.Rk,nk hn.Rk,⟨hn.wf,h.2⟩,hn.rk,trivial⟩
 | dO j =>obtain⟨h,rfl⟩:=h;have hn:=adW h0 h ha hr;exact⟨hn.Rk.elim .inl fun h=>.inr (.inl ⟨h,fun _=>hn.aw.2⟩),nk hn.Rk,⟨hn.wf,rfl⟩,hn.rk,hn.aw.1⟩
 | lit j=>have hn:=PG h0 h.1 ha hr;exact⟨cb h.2 hn.Rk,nk hn.Rk,⟨hn.wf,h.2⟩,hn.rk,hn.aw⟩
 | pQ j=>have hn:=agI h0 h.1 ha hr;exact⟨cb h.2 hn.Rk,nk hn.Rk,⟨hn.wf,h.2⟩,hn.rk,hn.aw⟩
 | pn j=>have hn:=aha h0 h.1 ha hr;exact⟨cb h.2 hn.Rk,nk hn.Rk,⟨hn.wf,h.2⟩,hn.rk,hn.aw⟩
structure aA.WF (n:Int) (K:Nat) (v:aA):Prop where
 kj:CO v
 dg:0<=v.aO /\ v.aO<=4
 aP:v.aP.WF n (v.sort==2) K
 call:v.aP.step≠0->v.aP.call=v.call
 acU:v.aO=0->v.aP.step=0
 cF:(v.aO=1 \/ v.aO=2)->∃j,v.cF=some j /\ j.WF n (v.sort==2) /\ j.aw v.call /\ (v.aP.step=0->wh n (v.sort==2) v.call v.aP.bD)
def aA.nK (v:aA):Prop:=v.aO=0 \/ v.aP.step≠0
def sM (v:aA):Nat:=if v.aO=0 \/ v.aP.step≠0 then 1 else if v.aO=1 \/ v.aO=2 then(match v.cF with | some j=>j.rk+4 | none=>0) else 2
theorem EU {v:aA} (h:v.aO=0 \/ v.aP.step≠0):sM v=1:=if_pos h
theorem YA {v w:aA} (h:CO v) (hs:w.sort=v.sort) (hk:dq w=dq v):CO w:=by obtain⟨a,b,c⟩:=h;exact⟨by rw [hs];exact a,by rw [hs];exact b,by rw [hk,hs];exact c⟩
theorem Qv {n:Int} {m:ax} {c:Cl} (h:ug n c) (hi:¬GO c):(bj m c).step≠0:=by
 unfold GO at hi;have hk:c.aj=3 \/ c.aj=4 \/ c.aj=5 \/ c.aj=6 \/ c.aj=8 \/ c.aj=9:=by rcases h.2.2 with⟨h,_⟩ | ⟨h,_⟩ | ⟨h,_⟩ | h | ⟨h,_⟩<;>omega
 unfold bj fW;rw [if_neg (by omega),if_neg (by omega)];unfold j8;rw [if_neg (by omega),if_neg (by omega)];by_cases k3:c.aj=3
 ·rw [if_pos k3];show (1:Int)≠0;decide
 rw [if_neg k3];by_cases k4:c.aj=4
 ·rw [if_pos k4];show (1:Int)≠0;decide
 rw [if_neg k4];by_cases k5:c.aj=5
 ·rw [if_pos k5];show (1:Int)≠0;decide
 rw [if_neg k5];by_cases k6:c.aj=6
 ·rw [if_pos k6];show (5:Int)≠0;decide
 rw [if_neg k6,if_neg (by omega)];by_cases k8:c.aj=8
 ·rw [if_pos k8];split
  ·show (8:Int)≠0;decide
  ·show (1:Int)≠0;decide
 rw [if_neg k8,if_pos (by omega)];show (2:Int)≠0;decide
theorem Xa {n:Int} (h0:0<=n) {K:Nat} (hK:K<=100000) {v:aA} (h:v.WF n K):(v.nK /\ (cd v).val=some (.exit 0,v)) \/ (¬v.nK /\ ∃v',(cd v).val=some (.normal,v') /\ v'.WF n (K+1) /\ v'.sort=v.sort /\ sM v' < sM v):=by
 by_cases hr:v.nK
 ·refine .inl ⟨hr,?_⟩;unfold cd eF;rcases hr with h1 | h1
  ·rw [show ((v.aO != 0)==true)=false by rw [h1];rfl];rfl
  ·cases (v.aO != 0)==true with
   | false=>rfl
   | true =>
     have hb:gT v.aP=true:=by unfold gT;simpa using h1
     rw [hb];rfl
 ·have rj:¬(v.aO=0 \/ v.aP.step≠0):=hr;have hd:v.aO≠0:=fun e=>hr (.inl e);have hs:v.aP.step=0:=by
   by_cases e:v.aP.step=0
   ·exact e
   ·exact absurd (.inr e) hr
  have e1:((v.aO != 0)==true)=true:=by simpa using hd
  have e2:gT v.aP=false:=by unfold gT;rw [hs];rfl
  refine .inr ⟨hr,?_⟩;by_cases hj:v.aO=1 \/ v.aO=2
  ·obtain⟨j,ej,hjw,haw,hrp⟩:=h.cF hj;have hn:=YG h0 hjw haw (hrp hs);have hk:=h.aP;have afD:sM v=j.rk+4:=by unfold sM;rw [if_neg rj,if_pos hj,ej]
   have Qa:(cd v).val=(fM tI tN GN GW v (j.next v.aP.bD)).val:=by
    unfold cd eF;rw [e1,e2,ej];rcases hj with hj | hj
    ·rw [hj];exact nv (dV.afA hjw)
    ·rw [hj];exact nv (dV.afA hjw)
   have PW:∀(d:Int) (c:Cl) (r:ax) (a:An),CO {v with aO:=d,call:=c,aP:=r,cF:=some (j.next v.aP.bD).2,answer:=a}:=fun d c r a=>by
    refine YA h.kj rfl ?_;show dq {v with aO:=d,call:=c,aP:=r,cF:=some (j.next v.aP.bD).2,answer:=a}=dq v;have:dq v=dq {v with cF:=some j}:=by rw [<- ej]
    rw [this,<- H7 j v.aP.bD v];rfl
   generalize j.next v.aP.bD=nx at hn Qa PW;cases aiT:nx.1.aj != 12 with
   | true =>
     have dE:nx.1.aj≠12:=by simpa using aiT
     have hcb:ClB n (v.sort==2) nx.1:=hn.Rk.elim (fun e=>absurd e dE) id;obtain⟨ob,rr⟩:=Gf h0 hk hs hcb hK;have ev:(fM tI tN GN GW v nx).val=some (.normal,{v with aO:=2,call:=nx.1,aP:=bj v.aP nx.1,cF:=some nx.2}):=by unfold fM;rw [aiT];exact nv ob
     refine⟨_,Qa.trans ev,⟨PW 2 nx.1 _ v.answer,⟨by show (0:Int)<=2;decide,by show (2:Int)<=4;decide⟩,rr.wf,rr.on,fun e=>absurd (show (2:Int)=0 from e) (by decide),fun _=>⟨nx.2,rfl,hn.wf,hn.aw,rr.off⟩⟩,rfl,?_⟩;rw [afD];by_cases hb:(bj v.aP nx.1).step=0
     ·have him:GO nx.1:=by
       by_cases hi:GO nx.1
       ·exact hi
       ·exact absurd hb (Qv (hn.nk dE) hi)
      have:=hn.rk him;unfold sM;rw [if_neg (fun e=>e.elim (fun e=>absurd (show (2:Int)=0 from e) (by decide)) fun e=>e hb),if_pos (.inr rfl)];show nx.2.rk+4 < j.rk+4;omega
     ·rw [EU (.inr hb)];omega
   | false =>
     obtain⟨ob,rr⟩:=Gf (c:=gp) h0 hk hs (.inr (.inr (.inl rfl))) hK;have ev:(fM tI tN GN GW v nx).val=some (.normal,{v with answer:=nx.1.qB,aO:=3,call:=gp,aP:=bj v.aP gp,cF:=some nx.2}):=by unfold fM;rw [aiT];exact nv ob
     refine⟨_,Qa.trans ev,⟨PW 3 gp _ nx.1.qB,⟨by show (0:Int)<=3;decide,by show (3:Int)<=4;decide⟩,rr.wf,rr.on,fun e=>absurd (show (3:Int)=0 from e) (by decide),fun e=>absurd (show (3:Int)=1 \/ (3:Int)=2 from e) (by decide)⟩,rfl,?_⟩;rw [afD];unfold sM;split
     ·omega
     ·rw [if_neg (show ¬((3:Int)=1 \/ (3:Int)=2) by decide)];omega
  ·have ev:(cd v).val=some (.normal,{v with aO:=0}):=by unfold cd eF;rw [e1,e2,show (v.aO==1)=false by simpa using fun e=>hj (.inl e),show (v.aO==2)=false by simpa using fun e=>hj (.inr e)];rfl
   refine⟨_,ev,⟨YA h.kj rfl rfl,⟨by show (0:Int)<=0;decide,by show (0:Int)<=4;decide⟩,⟨B.mono h.aP.b (by omega),h.aP.call,h.aP.acc,h.aP.st⟩,h.call,fun _=>hs,fun e=>absurd (show (0:Int)=1 \/ (0:Int)=2 from e) (by decide)⟩,rfl,?_⟩;rw [EU (.inl rfl)];unfold sM;rw [if_neg rj,if_neg hj];omega
theorem Gw {n:Int} (h0:0<=n):∀(k:Nat) {K:Nat} {v:aA},K+k<=100000->v.WF n K->sM v<=k->∃v',dK cd k v=some (.exit 0,v') /\ v'.WF n (K+k) /\ v'.nK /\ v'.sort=v.sort
 | 0,K,v,hK,h,hn=>by
   exfalso;have:sM v=0:=by omega
   unfold sM at this;split at this
   ·cases this
   ·split at this
    ·rename_i hj;obtain⟨j,ej,_⟩:=h.cF hj;rw [ej] at this;have this:j.rk+4=0:=this;omega
    ·cases this
 | k+1,K,v,hK,h,hn=>by
   rcases Xa h0 (by omega) h with⟨hr,e⟩ | ⟨_,v',e,hw,hso,hlt⟩
   ·refine⟨v,by rw [dK,e],⟨h.kj,h.dg,⟨B.mono h.aP.b (by omega),h.aP.call,h.aP.acc,h.aP.st⟩,h.call,h.acU,h.cF⟩,hr,rfl⟩
   ·obtain⟨v2,e2,w2,r2,s2⟩:=Gw h0 k (by omega) hw (by omega);exact⟨v2,by rw [dK,e];exact e2,by rw [show K+(k+1)=K+1+k by omega];exact w2,r2,s2.trans hso⟩
theorem X5 {v:aA}:sM v<=Cq:=by
 unfold sM Cq;split
 ·decide
 ·split
  ·split
   ·rename_i j _;have:=dV.amP j;omega
   ·decide
  ·decide
theorem aar {n:Int} (h0:0<=n) {K:Nat} {v:aA} (hK:K+16<=100000) (h:v.WF n K):tz v=true /\ (jI v).WF n (K+16) /\ (jI v).nK /\ (jI v).sort=v.sort:=by
 obtain⟨v',e,w,r,so⟩:=Gw h0 Cq (by show K+16<=_;exact hK) h X5;have e2:aj8 v=some (.exit 0,v'):=e;have e3:jI v=v':=by unfold jI;rw [e2]
 refine⟨by unfold tz;rw [e2];rfl,?_⟩;rw [e3];exact⟨w,r,so⟩
theorem acj {n:Int} {K:Nat} {v:aA} (h:v.WF n K) (hr:v.nK) (hb:v.aO≠0):v.aP.step≠0 /\ (gw v.aP).1=v.aP.acc /\ Hh n (v.sort==2) v.aP.acc:=by have hs:v.aP.step≠0:=hr.elim (fun e=>absurd e hb) id;refine⟨hs,?_,h.aP.acc hs⟩;unfold gw gT;rw [show (v.aP.step==0)=false by simpa using hs];rfl
theorem Wq {n:Nat} {K:Nat} {v:aA} {p:ah} (hK:K<=100000) (h:v.WF n K) (hr:v.nK) (hb:v.aO≠0) (hp:p.WF n) (hd:Hd (v.sort==2) p) :
 J5 v.aP=true /\ (eO v p).WF n (K+1) /\ p.bM (gw v.aP).1 /\ (p.aV (gw v.aP).1).2.WF n /\ Hd (v.sort==2) (p.aV (gw v.aP).1).2:=by
 obtain⟨hs,ea,ha⟩:=acj h hr hb;have hv:=ha.bM hp;have hx:=BV hp hd hv ha.w ha.h;rw [ea];obtain⟨ot,rr⟩:=abi (by omega) h.aP hs ⟨hx.w,hx.al,hx.ld⟩ hK;refine⟨ot,?_,hv,hx.wf,hx.h0⟩;unfold eO;rw [ea];rw [h.call hs] at rr;refine⟨YA h.kj rfl rfl,h.dg,rr.wf,rr.on,fun e=>absurd e hb,fun hj=>?_⟩;obtain⟨j,ej,hjw,haw,_⟩:=h.cF hj;exact⟨j,ej,hjw,haw,rr.off⟩
theorem ag7 {n:Nat} {K:Nat} {v:aA} {p:ah} (hK:K+17<=100000) (h:v.WF n K) (hr:v.nK) (hb:v.aO≠0) (hp:p.WF n) (hd:Hd (v.sort==2) p) :
 XM v p /\ p.bM (gw v.aP).1 /\ (bo v p).2.1.WF n (K+17) /\ (bo v p).2.1.nK /\ (bo v p).2.1.sort=v.sort /\ (bo v p).2.2.WF n /\ Hd (v.sort==2) (bo v p).2.2:=by
 obtain⟨h1,h2,h3,h4,h5⟩:=Wq (by omega) h hr hb hp hd;obtain⟨a1,a2,a3,a4⟩:=aar (by omega) (K:=K+1) (by omega) h2;have e:(bo v p).2=(jI (eO v p),(p.aV (gw v.aP).1).2):=by
  unfold bo lW mJ;have c:∀{b:Bool} {x y:uf×aA×ah} {q:aA×ah},x.2=q->y.2=q->(cond b x y).2=q:=fun {b x y q} h1 h2=>by cases b<;>assumption
  repeat' first | exact rfl | apply c
 rw [e];exact⟨⟨h1,a1⟩,h3,a2,a3,a4,h4,h5⟩
end
section
open Go Go.Sx Go.Proofs
variable {σ:Sg} {lp:Lp}
theorem UC {N:eI AV} {nt:Nat} {E:Ev} {H H':Hp AV} (ho:Ou N H H') (oU:eX N H') (hs:AU H H'=true):td N nt {E:=E,H:=H} {E:=E,H:=H'}:=fun hc=>by obtain⟨len,dC,H6⟩:=oF hs;refine⟨⟨fun k=>(hc.E k).mono dC,oU.1⟩,len,fun ρ a w bG=>?_⟩;obtain⟨ρ1,o1,l1,f1⟩:=ho ρ w bG.own;refine⟨ρ1,⟨⟨bG.em.size,fun k hk=>?_⟩,o1⟩,⟨dC,fun n c h=>l1 n (b7 h),H6,len,fun _ _ _=>rfl,fun n c k h hk=>.inr (f1 n c k h hk),rfl,rfl,rfl,ab4 _⟩⟩;rw [bG.em.get k hk];exact(SV.cg (hc.E k) fun m c h=>l1 m (b7 h)).symm
def LN:Code:=jv 5 (cQ (eG Tryz.f20))
def ksN:List Nat:=[6,7]
abbrev ag3:TypeId:=120
def Xw (n:Nat) (len:Nat):List Cell:=[.vs 7 0 85 5 true,.vs 8 0 n 52 false,.vs 10 0 len 1 false,.il .i64 0,.il .i64 0,.fL]
def hpN (b:List W) (sl:List Sl) (n:Nat) (l:List N1) (len:Nat):Hp AV:=iQ bS [.fD b,.aW sl]++[some (.cells (Xw n len) ag3),some (.bN (.ie l))]
def NO (b:List W) (sl:List Sl) (n:Nat) (i:Int) (l:List N1) (len:Nat):St AV:={E:=only ksN [(6,.v (.c (.ptr 9 0))),(7,.v (.c (.it .i64 i)))] 45,H:=hpN b sl n l len}
def WM (σ:Sg) (n:Nat) (l:List N1):Bool:=decide (n=gX.len (F6 σ) (AV.ie l) /\ (n+1) * (SI.bytes JQ+1)<=zF)
theorem nR (σ:Sg) (b:List W) (sl:List Sl) (n:Nat) (i:Int) (l:List N1) (len:Nat):(xc (NV σ) (bE (lv (NV σ) b9 5)) (fun _=>none) 45 LN (NO b sl n i l len)).bind (ff 10 45 ksN fw) =
 .ite (decide (i>=1)) (.aE (WM σ len l) (.aD (.normal,NO b sl n (IntKind.wrap .i64 (i - 1)) (l++[⟨i⟩]) (len+1)))) (.aD (.exit 0,NO b sl n i l len)):=by kernel_rfl
def uy:Nat->List N1
 | 0=>[]
 | n+1=>⟨(n+1:Nat)⟩::uy n
theorem wZ:∀n,(uy n).length=n
 | 0=>rfl
 | n+1=>congrArg (·+1) (wZ n)
structure MN where
 i:Nat
 l:List N1
def goN (m:MN):Ex×MN:=match m.i with
 | 0=>(.exit 0,m)
 | i+1=>(.normal,⟨i,m.l++[⟨(i+1:Nat)⟩]⟩)
def LQ (m:MN):T (Ex×MN):=.aE (decide (m.i<=1024 /\ m.l.length+m.i<=1024)) (.aD (goN m))
theorem afK:∀(i:Nat) (l:List N1),l.length+i<=1024->dK LQ (i+1) ⟨i,l⟩=some (.exit 0,⟨0,l++uy i⟩)
 | 0,l,h=>by rw [dK,LQ,nv (aaC ⟨acX _,h⟩)];simp only [T.val,goN,uy,aeF]
 | i+1,l,h=>by rw [dK,LQ,nv (aaC ⟨by show i+1<=1024;omega,h⟩)];simp only [T.val,goN];rw [afK i _ (by rw [aaP];simp only [aaQ,ac8];omega)];simp only [uy,acA,acW]
theorem WL {n:Nat} {l:List N1} (h:n=l.length) (hn:l.length<=100000):WM σ n l=true:=by unfold WM;subst h;exact aaC ⟨rfl,abz (ac2 _ (afu hn)) (by decide)⟩
def Sh (b:List W) (sl:List Sl) (n:Nat) (m:MN):St AV:=NO b sl n (m.i:Int) m.l m.l.length
theorem Tm (σ:Sg) (b:List W) (sl:List Sl) (n:Nat) (m:MN) (r:Ex×MN) (h:(LQ m).val=some r) :
 ((xc (NV σ) (bE (lv (NV σ) b9 5)) (fun _=>none) 45 LN (Sh b sl n m)).bind (ff 10 45 ksN fw)).val=some (r.1,Sh b sl n r.2):=by
 obtain⟨hb,h⟩:=aC (h:(T.aE _ _).val=_);obtain⟨h1,h2⟩:=aaF hb;obtain⟨i,l⟩:=m;cases h;show ((xc (NV σ) _ _ 45 LN (NO b sl n i l l.length)).bind _).val=_;rw [nR];cases i with
 | zero=>rw [oY (by simp)];rfl
 | succ i =>rw [oX (by simp;omega),nv (WL rfl (by dsimp only at h2;omega))];show some (Ex.normal,NO b sl n (IntKind.wrap .i64 (((i+1:Nat):Int) - 1)) (l++[(⟨((i+1:Nat):Int)⟩:N1)]) (l.length+1))=_;rw [uh (by dsimp only at h1;omega),show (((i+1:Nat):Int) - 1)=(i:Int) by omega];show _=some (Ex.normal,NO b sl n (i:Int) (l++[(⟨((i+1:Nat):Int)⟩:N1)]) (l++[(⟨((i+1:Nat):Int)⟩:N1)]).length);rw [aaP];rfl
theorem VC {α:Type} (K:AK α) {a:AV} {l:List Cell} {n:Nat} {rs:List α} (ha:a.gb=some (K.es,K.ty,K.aT rs)) (h:K.BI n l=some rs):iM (NV σ) (.oB l K.es K.ty) (.bN a):=by obtain⟨h1,h2⟩:=K.Ac h;intro ρ n w;refine⟨fun hv=>?_,fun k=>Iff.rfl⟩;refine(((NV σ).F.kZ a _ _ _ (show (NV σ).F.gb a=_ from ha)).2 _ _ _).2 ?_;have hv:ng (ρ.L n) (ρ.S n) (aF ρ l) K.es K.ty w:=hv;rw [h1,show aF Nm.id l=aF ρ l from adb fun c hc=>cg _ fun m hm=>by rw [h2 c hc] at hm;cases hm];exact hv
def Vn:List Cell:=kR [.il .i64 0,.il .i64 0,.il .i64 0,.il .i64 0,.bl false] 85
def xZ:List W:=List.replicate 85 aq
def Pq (n:Nat):List Cell:=[.vs 7 0 85 5 true,.vs 8 0 n 52 false,.dP,.il .i64 0,.il .i64 0,.fL]
def ac6 (sl:List Sl) (n:Nat):Hp AV:=iQ bS []++[some (.oB Vn 5 60),some (.bN (.aW sl)),some (.cells (Pq n) ag3)]
def auG (sl:List Sl) (n:Nat) (s:St AV):Prop:=Sx.aJ s.E 6=.v (.c (.ptr 9 0)) /\ Sx.aJ s.E 7=.v (.c (.it .i64 n)) /\ s.H=ac6 sl n
def gN (sl:List Sl) (n:Nat) (s:St AV):T (Ex×St AV):=.aE (iI (auG sl n s /\ n<=1024)) (.aD (.exit 0,NO xZ sl n 0 (uy n) n))
theorem aoZ {N':eI AV} (hF:N'.F=(NV σ).F) (hG:N'.G=(NV σ).G) (sl:List Sl) (n:Nat):gr Tryz.prog N' 45 LN (gN sl n):=by
 have cR:gZ Tryz.prog (NV σ) (bE (lv (NV σ) b9 5)):=dt (mQ sJ uD K7 bp 5);refine eY (N:=NV σ) hF hG sJ cR (lp:=fun _=>none) (fun _ _ _ g hg=>by cases hg) fun s s' ex cM=>?_;obtain⟨E1,H1⟩:=s;unfold gN at cM
 replace cM:=aC cM
 obtain⟨hb,cM⟩:=cM;obtain⟨⟨e6,e7,eH⟩,hn⟩:=fv hb;simp only at e6 e7 eH;subst eH;cases cM;have hC:eX (NV σ) (de (ac6 sl n) 7 (some (.bN (.fD xZ)))):=BQ (by kernel_rfl);refine⟨{M:=MN,tX:=Sh xZ sl n,step:=LQ,ks:=ksN,pk:=fw,Aw:=fun d a h=>(by cases h),L:=10,len:=rfl,GV:=(by show 7<=10;decide),run:=Tm σ xZ sl n,m:=⟨n,[]⟩,k:=n+1,m':=⟨0,uy n⟩,Ld:=?_,it:=(by rw [afK n [] (by simpa using hn)];rfl),fin:=(by unfold Sh;simp only [wZ];rfl)}⟩;refine td.trans (Qc (nt:=45) (E:=E1) (E':=[(6,.v (.c (.ptr 9 0))),(7,.v (.c (.it .i64 n)))]) (ks:=ksN) (n:=7) (c:=.oB Vn 5 60) (c':=.bN (.fD xZ)) rfl (VC fg (n:=85) rfl (by kernel_rfl)) rfl fun k hk=>?_) ?_
 ·simp only [ksN,aaO,aaR,or_false] at hk;rcases hk with rfl | rfl
  ·exact .inl e6.symm
  ·exact .inl e7.symm
 ·refine UC (H':=hpN xZ sl n [] 0) (ab8 (N:=NV σ) (n:=9) (l:=Pq n) (l':=Xw n 0) (ty:=ag3) (a:=.ie []) hC rfl rfl (fun ρ ρ' e1 e2=>?_) (by show 7<=10;decide)) (BQ (by kernel_rfl)) (by kernel_rfl);have e8:ρ'.L 7=ρ.L 7:=e1 7 (by show 7 < 10;decide);have e9:ρ'.L 8=ρ.L 8:=e1 8 (by show 8 < 10;decide);have Ss:ρ'.L 10=⟨0,0,0⟩:=e2;simp only [Xw,Pq,aF,aaU,afm,Cell.ay,e8,e9,Ss];rfl
def Re (lp:Lp) (σ:Sg) (tab:m7) (f:FuncId) (M:List Bool) (args:List SV) (l:List AV):T (SV×List AV×List AV) :=
 (Q.bind (Q.lv (iu lp σ) tab 24 (.fn f) args (iQ M l)) (BO (DM σ) cL M l.length [])).map XV
theorem W6 (qG:fO Tryz.prog (iu lp σ)) {tab:m7} (ht:dH Tryz.prog (iu lp σ) tab) {f:FuncId} {M:List Bool} (hM:7=M.length) {args:List SV} {l:List AV} {v:SV} {l' nw:List AV}
 (bZ:∀x∈args,gf (iQ M l) x) (h:(Re lp σ tab f M args l).val=some (v,l',nw)):rT Tryz.prog (iu lp σ) f args (iQ M l) v (iQ M (l'++nw)) /\ l'.length=l.length:=by
 unfold Re at h;obtain⟨v0,rfl,h0⟩:=Dq h;rw [Q.bind_eq,Q.lv_eq] at h0;obtain⟨⟨v1,H2⟩,hr,hc⟩:=T.bq h0;exact(fun x=>⟨DC x.1,x.2⟩) (xe (N:=iu lp σ) (uJ rfl) dL hM bZ (Ou.refl _) (fun m c h=>⟨c,h⟩) ((adu qG ht 24 f).ctr hr bZ ⟨(Kr (σ:=σ) M l).1,trivial⟩) hc)
def Va:Sl:=⟨0,false,[aq,aq,aq,aq,aq,aq,aq,aq,aq,aq]⟩
def oo (n:Nat):ah:=⟨xZ,List.replicate n Va,uy n,0,0,none⟩
def aic (n:Nat):Lp:=lK 20 5 (gN (List.replicate n Va) n) jE
theorem anw (n:Nat):fO Tryz.prog (iu (aic n) σ) :=
 lu nO (fn:=Tryz.f20) (by kernel_rfl) (c:=eG Tryz.f20) (by kernel_rfl) (nt:=45) (by kernel_rfl) (b:=LN) (cN (by kernel_rfl)) (aoZ (σ:=σ) (N':=iu jE σ) rfl rfl _ n)
def apt (n:Nat):Prop:=(SV.v (.c (.ptr 9 0))=.v (.c (.ptr 9 0)) /\ SV.v (.c (.it .i64 n))=.v (.c (.it .i64 n)) /\ ac6 (List.replicate n Va) n=ac6 (List.replicate n Va) n) /\ n<=1024
@[reducible] def Rx:xp ah:=⟨AV.gi,fun | .gi m=>some m | _=>none,fun a j h=>by split at h<;>cases h;rfl,fun _=>rfl⟩
theorem X3 (σ:Sg) (n:Nat):(Re (aic n) σ b9 20 bS [.v (.c (.it .i64 (Int.ofNat n))),.v (.c (.il .i64 85))] []).map (sW Rx) =
 .ite (ll (decide (Int.ofNat n < 0)) (ll (decide (Int.ofNat n > 1024)) (decide ((85:Int) > 200)))) (.fail "load") (.aE (decide (0<=Int.ofNat n /\ Int.ofNat n=Int.ofNat n /\ (Int.ofNat n).toNat * (SI.bytes WQ+1)<=zF)) (.aE (iI (apt n))
  (.aE true (.aE (decide (n=(List.replicate n Va).length)) (.aE (decide (n=(uy n).length)) (.aE true (.aD (some (oo n))))))))):=by kernel_rfl
def aI2:mh (Int×Int) where
 enc x:=[.v (.c (.it .i64 x.1)),.v (.c (.it .i64 x.2))]
 jm:=fun | [.v (.c a),.v (.c b)]=>(match kL a,kL b with | some a,some b=>some (a,b) | _,_=>none) | _=>none
 ok:=fun l a h ρ=>by
  split at h
  ·split at h
   ·rename_i h0 h1;cases h;simp only [aaU,afm,SV.ay,V1.ay,b6 h0 ρ,b6 h1 ρ];rfl
   ·cases h
  ·cases h
 free:=fun _=>rfl
theorem My (σ:Sg) (n:Nat) (hn:n<=1024):((Re (aic n) σ b9 20 bS [.v (.c (.it .i64 (Int.ofNat n))),.v (.c (.il .i64 85))] []).map (sW Rx)).val=some (some (oo n)):=by
 rw [X3];have e:ll (decide (Int.ofNat n < 0)) (ll (decide (Int.ofNat n > 1024)) (decide ((85:Int) > 200)))=false:=by rw [aaK (show ¬Int.ofNat n < 0 by simp),aaK (show ¬Int.ofNat n > 1024 by simp;omega)];rfl
 rw [oY e];refine(nv (aaC ⟨by simp,rfl,abz (ac2 _ (show (Int.ofNat n).toNat<=1024 from hn)) (by decide)⟩)).trans ((nv (fh ⟨⟨rfl,rfl,rfl⟩,hn⟩)).trans ((nv rfl).trans ((nv (aaC List.length_replicate.symm)).trans ((nv (aaC (wZ n).symm)).trans (nv rfl)))))
theorem PB:cE Tryz.prog (NV σ) 20 (bJ cL bS (qO aI2 Rx (fun x=>some (decide (0<=x.1 /\ x.1<=1024 /\ x.2=85))) (fun x=>oo x.1.toNat))):=by
 refine hZ dL rfl fun args l v l' nw h hl bZ=>?_;unfold qO at h;split at h
 ·split at h
  ·rename_i x hx
   replace h:=kt h
   obtain⟨pf,h⟩:=h;obtain⟨h1,h2,h3⟩:=aaF (show decide _=true from pf);cases h;obtain⟨i,c⟩:=x;dsimp only at h1 h2 h3;subst h3;obtain⟨n,rfl⟩:∃n:Nat,i=Int.ofNat n:=⟨i.toNat,by simp;omega⟩;obtain⟨y,g1,g2⟩:=dw (My σ n (by simp at h2;omega));have g2:=FY g2;subst g2;have hc:=tZ (W6 (anw n) (CJ bp) (M:=bS) rfl (fU rfl) g1).1;exact jh hc fun ρ=>by rw [<- aI2.ok _ _ hx ρ];rfl
  ·cases h
 ·cases h
end
section
open Go Go.Sx Go.Proofs
variable {σ:Sg} {lp:Lp}
def aI5:mh (Int×Int×Int×Int×Int) where
 enc x:=[.v (.c (.it .i64 x.1)),.v (.c (.it .i64 x.2.1)),.v (.c (.it .i64 x.2.2.1)),.v (.c (.it .i64 x.2.2.2.1)),.v (.c (.it .i64 x.2.2.2.2))]
 jm:=fun | [.v (.c a),.v (.c b),.v (.c c),.v (.c d),.v (.c e)]=>(match kL a,kL b,kL c,kL d,kL e with | some a,some b,some c,some d,some e=>some (a,b,c,d,e) | _,_,_,_,_=>none) | _=>none
 ok:=fun l a h ρ=>by
  split at h
  ·split at h
   ·rename_i h0 h1 h2 h3 h4;cases h;simp only [aaU,afm,SV.ay,V1.ay,b6 h0 ρ,b6 h1 ρ,b6 h2 ρ,b6 h3 ρ,b6 h4 ρ];rfl
   ·cases h
  ·cases h
 free:=fun _=>rfl
def aeM (s:Int) (r:ax) (e:Int):aA:=⟨s,e,r,0,bf,⟨0,0,0,0⟩,none,⟨0,0⟩⟩
def afc (Ax:Int->Int->Int->Int->Bool) (mr:Int×Int×Int×Int->ax):m7:=br 26 (bJ cL bS (qO aI4 iA (fun x=>some (!(Ax x.1 x.2.1 x.2.2.1 x.2.2.2))) mr)) b9
theorem aa9 (σ:Sg) (Ax:Int->Int->Int->Int->Bool) (mr:Int×Int×Int×Int->ax) (s e me th no:Int):(kG σ (afc Ax mr) 8 bS (aI5.enc (s,e,me,th,no)) []).map (sW EF) =
 .ite (ll (decide (s < 1)) (decide (s > 5))) (.fail "load") (.aE (!(Ax e me th no)) (.aE true (.aD (some (aeM s (mr (e,me,th,no)) e))))):=by kernel_rfl
def qc (x:Int×Int×Int×Int×Int):aA:=aeM x.1 (Dp (x.2.1,x.2.2.1,x.2.2.2.1,x.2.2.2.2)) x.2.1
def Gj (x:Int×Int×Int×Int×Int):Bool:=ll (ll (decide (x.1 < 1)) (decide (x.1 > 5))) (Ai x.2.1 x.2.2.1 x.2.2.2.1 x.2.2.2.2)
theorem Hl:cE Tryz.prog (NV σ) 8 (bJ cL bS (qO aI5 EF (fun x=>some (!(Gj x))) qc)) :=
 qX (tab:=afc Ai Dp) (aH Xd bp) rfl fun x h=>⟨aI5.enc x,rfl,fun _=>rfl,by
  obtain⟨s,e,me,th,no⟩:=x;have h:(!(ll (ll (decide (s < 1)) (decide (s > 5))) (Ai e me th no)))=true:=h;rw [aa9];cases h1:ll (decide (s < 1)) (decide (s > 5)) with
  | true=>rw [h1] at h;cases h
  | false =>
    rw [h1] at h;cases h2:Ai e me th no with
    | true=>rw [h2] at h;cases h
    | false=>rfl⟩
end
section
open Go Go.Sx Go.Proofs
def ap8 (s:Int) (o:O):Prop:=(s=1 /\ (o.aj=1 \/ o.aj=2 \/ o.aj=3)) \/ (s=2 /\ (o.aj=4 \/ o.aj=5)) \/ ((s=3 \/ s=4 \/ s=5) /\ (o.aj=6 \/ o.aj=7 \/ o.aj=8) /\ 0<=o.key /\ o.key < 256 /\ (o.aj=6->o.bI<=3))
theorem Kv {o:O} (h:vG o=true):(o.aj=6 \/ o.aj=7 \/ o.aj=8) /\ 0<=o.key /\ o.key < 256 /\ (o.aj=6->o.bI<=3):=by
 unfold vG at h;split at h
 ·cases h
 ·rename_i hk;have Us:0<=o.key /\ o.key < 256:=by
   split at hk
   ·rename_i h1;have h1:¬o.key < 0:=aaL (eq_of_beq h1);have h2:¬o.key > 255:=aaL hk;omega
   ·cases hk
  split at h
  ·rename_i h6;have h6:o.aj=6:=Sm h6;refine⟨.inl h6,Us.1,Us.2,fun _=>?_⟩;split at h
   ·split at h
    ·split at h
     ·exact aaF h
     ·cases h
    ·cases h
   ·cases h
  ·rename_i h6;have h6:o.aj≠6:=RC h6;split at h
   ·rename_i h7;exact⟨.inr (.inl (Sm h7)),Us.1,Us.2,fun e=>absurd e h6⟩
   ·split at h
    ·rename_i h8;exact⟨.inr (.inr (Sm h8)),Us.1,Us.2,fun e=>absurd e h6⟩
    ·cases h
theorem Oi {o:O} (h:vZ o=false):vG o=true:=by
 unfold vZ at h;split at h
 ·rename_i hg;have hg:(!vG o)=false:=eq_of_beq hg;simpa using hg
 ·cases h
theorem Oh {o:O} (h:vY o=false):vG o=true:=by
 unfold vY at h;split at h
 ·rename_i hg;have hg:(!vG o)=false:=eq_of_beq hg;simpa using hg
 ·cases h
theorem Se {s:Int} {o:O} (h:dU s o=true):ap8 s o:=by
 unfold dU at h;by_cases h1:s=1
 ·rw [if_pos h1] at h;refine .inl ⟨h1,?_⟩;unfold tv at h;cases a:o.aj==1 with
  | true=>exact .inl (Sm a)
  | false =>
    cases b:o.aj==2 with
    | true=>exact .inr (.inl (Sm b))
    | false =>
      cases d:o.aj==3 with
      | true=>exact .inr (.inr (Sm d))
      | false=>rw [a,b,d] at h;cases h
 rw [if_neg h1] at h;by_cases h2:s=2
 ·rw [if_pos h2] at h;refine .inr (.inl ⟨h2,?_⟩);unfold ua at h;cases a:o.aj==4 with
  | true=>exact .inl (Sm a)
  | false =>
    cases b:o.aj==5 with
    | true=>exact .inr (Sm b)
    | false=>rw [a,b] at h;cases h
 rw [if_neg h2] at h;by_cases h3:s=3
 ·rw [if_pos h3] at h;unfold uq at h;cases a:vZ o with
  | true=>rw [a] at h;cases h
  | false=>exact .inr (.inr ⟨.inl h3,Kv (Oi a)⟩)
 rw [if_neg h3] at h;by_cases h4:s=4
 ·rw [if_pos h4] at h;unfold yX at h;cases a:vZ o with
  | true=>rw [a] at h;cases h
  | false=>exact .inr (.inr ⟨.inr (.inl h4),Kv (Oi a)⟩)
 rw [if_neg h4] at h;by_cases h5:s=5
 ·rw [if_pos h5] at h;unfold zc at h;cases a:vY o with
  | true=>rw [a] at h;cases h
  | false=>exact .inr (.inr ⟨.inr (.inr h5),Kv (Oh a)⟩)
 rw [if_neg h5] at h;cases h
theorem Ya {n:Int} (h0:0<=n) {s:Int} {o:O} (h:ap8 s o) (c:Cl):(iE s.toNat o).WF n (s==2) /\ (iE s.toNat o).aw c:=by
 have z:∀{p:Int} {P:Prop},(0:Int)=p->p≠0->P:=fun h h2=>absurd h.symm h2;rcases h with⟨rfl,hk⟩ | ⟨rfl,hk⟩ | ⟨hs,hk,k0,k1,ht⟩
 ·refine⟨⟨⟨hk,.inr (.inl rfl),fun e=>z e (by decide),aU h0,aU h0,fun _ e=>absurd (show (0:Int)=2 \/ (0:Int)=3 \/ (0:Int)=4 from e) (by decide)⟩,rfl⟩,trivial⟩
 ·refine⟨⟨⟨hk,.inr (.inl rfl),fun e=>z e (by decide),aU h0,aU h0,aU h0,aU h0,fun _ e=>absurd (show (0:Int)=2 \/ (0:Int)=3 \/ (0:Int)=4 \/ (0:Int)=6 \/ (0:Int)=7 from e) (by decide),fun _ e=>absurd (show (0:Int)=6 \/ (0:Int)=7 from e) (by decide)⟩,rfl⟩,fun _ e=>absurd (show (0:Int)=1 from e) (by decide)⟩
 ·rcases hs with rfl | rfl | rfl
  ·exact⟨⟨Ia h0 (gd (by decide) (by decide)) hk,rfl⟩,Ib⟩
  ·refine⟨⟨⟨⟨k0,k1⟩,hk,⟨by show (0:Int)<=0;decide,by show (0:Int) < 8;decide⟩,.inr (.inl rfl),fun e=>z e (by decide),fun e=>z e (by decide),fun e=>absurd (show (3:Int)<=0 from e.1) (by decide),aU h0,aU h0,aU h0,aU h0,fun e=>absurd (show (4:Int)<=0 from e.1) (by decide),fun w e=>(by cases e),fun e=>z e (by decide)⟩,rfl⟩,⟨fun e=>z e (by decide),fun e=>z e (by decide)⟩⟩
  ·refine⟨⟨⟨hk,ht,?_,fun e=>z e (by decide),aU h0,fun e=>?_,fun c e=>(by cases e),fun e=>?_⟩,rfl⟩,fun _ e=>absurd (show (0:Int)=1 from e) (by decide)⟩
   ·rcases hk with hk | hk | hk
    ·exact .inl ⟨hk,.inr (.inl rfl)⟩
    ·exact .inr (.inl ⟨hk,.inr (.inl rfl)⟩)
    ·exact .inr (.inr (.inl ⟨hk,.inr (.inl rfl)⟩))
   ·rcases e with⟨_,e⟩ | ⟨_,e⟩ | e
    ·exact absurd (show (2:Int)<=0 from e) (by decide)
    ·exact absurd (show (2:Int)<=0 from e) (by decide)
    ·exact absurd (show (101:Int)<=0 from e) (by decide)
   ·rcases e with⟨_,e⟩ | ⟨_,e⟩
    ·exact absurd (show (0:Int)=7 \/ (0:Int)=9 \/ (0:Int)=10 \/ (0:Int)=11 \/ (0:Int)=12 from e) (by decide)
    ·exact absurd (show (0:Int)=3 \/ (0:Int)=4 \/ (0:Int)=5 from e) (by decide)
theorem acN {s:Int} (h1:1<=s) (h5:s<=5) (o:O) (v:aA):(dq {v with cF:=some (iE s.toNat o)}:Int)=s:=by rcases (by omega:s=1 \/ s=2 \/ s=3 \/ s=4 \/ s=5) with rfl | rfl | rfl | rfl | rfl<;>rfl
theorem adj {n:Int} (h0:0<=n) {K:Nat} {v:aA} (hK:K+17<=100000) (h:v.WF n K) (hb:v.aO=0) {o:O} (hf:dU v.sort o=true):EE v o /\ (dx v o).WF n (K+17) /\ (dx v o).nK /\ (dx v o).sort=v.sort:=by
 have oT:=Se hf;obtain⟨ob,rr⟩:=Gf (c:=kO) h0 h.aP (h.acU hb) (.inr (.inl rfl)) (by omega);obtain⟨jw,ja⟩:=Ya h0 oT kO;have hw:(CU bj v.sort.toNat v o).WF n (K+1):=by refine⟨⟨h.kj.1,h.kj.2.1,.inr (acN h.kj.1 h.kj.2.1 o v)⟩,⟨by show (0:Int)<=1;decide,by show (1:Int)<=4;decide⟩,rr.wf,rr.on,fun e=>absurd (show (1:Int)=0 from e) (by decide),fun _=>⟨_,rfl,jw,ja,rr.off⟩⟩
 obtain⟨a1,a2,a3,a4⟩:=aar h0 (K:=K+1) (by omega) hw;exact⟨⟨ob,a1⟩,a2,a3,a4⟩
theorem H8 {n:Int} (h0:0<=n) {s e me th no:Int} (hs:1<=s /\ s<=5) (he:1<=e /\ e<=5) (ht:1<=th /\ th<=6) (hm:0<=me /\ me < th):(qc (s,e,me,th,no)).WF n 0 /\ (qc (s,e,me,th,no)).nK:=by refine⟨⟨⟨hs.1,hs.2,.inl rfl⟩,⟨by show (0:Int)<=0;decide,by show (0:Int)<=4;decide⟩,⟨⟨he,⟨hm.1,by show me < 6;omega⟩,ht,⟨aU h0,aU h0,aU h0,aU h0,aU h0,aU h0,aU h0,aU h0,aU h0⟩,fun x hx=>(by cases hx),ab4 _,aU h0,acX _⟩,fun e=>absurd rfl e,fun e=>absurd rfl e,.inl rfl⟩,fun e=>absurd rfl e,fun _=>rfl,fun e=>absurd (show (0:Int)=1 \/ (0:Int)=2 from e) (by decide)⟩,.inl rfl⟩
theorem aA.WF.mono {n:Int} {K K':Nat} {v:aA} (h:v.WF n K) (hk:K<=K'):v.WF n K':=⟨h.kj,h.dg,⟨B.mono h.aP.b hk,h.aP.call,h.aP.acc,h.aP.st⟩,h.call,h.acU,h.cF⟩
