import Derived.Test.YtadmfaohjnjajaaGreatDoorPb
set_option linter.unusedVariables false
set_option linter.unusedSimpArgs false
set_option maxHeartbeats 0
set_option maxRecDepth 100000
noncomputable section
namespace Go.Proofs.YtadmfaohjnjajaaGreatDoor
section
open Go Go.Sx Go.Proofs
variable {σ:Sg}
def dp:Nat->Gs->Gs
 | 0,.p (.it k v)::r=>.p (.il k v)::r
 | n+1,x::r=>x::dp n r
 | _,gs=>gs
def gU (a b:Bool):Bool:=match a==true with | true=>b | false=>false
def ll (a b:Bool):Bool:=match a==false with | true=>b | false=>true
def eZ (a b:Int):Int:=IntKind.wrap .i64 (a+b)
def S3.put (s:S3) (l:Int) (p:Ad) (c:W):S3:=if l=0 then {s with p0:=p,c0:=c} else if l=1 then {s with p1:=p,c1:=c} else {s with p2:=p,c2:=c}
def m5 {β:Type} (I:Bool->β->β->β) (L:(Cl×Bool)×aQ->β) (c:aQ) (x:cJ):β :=
 let ask (n:Int) (a:Cl) (c:aQ):β:=L ((a,true),{c with pc:=n});let enter (c:aQ):β:=ask 2 (bL c.prev (3 * c.level+1)) c;let again (c:aQ):β:=enter {c with level:=2,prev:=bc 2};let behind (c:aQ):β:=ask 3 (bL (az c.cur (2+c.level)) (3 * c.level)) c
 let lower (c:aQ):β :=
  if c.level=0 then
   I (gU (!(c.cur.ae==0)) (c.k==c.CA)) (L ((bf,false),{c with eJ:=S3.put c.eJ c.level c.prev c.cur,pc:=-1,found:=dB c.cur}))
     (L ((bf,false),{c with eJ:=S3.put c.eJ c.level c.prev c.cur,pc:=-1}))
  else I (c.prev.s==0) (enter {c with eJ:=S3.put c.eJ c.level c.prev c.cur,level:=c.level - 1,prev:=bc (c.level - 1)})
   (ask 9 (pj (3 * (c.level - 1)+2) (3 * (c.level - 1)+5)) {c with eJ:=S3.put c.eJ c.level c.prev c.cur,level:=c.level - 1,prev:={c.prev with f:=2+(c.level - 1)}})
 let on (c:aQ):β:=I (c.cur.ae==0) (lower c) (ask 8 (pj (3 * c.level+1) (3 * c.level)) c)
 I (c.pc==2) (I x.w.mark (again c) (I (x.w.ae==0) (lower {c with cur:=x.w}) (behind {c with cur:=x.w})))
 (I (c.pc==3) (ask 4 (bC (az c.cur 0)) {c with next:=x.w})
 (I (c.pc==4) (ask 5 (bC c.prev) {c with k:=x.w.bU})
 (I (c.pc==5) (I (!lG x.w c.cur) (again c) (I c.next.mark (ask 6 (cr c.prev c.cur (iV c.cur c.next)) c) (I (decide (c.k>=c.CA)) (lower c) (ask 7 (pj (3 * c.level+2) (3 * c.level+1)) {c with prev:=az c.cur (2+c.level)}))))
 (I (c.pc==6) (I x.ok (on {c with cur:=iV c.cur c.next}) (again c))
 (I (c.pc==0) (again c)
 (I (c.pc==7) (on {c with cur:=c.next})
 (I (c.pc==8) (behind c)
 (I (c.pc==9) (enter c)
 (L ((bf,false),c))))))))))
def aL (c:aQ) (x:cJ):(Cl×Bool)×aQ:=m5 cond id c x
theorem ad4 (σ:Sg) (pc:Int) (la:Cl) (pv:Ad) (cu:W) (bd:Int) (nx:W) (k:Int) (sp:S3) (fd:W) (x:cJ):(gJ σ b9 204 bS (nD.enc x) (rR ⟨pc,la,pv,cu,bd,0,nx,k,sp,fd⟩) mH (dp 28 (aQ.wr ⟨pc,la,pv,cu,bd,0,nx,k,sp,fd⟩)) []).map (lA GY mO)=m5 tI tL ⟨pc,la,pv,cu,bd,0,nx,k,sp,fd⟩ x:=by kernel_rfl
theorem ad3 (σ:Sg) (pc:Int) (la:Cl) (pv:Ad) (cu:W) (bd:Int) (nx:W) (k:Int) (sp:S3) (fd:W) (x:cJ):(gJ σ b9 204 bS (nD.enc x) (rR ⟨pc,la,pv,cu,bd,1,nx,k,sp,fd⟩) mH (dp 28 (aQ.wr ⟨pc,la,pv,cu,bd,1,nx,k,sp,fd⟩)) []).map (lA GY mO)=m5 tI tL ⟨pc,la,pv,cu,bd,1,nx,k,sp,fd⟩ x:=by kernel_rfl
theorem ad2 (σ:Sg) (pc:Int) (la:Cl) (pv:Ad) (cu:W) (bd:Int) (nx:W) (k:Int) (sp:S3) (fd:W) (x:cJ):(gJ σ b9 204 bS (nD.enc x) (rR ⟨pc,la,pv,cu,bd,2,nx,k,sp,fd⟩) mH (dp 28 (aQ.wr ⟨pc,la,pv,cu,bd,2,nx,k,sp,fd⟩)) []).map (lA GY mO)=m5 tI tL ⟨pc,la,pv,cu,bd,2,nx,k,sp,fd⟩ x:=by kernel_rfl
def tx (c:aQ):Bool:=decide (0<=c.level /\ c.level<=2)
theorem ad1 (σ:Sg) (x:cJ):(kG σ b9 204 bS (.v (.c .jj)::nD.enc x) []).map (qv GY)=.aD (some (bf,false)):=by kernel_rfl
theorem Z1:cE Tryz.prog (NV σ) 204 (bJ cL bS (oL nD GY mO (fun c _=>some (tx c)) aL (bf,false))) :=
 qd bp rfl (fun j x h=>by
  obtain⟨pc,la,pv,cu,bd,lv,nx,k,sp,fd⟩:=j;have h:0<=lv /\ lv<=2:=aaF h;rcases (by omega:lv=0 \/ lv=1 \/ lv=2) with rfl | rfl | rfl
  ·exact⟨mH,dp 28 (aQ.wr ⟨pc,la,pv,cu,bd,0,nx,k,sp,fd⟩),rfl,nD.enc x,rfl,fun _=>rfl,by
    rw [ad4];unfold m5 aL m5;dsimp only;simp only [if_true]
    repeat' first | apply vI | exact vL⟩
  ·exact⟨mH,dp 28 (aQ.wr ⟨pc,la,pv,cu,bd,1,nx,k,sp,fd⟩),rfl,nD.enc x,rfl,fun _=>rfl,by
    rw [ad3];unfold m5 aL m5;dsimp only;simp only [show ¬(1:Int)=0 by decide,if_false]
    repeat' first | apply vI | exact vL⟩
  ·exact⟨mH,dp 28 (aQ.wr ⟨pc,la,pv,cu,bd,2,nx,k,sp,fd⟩),rfl,nD.enc x,rfl,fun _=>rfl,by
    rw [ad2];unfold m5 aL m5;dsimp only;simp only [show ¬(2:Int)=0 by decide,if_false]
    repeat' first | apply vI | exact vL⟩) fun x=>congrArg T.val (ad1 σ x)
def aI:mh Int where
 enc x:=[.v (.c (.it .i64 x))]
 jm:=fun | [.v (.c c)]=>kL c | _=>none
 ok:=fun l a h ρ=>by
  split at h
  ·simp only [aaU,afm,SV.ay,V1.ay,b6 h ρ];rfl
  ·cases h
 free:=fun _=>rfl
def fx (b:Int):aQ:=⟨0,bf,iC,aq,b,0,aq,0,⟨iC,aq,iC,aq,iC,aq⟩,aq⟩
theorem T3 (σ:Sg) (b:Int):(kG σ b9 205 bS (aI.enc b) []).map (UJ mO)=tL (fx b):=by kernel_rfl
theorem Mz:cE Tryz.prog (NV σ) 205 (bJ cL bS (Mx aI mO (fun _=>none) fx)) :=
 J9 bp rfl fun x _=>⟨aI.enc x,rfl,fun _=>rfl,by rw [T3];rfl⟩
def vW:n5 W where
 enc w:=.v (.agg w.enc)
 jm:=fun | .v (.agg [.it .i64 a,.it .i64 b,.it .i64 c,.it .i64 d,.bt e])=>some ⟨a,b,c,d,e⟩ | _=>none
 ok:=fun v b h=>by split at h<;>cases h;rfl
def abb:n5 (Ad×W) where
 enc x:=.iW [.agg [.it .i64 x.1.s,.it .i64 x.1.g,.it .i64 x.1.f],.agg x.2.enc]
 jm:=fun | .iW [.agg [.it .i64 a,.it .i64 b,.it .i64 c],.agg [.it .i64 d,.it .i64 e,.it .i64 f,.it .i64 g,.bt h]]=>some (⟨a,b,c⟩,⟨d,e,f,g,h⟩) | _=>none
 ok:=fun v b h=>by split at h<;>cases h;rfl
theorem ad8 (σ:Sg) (c:aQ):(gJ σ b9 209 bS [] (rR c) mH (aQ.wr c) []).map (lA vW mO)=tL (c.found,c):=by kernel_rfl
theorem Z9 (σ:Sg):(kG σ b9 209 bS [.v (.c .jj)] []).map (qv vW)=.aD (some aq):=by kernel_rfl
theorem UU:cE Tryz.prog (NV σ) 209 (bJ cL bS (oL Jt vW mO (fun _ _=>none) (fun c _=>(c.found,c)) aq)) :=
 qd bp rfl (fun j x _=>⟨mH,aQ.wr j,rfl,[],rfl,fun _=>rfl,by rw [ad8];rfl⟩) fun x=>congrArg T.val (Z9 σ)
def aZ (c:aQ) (l:Int):Ad×W:=if l=0 then(c.eJ.p0,c.eJ.c0) else if l=1 then(c.eJ.p1,c.eJ.c1) else if l=2 then(c.eJ.p2,c.eJ.c2) else(iC,aq)
def Xy {α:Type} (l:Int) (f:Nat->T α):T α:=.ite (decide (l=0)) (f 0) (.ite (decide (l=1)) (f 1) (.aE (decide (l=2)) (f 2)))
def S3.p (s:S3):Nat->Ad
 | 0=>s.p0
 | 1=>s.p1
 | _=>s.p2
def S3.c (s:S3):Nat->W
 | 0=>s.c0
 | 1=>s.c1
 | _=>s.c2
theorem adV (σ:Sg) (c:aQ) (l:Int):(gJ σ b9 206 bS [.v (.c (.it .i64 l))] (rR c) mH (aQ.wr c) []).map (lA abb mO) =
 tI (match decide (l < 0)==false with | true=>decide (l>=3) | false=>true) (tL ((iC,aq),c)) (Xy l fun i=>Xy l fun k=>tL ((S3.p c.eJ i,S3.c c.eJ k),c)):=by kernel_rfl
theorem ZU (σ:Sg) (l:Int):(kG σ b9 206 bS (.v (.c .jj)::aI.enc l) []).map (qv abb)=.aD (some (iC,aq)):=by kernel_rfl
theorem UM:cE Tryz.prog (NV σ) 206 (bJ cL bS (oL aI abb mO (fun _ _=>none) (fun c l=>(aZ c l,c)) (iC,aq))) :=
 qd bp rfl (fun j l _=>by
  refine⟨mH,aQ.wr j,rfl,aI.enc l,rfl,fun _=>rfl,?_⟩;show ((gJ σ b9 _ bS [.v (.c (.it .i64 l))] (rR j) mH (aQ.wr j) []).map _).val=_;rw [adV];unfold aZ Xy;by_cases h0:l=0
  ·subst h0;rfl
  by_cases h1:l=1
  ·subst h1;rfl
  by_cases h2:l=2
  ·subst h2;rfl
  rw [if_neg h0,if_neg h1,if_neg h2];by_cases hl:l < 0
  ·rw [aaC hl];rfl
  ·rw [aaK hl,aaC (show l>=3 by omega)];rfl) fun x=>congrArg T.val (ZU σ x)
def DZ:m7:=br 204 (bJ cL bS (oL nD GY mO (fun c _=>some (tx c)) aL (bf,false))) (br 205 (bJ cL bS (Mx aI mO (fun _=>none) fx))
 (br 209 (bJ cL bS (oL Jt vW mO (fun _ _=>none) (fun c _=>(c.found,c)) aq)) (br 206 (bJ cL bS (oL aI abb mO (fun _ _=>none) (fun c l=>(aZ c l,c)) (iC,aq))) b9)))
theorem VZ:dH Tryz.prog (NV σ) DZ:=aH Z1 (aH Mz (aH UU (aH UM bp)))
def Xg (a b:W):Bool:=a.ae==b.ae&&a.gen==b.gen
def anW (a b:W):Bool:=a.ae==b.ae&&(a.gen==b.gen&&(a.tag==0&&(a.bU==0&&a.mark==false)))
def Q4 (j:cD):List Cell:=iK AV.len (7+1) (dp 19 (cD.wr j))
theorem mn (l:List Cell) (t:TypeId):nJ l t l t=true:=@aaC _ (Classical.propDecidable _) ⟨rfl,rfl⟩
def sq {β:Type} (I:Bool->β->β->β) (N:Bool->β->β) (L:Cl×cD->β) (j:cD) (x:cJ):β :=
 let ask (n:Int) (c:Cl) (j:cD):β:=L (c,{j with pc:=n});let done (j:cD) (c v:Int):β:=L (jS c v,{j with pc:=-1,last:=jS c v});let rF (j:cD) (t:β):β:=N (nJ (Q4 j) uM (Q4 j) uM) t;let uB (j:cD) (n b:Int):cD:={j with kY:=some (fx b),pc:=n};let field (j:cD) (n:Int):Ad:=az j.node n;let place (j:cD) (l:Int):Ad×W:=match j.kY with | none=>(iC,aq) | some c=>aZ c l
 let found (j:cD):W:=match j.kY with | none=>aq | some c=>c.found
 let nil (j:cD) (t e:β):β:=I ((found j).ae==0) t e;let step (j:cD) (k:cD->β):β:=match j.kY with
  | none=>I false (L (bf,j)) (k j)
  | some c=>N (tx c) (I (aL c x).1.2 (L ((aL c x).1.1,{j with kY:=some (aL c x).2})) (k {j with kY:=some (aL c x).2}))
 let part (j:cD) (n:Int):β:=ask 101 (bC (field j 7)) {j with inc:=n};let link (j:cD):β:=I (decide (j.level>=j.op.bI)) (part j 1) (ask 9 (bC (field j (eZ 2 j.level))) j);let aJ (j:cD):β:=ask 4 (bC (field j (eZ 2 j.level))) j
 let an1 (j:cD):β:=I (decide (di j.level < j.op.bI)) (ask 7 (cW (field j (eZ 2 (di j.level))) (dB (place j (di j.level)).2)) {j with level:=di j.level})
  (ask 8 (cr (place j 0).1 (place j 0).2 (iV (place j 0).2 j.node)) {j with level:=di j.level})
 let aiD (j:cD):β:=step j fun j=>I (!((found j).ae==0)) (ask 6 (qz j.node) j) (an1 {j with level:=-1});let r12 (j:cD):β:=step j fun j=>I (!anW (found j) j.node) (part j 1) (link j);let Mb (j:cD):β:=step j fun j=>nil j (done {j with node:=found j} 2 0) (ask 2 (bC (az (found j) 6)) {j with node:=found j});let amS (j:cD):β:=step j fun j=>part j 2;let aoX (j:cD):β:=step j fun j=>nil j (done {j with node:=found j} 2 0) (ask 2 (bC (az (found j) 1)) {j with node:=found j});let tail (j:cD):β:=step j fun j=>ask 104 (kD j.node) j
 I (j.pc==-1) (L (j.last,j))
 (I (decide (j.pc>=101))
   (I (j.pc==101) (I (x.w.bU==0) (rF j (ask 102 (cr (field j 7) x.w (fH x.w j.inc)) j)) (tail (uB j 103 (di j.op.key))))
   (I (j.pc==102) (I x.ok (done j 1 j.val) (tail (uB j 103 (di j.op.key))))
   (I (j.pc==104) (done j 1 j.val) (tail j))))
 (if j.op.aj=6 then
   I (decide (j.pc>=9))
     (I (j.pc==9) (I x.w.mark (part j 1) (I (!Xg x.w (place j j.level).2) (ask 10 (cr (field j (eZ 2 j.level)) x.w (iV x.w (place j j.level).2)) j) (ask 11 (cr (place j j.level).1 (place j j.level).2 (iV (place j j.level).2 j.node)) j)))
     (I (j.pc==10) (I (!x.ok) (link j) (ask 11 (cr (place j j.level).1 (place j j.level).2 (iV (place j j.level).2 j.node)) j))
     (I (j.pc==11) (I x.ok (link {j with level:=di j.level}) (r12 (uB j 12 j.op.key)))
     (I (j.pc==12) (r12 j)
     (L (j.last,j))))))
     (I (j.pc==0) (ask 1 kP j)
     (I (j.pc==1) (I (!x.ok) (done j 4 0) (rF {j with node:=x.w} (ask 2 (cW (az x.w 0) (dZ j.op.key)) {j with node:=x.w})))
     (I (j.pc==2) (rF j (ask 3 (cW (field j 1) (dZ j.op.val)) j))
     (I (j.pc==3) (rF j (ask 4 (cW (field j 6) (dZ j.op.bI)) j))
     (I (j.pc==6) (done j 3 0)
     (I (j.pc==8) (I x.ok (link {j with level:=1}) (aiD (uB j 5 j.op.key)))
     (I (j.pc==4) (aiD (uB j 5 j.op.key))
     (I (j.pc==5) (aiD j)
     (I (j.pc==7) (an1 j)
     (L (j.last,j)))))))))))
 else if j.op.aj=7 then
  I (j.pc==0) (Mb (uB j 1 j.op.key))
  (I (j.pc==1) (Mb j)
  (I (j.pc==2) (I (ll (decide (x.w.bU < 1)) (decide (x.w.bU > 3))) (ask 3 (bC (field j 1)) {j with level:=0}) (ask 3 (bC (field j 1)) {j with level:=IntKind.wrap .i64 (x.w.bU - 1)}))
  (I (j.pc==3) (aJ {j with val:=x.w.bU})
  (I (j.pc==4) (I (!x.w.mark) (ask 5 (cr (field j (eZ 2 j.level)) x.w (n6 x.w)) j) (I (j.level==0) (done j 2 0) (aJ {j with level:=IntKind.wrap .i64 (j.level - 1)})))
  (I (j.pc==5) (I (!x.ok) (aJ j) (I (decide (j.level > 0)) (aJ {j with level:=IntKind.wrap .i64 (j.level - 1)}) (amS (uB j 6 (di j.op.key)))))
  (I (j.pc==6) (amS j)
  (L (j.last,j))))))))
 else
  I (j.pc==0) (aoX (uB j 1 j.op.key))
  (I (j.pc==1) (aoX j)
  (I (j.pc==2) (done j 1 x.w.bU)
  (L (j.last,j))))))
def tN {α:Type} (b:Bool) (t:T α):T α:=.aE b t
theorem ahi (σ:Sg) (pc:Int) (la:Cl) (key val bI:Int) (nd:W) (lv inc v:Int) (x:cJ):(gJ σ DZ 193 bS (nD.enc x) (D8 ⟨pc,la,⟨6,key,val,bI⟩,none,nd,lv,inc,v⟩) uM (dp 19 (cD.wr ⟨pc,la,⟨6,key,val,bI⟩,none,nd,lv,inc,v⟩)) []).map (lA C4 EG)=sq tI tN tL ⟨pc,la,⟨6,key,val,bI⟩,none,nd,lv,inc,v⟩ x:=by kernel_rfl
theorem ahh (σ:Sg) (pc:Int) (la:Cl) (key val bI:Int) (w:aQ) (nd:W) (lv inc v:Int) (x:cJ):(gJ σ DZ 193 bS (nD.enc x) (D8 ⟨pc,la,⟨6,key,val,bI⟩,some w,nd,lv,inc,v⟩) uM (dp 19 (cD.wr ⟨pc,la,⟨6,key,val,bI⟩,some w,nd,lv,inc,v⟩)) []).map (lA C4 EG)=sq tI tN tL ⟨pc,la,⟨6,key,val,bI⟩,some w,nd,lv,inc,v⟩ x:=by kernel_rfl
theorem ahg (σ:Sg) (pc:Int) (la:Cl) (key val bI:Int) (nd:W) (lv inc v:Int) (x:cJ):(gJ σ DZ 193 bS (nD.enc x) (D8 ⟨pc,la,⟨7,key,val,bI⟩,none,nd,lv,inc,v⟩) uM (dp 19 (cD.wr ⟨pc,la,⟨7,key,val,bI⟩,none,nd,lv,inc,v⟩)) []).map (lA C4 EG)=sq tI tN tL ⟨pc,la,⟨7,key,val,bI⟩,none,nd,lv,inc,v⟩ x:=by kernel_rfl
theorem ahf (σ:Sg) (pc:Int) (la:Cl) (key val bI:Int) (w:aQ) (nd:W) (lv inc v:Int) (x:cJ):(gJ σ DZ 193 bS (nD.enc x) (D8 ⟨pc,la,⟨7,key,val,bI⟩,some w,nd,lv,inc,v⟩) uM (dp 19 (cD.wr ⟨pc,la,⟨7,key,val,bI⟩,some w,nd,lv,inc,v⟩)) []).map (lA C4 EG)=sq tI tN tL ⟨pc,la,⟨7,key,val,bI⟩,some w,nd,lv,inc,v⟩ x:=by kernel_rfl
theorem ahe (σ:Sg) (pc:Int) (la:Cl) (key val bI:Int) (nd:W) (lv inc v:Int) (x:cJ):(gJ σ DZ 193 bS (nD.enc x) (D8 ⟨pc,la,⟨8,key,val,bI⟩,none,nd,lv,inc,v⟩) uM (dp 19 (cD.wr ⟨pc,la,⟨8,key,val,bI⟩,none,nd,lv,inc,v⟩)) []).map (lA C4 EG)=sq tI tN tL ⟨pc,la,⟨8,key,val,bI⟩,none,nd,lv,inc,v⟩ x:=by kernel_rfl
theorem ahd (σ:Sg) (pc:Int) (la:Cl) (key val bI:Int) (w:aQ) (nd:W) (lv inc v:Int) (x:cJ):(gJ σ DZ 193 bS (nD.enc x) (D8 ⟨pc,la,⟨8,key,val,bI⟩,some w,nd,lv,inc,v⟩) uM (dp 19 (cD.wr ⟨pc,la,⟨8,key,val,bI⟩,some w,nd,lv,inc,v⟩)) []).map (lA C4 EG)=sq tI tN tL ⟨pc,la,⟨8,key,val,bI⟩,some w,nd,lv,inc,v⟩ x:=by kernel_rfl
theorem vN {α:Type} {b:Bool} {t:T (Option α)} {x:α} (h:b=true) (h1:t.val=some (some x)):(tN b t).val=some (some x):=by subst h;exact h1
def aN (j:cD) (x:cJ):Cl×cD:=sq cond (fun _ t=>t) id j x
def Mr (j:cD):Bool:=match j.kY with
 | none=>decide (j.op.aj=6 \/ j.op.aj=7 \/ j.op.aj=8)
 | some c=>match tx c with | true=>decide (j.op.aj=6 \/ j.op.aj=7 \/ j.op.aj=8) | false=>false
theorem ahb:cE Tryz.prog (NV σ) 193 (bJ cL bS (fS nD C4 EG (fun j _=>some (Mr j)) aN)) :=
 lJ VZ rfl fun j x h=>by
  obtain⟨pc,la,⟨kd,key,val,bI⟩,w,nd,lv,inc,v⟩:=j;cases w with
  | none =>
    have h:kd=6 \/ kd=7 \/ kd=8:=aaF h;rcases h with rfl | rfl | rfl
    ·exact⟨uM,dp 19 (cD.wr ⟨pc,la,⟨6,key,val,bI⟩,none,nd,lv,inc,v⟩),rfl,nD.enc x,rfl,fun _=>rfl,by
      rw [ahi];unfold sq aN sq;dsimp only;simp only [if_true]
      repeat' first | apply vI | exact vL | (refine vN (mn _ _) ?_) | (refine vN rfl ?_)⟩
    ·exact⟨uM,dp 19 (cD.wr ⟨pc,la,⟨7,key,val,bI⟩,none,nd,lv,inc,v⟩),rfl,nD.enc x,rfl,fun _=>rfl,by
      rw [ahg];unfold sq aN sq;dsimp only;simp only [show ¬(7:Int)=6 by decide,if_false,if_true]
      repeat' first | apply vI | exact vL | (refine vN (mn _ _) ?_) | (refine vN rfl ?_)⟩
    ·exact⟨uM,dp 19 (cD.wr ⟨pc,la,⟨8,key,val,bI⟩,none,nd,lv,inc,v⟩),rfl,nD.enc x,rfl,fun _=>rfl,by
      rw [ahe];unfold sq aN sq;dsimp only;simp only [show ¬(8:Int)=6 by decide,if_false,show ¬(8:Int)=7 by decide]
      repeat' first | apply vI | exact vL | (refine vN (mn _ _) ?_) | (refine vN rfl ?_)⟩
  | some w =>
    have h:(match tx w with | true=>decide (kd=6 \/ kd=7 \/ kd=8) | false=>false)=true:=h;cases hw:tx w with
    | false=>rw [hw] at h;cases h
    | true =>
    rw [hw] at h;have h:kd=6 \/ kd=7 \/ kd=8:=aaF h;rcases h with rfl | rfl | rfl
    ·exact⟨uM,dp 19 (cD.wr ⟨pc,la,⟨6,key,val,bI⟩,some w,nd,lv,inc,v⟩),rfl,nD.enc x,rfl,fun _=>rfl,by
      rw [ahh];unfold sq aN sq;dsimp only;simp only [if_true]
      repeat' first | apply vI | exact vL | (refine vN (mn _ _) ?_) | (refine vN hw ?_) | (refine vN rfl ?_)⟩
    ·exact⟨uM,dp 19 (cD.wr ⟨pc,la,⟨7,key,val,bI⟩,some w,nd,lv,inc,v⟩),rfl,nD.enc x,rfl,fun _=>rfl,by
      rw [ahf];unfold sq aN sq;dsimp only;simp only [show ¬(7:Int)=6 by decide,if_false,if_true]
      repeat' first | apply vI | exact vL | (refine vN (mn _ _) ?_) | (refine vN hw ?_) | (refine vN rfl ?_)⟩
    ·exact⟨uM,dp 19 (cD.wr ⟨pc,la,⟨8,key,val,bI⟩,some w,nd,lv,inc,v⟩),rfl,nD.enc x,rfl,fun _=>rfl,by
      rw [ahd];unfold sq aN sq;dsimp only;simp only [show ¬(8:Int)=6 by decide,if_false,show ¬(8:Int)=7 by decide]
      repeat' first | apply vI | exact vL | (refine vN (mn _ _) ?_) | (refine vN hw ?_) | (refine vN rfl ?_)⟩
end
section
open Go Go.Sx Go.Proofs
variable {σ:Sg}
def vAd:n5 Ad where
 enc x:=.v (.agg [.it .i64 x.s,.it .i64 x.g,.it .i64 x.f])
 jm:=fun | .v (.agg [.it .i64 a,.it .i64 b,.it .i64 c])=>some ⟨a,b,c⟩ | _=>none
 ok:=fun v b h=>by split at h<;>cases h;rfl
def S7:n5 Int where
 enc n:=.v (.c (.it .i64 n))
 jm:=fun | .v (.c (.it .i64 n))=>some n | _=>none
 ok:=fun v b h=>by split at h<;>cases h;rfl
def vg (n:Int):Bool:=decide (0<=n /\ n < 24)
theorem amO (σ:Sg) (n:Int):(kG σ b9 52 bS (aI.enc n) []).map (qv vAd)=.ite (ll (decide (n < 0)) (decide (n>=24))) (.fail "load") (.aD (some ⟨0,0,IntKind.wrap .i64 (0+n)⟩)):=by kernel_rfl
theorem mD {m:Int} (h:-9223372036854775808<=m /\ m<=9223372036854775807):IntKind.wrap .i64 m=m:=by
 unfold IntKind.wrap;simp only [IntKind.bits,IntKind.signed];first | omega | (simp;omega)
theorem abK:cE Tryz.prog (NV σ) 52 (bJ cL bS (xx aI vAd (fun n=>some (vg n)) bc)) :=
 wT bp rfl fun n h=>⟨aI.enc n,rfl,fun _=>rfl,by
  have h:0<=n /\ n < 24:=aaF h;have e:ll (decide (n < 0)) (decide (n>=24))=false:=by rw [aaK (show ¬n < 0 by omega),aaK (show ¬n>=24 by omega)];rfl
  rw [amO,e];show some (some (⟨0,0,_⟩:Ad))=_;rw [mD (by omega:-9223372036854775808<=0+n /\ 0+n<=9223372036854775807),Int.zero_add];rfl⟩
def dW (c:Int):Int:=if c=0 then 0 else if c=1 then 256 else if c=2 then 128 else if c=3 then 384 else if c=4 then 64 else if c=5 then 320 else if c=6 then 192 else 448
def TD (n:Nat):Nat:=n % 2 * 128+n / 2 % 2 * 64+n / 4 % 2 * 32+n / 8 % 2 * 16+n / 16 % 2 * 8+n / 32 % 2 * 4+n / 64 % 2 * 2+n / 128 % 2
def jc (k:Int):Int:=2 * (TD k.toNat:Int)+1
def A8 (c:Int):Bool:=decide (0<=c /\ c < 8)
def ED (k:Int):Bool:=decide (0<=k /\ k < 256)
def RR (t:T (Option Int)) (n:Int):Bool:=match t with | .aD (some m)=>decide (m=n) | _=>false
theorem Fh {t:T (Option Int)} {n:Int} (h:RR t n=true):t.val=some (some n):=by
 unfold RR at h;split at h
 ·rw [aaF h];rfl
 ·cases h
def Qy (p:Nat->Bool):Nat->Bool
 | 0=>true
 | k+1=>match p k with | true=>Qy p k | false=>false
theorem tc {p:Nat->Bool}:∀{n:Nat},Qy p n=true->∀k,k < n->p k=true
 | 0,_,k,h=>by omega
 | n+1,h,k,hk=>by
   simp only [Qy] at h;split at h
   ·rename_i hn;rcases Nat.lt_succ_iff_lt_or_eq.1 hk with hk | rfl
    ·exact tc h k hk
    ·exact hn
   ·cases h
theorem aec (σ:Sg):Qy (fun k=>RR ((kG σ b9 187 bS [.v (.c (.il .i64 (Int.ofNat k)))] []).map (qv S7)) (dW (Int.ofNat k))) 8=true:=by kernel_rfl
theorem ahO (σ:Sg):Qy (fun k=>RR ((kG σ b9 188 bS [.v (.c (.il .i64 (Int.ofNat k)))] []).map (qv S7)) (jc (Int.ofNat k))) 256=true:=by kernel_rfl
theorem aea:cE Tryz.prog (NV σ) 187 (bJ cL bS (xx aI S7 (fun n=>some (A8 n)) dW)) :=
 wT bp rfl fun n h=>by have h:0<=n /\ n < 8:=aaF h;obtain⟨k,rfl⟩:∃k:Nat,n=Int.ofNat k:=⟨n.toNat,by simp;omega⟩;exact⟨[.v (.c (.il .i64 (Int.ofNat k)))],rfl,fun _=>rfl,Fh (tc (aec σ) k (by have:=h.2;simp at this;omega))⟩
theorem ahN:cE Tryz.prog (NV σ) 188 (bJ cL bS (xx aI S7 (fun n=>some (ED n)) jc)) :=
 wT bp rfl fun n h=>by have h:0<=n /\ n < 256:=aaF h;obtain⟨k,rfl⟩:∃k:Nat,n=Int.ofNat k:=⟨n.toNat,by simp;omega⟩;exact⟨[.v (.c (.il .i64 (Int.ofNat k)))],rfl,fun _=>rfl,Fh (tc (ahO σ) k (by have:=h.2;simp at this;omega))⟩
def agu:mh (Ad×Int×O) where
 enc x:=[.v (.agg [.it .i64 x.1.s,.it .i64 x.1.g,.it .i64 x.1.f]),.v (.c (.it .i64 x.2.1)),.v (.agg x.2.2.enc)]
 jm:=fun | [.v (.agg [c0,c1,c2]),.v (.c c3),.v (.agg [c4,c5,c6,c7])]=>(match kL c0,kL c1,kL c2,kL c3,kL c4,kL c5,kL c6,kL c7 with | some a,some b,some c,some n,some k,some e,some v,some t=>some (⟨a,b,c⟩,n,⟨k,e,v,t⟩) | _,_,_,_,_,_,_,_=>none) | _=>none
 ok:=fun l a h ρ=>by
  split at h
  ·split at h
   ·rename_i h0 h1 h2 h3 h4 h5 h6 h7;cases h;simp only [aaU,afm,SV.ay,V1.ay,aF,O.enc,b6 h0 ρ,b6 h1 ρ,b6 h2 ρ,b6 h3 ρ,b6 h4 ρ,b6 h5 ρ,b6 h6 ρ,b6 h7 ρ];rfl
   ·cases h
  ·cases h
 free:=fun _=>rfl
def jO (x:Ad×Int×O):cU:=⟨0,bf,x.1,x.2.1,x.2.2,none,aq,0⟩
def J6 (o:O):Bool:=decide (o.aj=6 \/ o.aj=7 \/ o.aj=8)
theorem ao8 (σ:Sg) (k:Nat) (a:Ad) (n e v t:Int):k=6 \/ k=7 \/ k=8->(kG σ b9 68 bS [.v (.agg [.it .i64 a.s,.it .i64 a.g,.it .i64 a.f]),.v (.c (.it .i64 n)),.v (.agg [.il .i64 (Int.ofNat k),.it .i64 e,.it .i64 v,.it .i64 t])] []).map (UJ EH)=tL (jO (a,n,⟨Int.ofNat k,e,v,t⟩)):=by
 rintro (rfl | rfl | rfl)
 ·kernel_rfl
 ·kernel_rfl
 ·kernel_rfl
theorem adq:cE Tryz.prog (NV σ) 68 (bJ cL bS (Mx agu EH (fun x=>some (J6 x.2.2)) jO)) :=
 J9 bp rfl fun x h=>by
  obtain⟨a,n,⟨k,e,v,t⟩⟩:=x;have h:k=6 \/ k=7 \/ k=8:=aaF h;obtain⟨i,rfl,hi⟩:∃i:Nat,k=Int.ofNat i /\ (i=6 \/ i=7 \/ i=8):=by
   rcases h with rfl | rfl | rfl
   ·exact⟨6,rfl,by decide⟩
   ·exact⟨7,rfl,by decide⟩
   ·exact⟨8,rfl,by decide⟩
  exact⟨[.v (.agg [.it .i64 a.s,.it .i64 a.g,.it .i64 a.f]),.v (.c (.it .i64 n)),.v (.agg [.il .i64 (Int.ofNat i),.it .i64 e,.it .i64 v,.it .i64 t])],rfl,fun _=>rfl,by rw [ao8 σ i a n e v t hi];rfl⟩
def VS:m7:=br 52 (bJ cL bS (xx aI vAd (fun n=>some (vg n)) bc)) (br 187 (bJ cL bS (xx aI S7 (fun n=>some (A8 n)) dW)) (br 188 (bJ cL bS (xx aI S7 (fun n=>some (ED n)) jc))
 (br 68 (bJ cL bS (Mx agu EH (fun x=>some (J6 x.2.2)) jO)) (br 152 (bJ cL bS (oL nD C4 EH (fun _ _=>none) ct bf)) Lw))))
theorem VR:dH Tryz.prog (NV σ) VS:=aH abK (aH aea (aH ahN (aH adq (aH Yn Lv))))
@[reducible] def Pu:xp ca:=⟨JE,S5,fun _ _=>JD,fun _=>rfl⟩
end
section
open Go Go.Sx Go.Proofs
variable {σ:Sg}
def rI (b:Int):Int:=if b=3 then 1 else if b=5 then 1 else if b=6 then 2 else if b=7 then 3 else 0
def uF (n:Int):Int:=match n==2 with
 | true=>(match n==2 with | true=>n | false=>1)
 | false=>match n==4 with
   | true=>(match n==4 with | true=>n | false=>1)
   | false=>match n==8 with | true=>n | false=>1
def kE:Nat->Int->Int->Int
 | 0,c,_=>c
 | k+1,c,b=>if rI c=b then c else kE k (rI c) b
def VG {β:Type} (I:Bool->β->β->β) (N:Bool->β->β) (L:Cl×ca->β) (j:ca) (x:cJ):β :=
 let ask (n:Int) (c:Cl) (j:ca):β:=L (c,{j with pc:=n});let done (a:An) (j:ca):β:=L (⟨12,iC,aq,aq,0,0,a⟩,{j with pc:=-1,last:=⟨12,iC,aq,aq,0,0,a⟩});let root (n:Int) (k:Ad->β):β:=N (vg n) (k (bc n));let L7 (b:Int) (k:Ad->β):β:=root (eZ 8 b) k;let agc (c:Cl) (j:ca):β:=I (c.aj != 12) (L (c,j)) (I (ll (c.qB.mZ != 1) (j.op.aj==8)) (done c.qB {j with answer:=c.qB}) (root 17 fun a=>ask 12 (bC a) {j with answer:=c.qB}));let O8 (x:cJ) (j:ca):β:=match j.inner with
  | none=>agc bf j
  | some l=>agc (ct l x).1 {j with inner:=some (ct l x).2}
 let perform (j:ca):β:=N (ED j.op.key) (N (J6 j.op) (O8 ⟨aq,false⟩ {j with inner:=some (jO (az j.base 2,jc j.op.key,j.op)),pc:=11}));let descend (j:ca):β:=if j.bucket=j.wanted then perform j else ask 3 kP {j with child:=kE 4 j.wanted j.bucket}
 let place (j:ca):Ad×W×W:=match j.walk with | none=>(iC,aq,aq) | some w=>(w.prev,w.cur,w.next)
 let found (j:ca):Bool:=match j.walk with | none=>false | some w=>w.found
 let aeI (j:ca):β :=
  let k (j:ca):β:=I (found j) (ask 6 (qz j.node) {j with sentinel:=dB (place j).2.1}) (ask 7 (cW (az j.node 2) (dB (place j).2.1)) j)
  match j.walk with
  | none=>I false (L (bf,j)) (k j)
  | some w=>I (bh w x).1.2 (L ((bh w x).1.1,{j with walk:=some (bh w x).2})) (k {j with walk:=some (bh w x).2})
 let uB (j:ca):β:=N (A8 j.child) (aeI {j with walk:=some (iD (az j.base 2,dW j.child)),pc:=5})
 if j.pc=0 then root 16 fun a=>ask 1 (bC a) j
 else if j.pc=1 then
  N (uF x.w.bU != 0) (L7 (Int.tmod j.op.key (uF x.w.bU)) fun a=>ask 2 (bC a) {j with size:=uF x.w.bU,wanted:=Int.tmod j.op.key (uF x.w.bU),bucket:=Int.tmod j.op.key (uF x.w.bU)})
 else if j.pc=2 then
  I (!(x.w.ae==0)) (descend {j with base:=x.w}) (if j.bucket=0 then done ⟨4,0⟩ j else L7 (rI j.bucket) fun a=>ask 2 (bC a) {j with bucket:=rI j.bucket})
 else if j.pc=11 then O8 x j
 else if j.pc=12 then I (j.op.aj==7) (root 17 fun a=>ask 13 (cr a x.w (fH x.w (-1))) {j with count:=x.w}) (root 17 fun a=>ask 13 (cr a x.w (fH x.w 1)) {j with count:=x.w})
 else if j.pc=13 then I (!x.ok) (root 17 fun a=>ask 12 (bC a) j) (I (ll (j.op.aj==7) (ll (j.size==8) (decide (j.count.bU < IntKind.wrap .i64 (2 * j.size))))) (done j.answer j) (root 16 fun a=>ask 14 (bC a) j))
 else if j.pc=14 then I (x.w.bU==j.size) (root 16 fun a=>ask 15 (cr a x.w (fH x.w j.size)) j) (done j.answer j)
 else if j.pc=15 then done j.answer j
 else if j.pc=-1 then L (j.last,j)
 else if j.pc=3 then I (!x.ok) (perform j) (N (A8 j.child) (ask 4 (cW (az x.w 0) (dZ (dW j.child))) {j with node:=x.w}))
 else if j.pc=8 then I x.ok (L7 j.child fun a=>ask 9 (bC a) {j with sentinel:=j.node}) (uB j)
 else if j.pc=4 then uB j
 else if j.pc=5 then aeI j
 else if j.pc=7 then ask 8 (cr (place j).1 (place j).2.1 (iV (place j).2.1 j.node)) j
 else if j.pc=6 then L7 j.child fun a=>ask 9 (bC a) j
 else if j.pc=9 then I (x.w.ae==0) (L7 j.child fun a=>ask 10 (cr a x.w (iV x.w j.sentinel)) j) (descend {j with base:=j.sentinel,bucket:=j.child})
 else if j.pc=10 then descend {j with base:=j.sentinel,bucket:=j.child}
 else L (j.last,j)
def amN (σ:Sg) (ks:List Nat) (j:ca) (x:cJ):T (Option (Cl×ca)):=(gJ σ VS 174 bS (nD.enc x) (JE j) LC (ks.foldl (fun g k=>dp k g) (ca.wr j)) []).map (lA C4 Pu)
def U6 (σ:Sg) (j:ca) (x:cJ):Prop:=∃gs,o9 σ (JE j)=some (gk AV.len LC (jl gs)) /\ (gJ σ VS 174 bS (nD.enc x) (JE j) LC gs []).map (lA C4 Pu)=VG tI tN tL j x
end
section
open Go Go.Sx Go.Proofs
variable {σ:Sg}
def Iw:Int->List Int->Bool
 | _,[]=>false
 | n,m::r=>ll (decide (n=m)) (Iw n r)
theorem tO {n:Int}:∀{l:List Int},Iw n l=true->n∈l
 | [],h=>by cases h
 | m::r,h=>by
   unfold Iw ll at h;cases hd:decide (n=m) with
   | true=>rw [aaF hd];exact aaV
   | false=>rw [hd] at h;exact aaW _ (tO h)
def ahL:List Int:=[0,1,3,4,5,6,7,8,11,12,13,14,15,-1]
def jW (wanted bucket:Int):Bool :=
 ll (gU (decide (wanted=0)) (Iw bucket [0])) (
 ll (gU (decide (wanted=1)) (Iw bucket [1,0])) (
 ll (gU (decide (wanted=2)) (Iw bucket [2,0])) (
 ll (gU (decide (wanted=3)) (Iw bucket [3,1,0])) (
 ll (gU (decide (wanted=4)) (Iw bucket [4,0])) (
 ll (gU (decide (wanted=5)) (Iw bucket [5,1,0])) (
 ll (gU (decide (wanted=6)) (Iw bucket [6,2,0])) (
 ll (gU (decide (wanted=7)) (Iw bucket [7,3,1,0])) (
 false))))))))
def xt (wanted child:Int):Bool :=
 ll (gU (decide (wanted=1)) (Iw child [1])) (
 ll (gU (decide (wanted=2)) (Iw child [2])) (
 ll (gU (decide (wanted=3)) (Iw child [3,1])) (
 ll (gU (decide (wanted=4)) (Iw child [4])) (
 ll (gU (decide (wanted=5)) (Iw child [5,1])) (
 ll (gU (decide (wanted=6)) (Iw child [6,2])) (
 ll (gU (decide (wanted=7)) (Iw child [7,3,1])) (
 false)))))))
def TX (j:ca):Bool :=
 gU (ED j.op.key) (gU (J6 j.op) (gU (A8 j.child) (ll (Iw j.pc ahL) (ll (gU (decide (j.pc=2)) (jW j.wanted j.bucket)) (gU (ll (decide (j.pc=9)) (decide (j.pc=10))) (xt j.wanted j.child))))))
theorem Cf {a b:Bool} (h:ll a b=true):a=true \/ b=true:=by unfold ll at h;cases a<;>simp_all
theorem nZ {a b:Bool} (h:gU a b=true):a=true /\ b=true:=by unfold gU at h;cases a<;>simp_all
theorem vaK {j:ca} {x:cJ} (ks:List Nat) (h1:o9 σ (JE j)=some (gk AV.len LC (jl (ks.foldl (fun g k=>dp k g) (ca.wr j))))) (h2:amN σ ks j x=VG tI tN tL j x):U6 σ j x:=⟨_,h1,h2⟩
theorem vaA (σ:Sg) (j:ca) (x:cJ) (h:Iw j.pc ahL=true):U6 σ j x:=by have h:=tO h;obtain⟨pc,last,op,size,wanted,bucket,child,base,node,sentinel,walk,inner,answer,count⟩:=j;simp only [ahL,aaO,aaR,or_false] at h;rcases h with rfl | rfl | rfl | rfl | rfl | rfl | rfl | rfl | rfl | rfl | rfl | rfl | rfl | rfl<;>cases walk<;>cases inner<;>exact vaK [0] (by as_aux_lemma=>kernel_rfl) (by as_aux_lemma=>kernel_rfl)
theorem vaB (σ:Sg) (j:ca) (x:cJ) (hp:j.pc=2) (h:jW j.wanted j.bucket=true):U6 σ j x:=by
 obtain⟨pc,last,op,size,wanted,bucket,child,base,node,sentinel,walk,inner,answer,count⟩:=j;dsimp only at h hp;subst hp;unfold jW at h;repeat (rcases Cf h with h | h;· (obtain⟨hw,h⟩:=nZ h;have hw:=aaF hw;subst hw;have h:=tO h;simp only [aaO,aaR,or_false] at h;(repeat' (rcases (h:_ \/ _) with h | h))<;>subst h<;>cases walk<;>cases inner<;>exact vaK [0,24,25] (by as_aux_lemma=>kernel_rfl) (by as_aux_lemma=>kernel_rfl)))
 cases h
theorem aro (σ:Sg) (j:ca) (x:cJ) (hj:j.pc=9) (h:xt j.wanted j.child=true):U6 σ j x:=by
 obtain⟨pc,last,op,size,wanted,bucket,child,base,node,sentinel,walk,inner,answer,count⟩:=j;dsimp only at h hj;subst hj;unfold xt at h;repeat (rcases Cf h with h | h;· (obtain⟨hw,h⟩:=nZ h;have hw:=aaF hw;subst hw;have h:=tO h;simp only [aaO,aaR,or_false] at h;(repeat' (rcases (h:_ \/ _) with h | h))<;>subst h<;>cases walk<;>cases inner<;>exact vaK [0,24,26] (by as_aux_lemma=>kernel_rfl) (by as_aux_lemma=>kernel_rfl)))
 cases h
theorem alk (σ:Sg) (j:ca) (x:cJ) (hj:j.pc=10) (h:xt j.wanted j.child=true):U6 σ j x:=by
 obtain⟨pc,last,op,size,wanted,bucket,child,base,node,sentinel,walk,inner,answer,count⟩:=j;dsimp only at h hj;subst hj;unfold xt at h;repeat (rcases Cf h with h | h;· (obtain⟨hw,h⟩:=nZ h;have hw:=aaF hw;subst hw;have h:=tO h;simp only [aaO,aaR,or_false] at h;(repeat' (rcases (h:_ \/ _) with h | h))<;>subst h<;>cases walk<;>cases inner<;>exact vaK [0,24,26] (by as_aux_lemma=>kernel_rfl) (by as_aux_lemma=>kernel_rfl)))
 cases h
theorem agR (σ:Sg) (j:ca) (x:cJ) (h:TX j=true):U6 σ j x:=by
 obtain⟨_,h⟩:=nZ h;obtain⟨_,h⟩:=nZ h;obtain⟨_,h⟩:=nZ h;rcases Cf h with h | h
 ·exact vaA σ j x h
 ·rcases Cf h with h | h
  ·obtain⟨hp,h⟩:=nZ h;exact vaB σ j x (aaF hp) h
  ·obtain⟨hp,h⟩:=nZ h;rcases Cf hp with hp | hp
   ·exact aro σ j x (aaF hp) h
   ·exact alk σ j x (aaF hp) h
theorem vIf {α:Type} {c:Prop} [Decidable c] {t e:T (Option α)} {x y:α} (h1:c->t.val=some (some x)) (h2:¬c->e.val=some (some y)):(if c then t else e).val=some (some (if c then x else y)):=by
 split
 ·exact h1 ‹_›
 ·exact h2 ‹_›
theorem rZ (n:Int):uF n=1 \/ uF n=2 \/ uF n=4 \/ uF n=8:=by
 unfold uF;cases h2:n==2 with
 | true=>have h2:=eq_of_beq h2;subst h2;exact .inr (.inl rfl)
 | false =>
   cases h4:n==4 with
   | true=>have h4:=eq_of_beq h4;subst h4;exact .inr (.inr (.inl rfl))
   | false =>
     cases h8:n==8 with
     | true=>have h8:=eq_of_beq h8;subst h8;exact .inr (.inr (.inr rfl))
     | false=>exact .inl rfl
theorem al8 (n:Int):(uF n != 0)=true:=by rcases rZ n with h | h | h | h<;>rw [h]<;>rfl
theorem Rv {n:Int} (h0:0<=n) (h1:n < 8):vg (eZ 8 n)=true:=by unfold vg eZ;rw [mD (by omega)];exact aaC (by omega)
theorem acd {k:Int} (n:Int) (h:ED k=true):vg (eZ 8 (Int.tmod k (uF n)))=true:=by have h:0<=k /\ k < 256:=aaF h;have h1:0<=Int.tmod k (uF n):=Int.tmod_nonneg _ h.1;have h2:Int.tmod k (uF n) < uF n:=Int.tmod_lt_of_pos k (by rcases rZ n with h | h | h | h<;>omega);exact Rv h1 (by rcases rZ n with h | h | h | h<;>omega)
theorem acb (b:Int):vg (eZ 8 (rI b))=true:=by
 unfold rI;split
 ·rfl
 split
 ·rfl
 split
 ·rfl
 split<;>rfl
theorem ace {c:Int} (h:A8 c=true):vg (eZ 8 c)=true:=by have h:0<=c /\ c < 8:=aaF h;exact Rv h.1 h.2
theorem Vx {wanted child:Int} (h:xt wanted child=true):0<=wanted /\ wanted < 8 /\ 0<=child /\ child < 8:=by
 unfold xt at h;repeat (rcases Cf h with h | h;· (obtain⟨hw,h⟩:=nZ h;have hw:=aaF hw;have h:=tO h;simp only [aaO,aaR,or_false] at h;omega))
 cases h
theorem mF {wanted bucket:Int} (h:jW wanted bucket=true):0<=wanted /\ wanted < 8 /\ 0<=bucket /\ bucket < 8:=by
 unfold jW at h;repeat (rcases Cf h with h | h;· (obtain⟨hw,h⟩:=nZ h;have hw:=aaF hw;have h:=tO h;simp only [aaO,aaR,or_false] at h;omega))
 cases h
def bn (j:ca) (x:cJ):Cl×ca:=VG cond (fun _ t=>t) id j x
set_option maxHeartbeats 4000000 in
theorem aba (j:ca) (x:cJ) (h:TX j=true):(VG tI tN tL j x).val=some (some (bn j x)):=by
 obtain⟨h1,h⟩:=nZ h;obtain⟨h2,h⟩:=nZ h;obtain⟨h3,h⟩:=nZ h;obtain⟨pc,last,op,size,wanted,bucket,child,base,node,sentinel,walk,inner,answer,count⟩:=j;unfold bn VG
 cases walk<;>cases inner<;>dsimp only at h1 h2 h3 ⊢ <;>
  repeat' first | (with_reducible exact vL) | (with_reducible apply vI) | (with_reducible refine vIf (fun _=>?_) (fun _=>?_)) | (with_reducible refine vN h1 ?_) | (with_reducible refine vN h2 ?_) | (with_reducible refine vN h3 ?_) | (with_reducible refine vN (al8 _) ?_) | (with_reducible refine vN (acd _ h1) ?_) | (with_reducible refine vN (acb _) ?_) | (with_reducible refine vN (ace h3) ?_) | (refine vN (by decide) ?_)
theorem agJ:cE Tryz.prog (NV σ) 174 (bJ cL bS (fS nD C4 Pu (fun j _=>some (TX j)) bn)) :=
 lJ VR rfl fun j x h=>by obtain⟨gs,e1,e2⟩:=agR σ j x h;exact⟨LC,gs,e1,nD.enc x,rfl,fun _=>rfl,by rw [e2];exact aba j x h⟩
end
section
open Go Go.Sx Go.Proofs
def gV (n:Int) (w:W):Prop:=0<=w.ae /\ w.ae<=n /\ (w.ae=0->w.gen=0)
def Ay (n:Int) (a:Ad):Prop:=(a.s=0 /\ a.g=0 /\ 0<=a.f /\ a.f < 85) \/ (1<=a.s /\ a.s<=n /\ 0<=a.f /\ a.f < 10)
def Dm (i j:Int):Prop:=(i=1 /\ j=0) \/ (i=2 /\ j=1) \/ (i=4 /\ j=3) \/ (i=5 /\ j=4) \/ (i=7 /\ j=6) \/ (i=8 /\ j=7) \/ (i=2 /\ j=5) \/ (i=5 /\ j=8)
def ug (n:Int) (c:Cl):Prop:=gV n c.dy /\ gV n c.new /\ (((c.aj=3 \/ c.aj=4 \/ c.aj=5) /\ Ay n c.dh) \/ (c.aj=6 /\ Ay n c.dh /\ 0<=c.i /\ c.i < 9 /\ c.j=0) \/ (c.aj=7 /\ Dm c.i c.j) \/ c.aj=8 \/ ((c.aj=9 \/ c.aj=10) /\ 1<=c.dy.ae))
def GO (c:Cl):Prop:=c.aj=7 \/ c.aj=10
section
variable {n:Int}
theorem aU (h:0<=n):gV n aq:=⟨adi _,h,fun _=>rfl⟩
theorem iy (h:0<=n) (k:Int):gV n (dZ k):=⟨adi _,h,fun _=>rfl⟩
theorem cK {w:W} (h:gV n w):gV n (dB w):=h
theorem eK {w r:W} (h:gV n r):gV n (iV w r):=h
theorem l7 {w:W} (h:gV n w):gV n (n6 w):=h
theorem rX (h:0<=n) {w:W} {k:Int}:gV n (fH w k):=⟨adi _,h,fun _=>rfl⟩
theorem aM {w:W} (h:gV n w) {f:Int} (h0:0<=f) (h1:f < 10):Ay n (az w f):=by
 obtain⟨a,b,c⟩:=h;by_cases e:w.ae=0
 ·exact .inl ⟨e,c e,h0,by show f < 85;omega⟩
 ·exact .inr ⟨by show 1<=w.ae;omega,b,h0,h1⟩
theorem gd {k:Int} (h0:0<=k) (h1:k < 85):Ay n (bc k):=.inl ⟨rfl,rfl,h0,h1⟩
theorem bH (h:0<=n) {a:Ad} (ha:Ay n a):ug n (bC a):=⟨aU h,aU h,.inl ⟨.inl rfl,ha⟩⟩
theorem bB (h:0<=n) {a:Ad} {w:W} (ha:Ay n a) (hw:gV n w):ug n (cW a w):=⟨aU h,hw,.inl ⟨.inr (.inl rfl),ha⟩⟩
theorem bQ {a:Ad} {o w:W} (ha:Ay n a) (ho:gV n o) (hw:gV n w):ug n (cr a o w):=⟨ho,hw,.inl ⟨.inr (.inr rfl),ha⟩⟩
theorem gm (h:0<=n) {a:Ad} {i:Int} (ha:Ay n a) (h0:0<=i) (h1:i < 9):ug n (bL a i):=⟨aU h,aU h,.inr (.inl ⟨rfl,ha,h0,h1,rfl⟩)⟩
theorem Je (h:0<=n) {i j:Int} (hp:Dm i j):ug n (pj i j):=⟨aU h,aU h,.inr (.inr (.inl ⟨rfl,hp⟩))⟩
theorem iJ (h:0<=n):ug n kP:=⟨aU h,aU h,.inr (.inr (.inr (.inl rfl)))⟩
theorem my (h:0<=n) {w:W} (hw:gV n w) (h1:1<=w.ae):ug n (qz w):=⟨hw,aU h,.inr (.inr (.inr (.inr ⟨.inl rfl,h1⟩)))⟩
theorem jo (h:0<=n) {w:W} (hw:gV n w) (h1:1<=w.ae):ug n (kD w):=⟨hw,aU h,.inr (.inr (.inr (.inr ⟨.inr rfl,h1⟩)))⟩
end
def Res (n:Int) (c:Cl):Prop:=c.aj=12 \/ ug n c
def hdW (c:Cl):Prop:=(c.aj=4 \/ c.aj=5)->c.dh.s=0->c.dh.f=0->1<=c.new.ae
theorem ID {c:Cl} {k:Int} (e:c.aj=k) (h4:k≠4) (h5:k≠5):hdW c:=fun h _ _=>by
 rcases h with h | h
 ·exact absurd (e.symm.trans h) h4
 ·exact absurd (e.symm.trans h) h5
theorem af5 {c:Cl} {k:Int} (e:c.dh.f=k) (h:k≠0):hdW c:=fun _ _ h2=>absurd (e.symm.trans h2) h
structure wh (n:Int) (hd:Bool) (c:Cl) (x:cJ):Prop where
 w:gV n x.w
 al:c.aj=8->x.ok=true->1<=x.w.ae
 hd:hd=true->c.aj=6->c.dh.s=0->c.dh.f=0->1<=x.w.ae
structure GI (n:Int) (c:Cl) (ok aw:Prop) (r0 r1:Nat):Prop where
 Rk:Res n c
 wf:ok
 rk:GO c->r1 < r0
 aw:aw
theorem jP {c:Cl} {k:Int} (e:c.aj=k) (h7:k≠7) (h10:k≠10):¬GO c:=fun h=>by
 rcases h with h | h
 ·exact h7 (e.symm.trans h)
 ·exact h10 (e.symm.trans h)
theorem fy {a:Ad}:¬GO (bC a):=jP (k:=3) rfl (by decide) (by decide)
theorem iq {a:Ad} {w:W}:¬GO (cW a w):=jP (k:=4) rfl (by decide) (by decide)
theorem gO {a:Ad} {v w:W}:¬GO (cr a v w):=jP (k:=5) rfl (by decide) (by decide)
theorem oS {a:Ad} {i:Int}:¬GO (bL a i):=jP (k:=6) rfl (by decide) (by decide)
theorem jL:¬GO kP:=jP (k:=8) rfl (by decide) (by decide)
theorem lN {w:W}:¬GO (qz w):=jP (k:=9) rfl (by decide) (by decide)
theorem mV {a b:Int}:¬GO (jS a b):=jP (k:=12) rfl (by decide) (by decide)
theorem gW {α:Type} {P:α->Prop} {b:Bool} {t e:α} (h1:b=true->P t) (h2:b=false->P e):P (cond b t e):=by
 cases b
 ·exact h2 rfl
 ·exact h1 rfl
theorem Sm {a b:Int} (h:(a==b)=true):a=b:=aaF h
theorem RC {a b:Int} (h:(a==b)=false):a≠b:=aaL h
structure dz.WF (n:Int) (j:dz):Prop where
 kd:j.op.aj=1 \/ j.op.aj=2 \/ j.op.aj=3
 pc:j.pc=-1 \/ j.pc=0 \/ j.pc=1 \/ j.pc=2 \/ j.pc=3 \/ j.pc=4 \/ j.pc=5
 last:j.pc=-1->j.last.aj=12
 node:gV n j.node
 top:gV n j.top
 nz:j.op.aj≠1->(j.pc=2 \/ j.pc=3 \/ j.pc=4)->1<=j.top.ae
def dz.rk (j:dz):Nat:=if j.pc=4 then 1 else 0
def ap9 (n:Int) (r0:Nat) (r:Cl×dz):Prop:=GI n r.1 (r.2.WF n) True r0 r.2.rk
theorem ab1 {n:Int} (h0:0<=n) {j:dz} (h:j.WF n) {x:cJ} (hx:gV n x.w):ap9 n j.rk (oJ j x):=by
 obtain⟨pc,last,⟨kd,key,val,bI⟩,node,top,v⟩:=j;obtain⟨hk,hp,hl,hn,ht,hz⟩:=h;dsimp only at hk hp hl hn ht hz;have nx:0<=x.w.ae:=hx.1;unfold oJ HN;dsimp only [id]
 rcases hk with rfl | rfl | rfl<;>rcases hp with rfl | rfl | rfl | rfl | rfl | rfl | rfl <;>
  (repeat' (refine gW (fun hb=>?_) (fun hb=>?_)<;>first | (exact absurd hb (by decide)) | skip)) <;>
  (refine⟨?_,⟨?_,?_,?_,?_,?_,?_⟩,?_,trivial⟩)
 all_goals dsimp only [dz.rk]
 all_goals first
  | exact .inl rfl
  | exact .inl (hl rfl)
  | exact .inr (iJ h0)
  | exact .inr (bH h0 (gd (by decide) (by decide)))
  | exact .inr (gm h0 (gd (by decide) (by decide)) (by decide) (by decide))
  | exact .inr (gm h0 (aM (by assumption) (by decide) (by decide)) (by decide) (by decide))
  | exact .inr (bH h0 (aM (by assumption) (by decide) (by decide)))
  | exact .inr (bB h0 (aM (by assumption) (by decide) (by decide)) (iy h0 _))
  | exact .inr (bB h0 (aM (by assumption) (by decide) (by decide)) (cK hx))
  | exact .inr (bQ (gd (by decide) (by decide)) (by assumption) (eK (by assumption)))
  | exact .inr (bQ (aM (by assumption) (by decide) (by decide)) (by assumption) (eK (by assumption)))
  | exact .inr (jo h0 (by assumption) (hz (by decide) (by decide)))
  | assumption
  | exact fun _=>rfl
  | (intro h;first | exact absurd h (by decide) | exact absurd h fy | exact absurd h iq | exact absurd h gO | exact absurd h oS | exact absurd h jL | exact absurd h lN | exact absurd h mV | exact absurd h (jP (hl rfl) (by decide) (by decide)))
  | (intro h1 h2;first | (exact absurd rfl h1) | (exact absurd h1 (by decide)) | (exact absurd h2 (by decide)) | exact hz h1 (by decide) | (have:=RC (by assumption:(x.w.ae==0)=false);omega))
  | (intro _;simp)
  | decide
structure dj.WF (n:Int) (j:dj):Prop where
 kd:j.op.aj=4 \/ j.op.aj=5
 pc:j.pc=-1 \/ j.pc=0 \/ j.pc=1 \/ j.pc=2 \/ j.pc=3 \/ j.pc=4 \/ j.pc=5 \/ j.pc=6 \/ j.pc=7 \/ j.pc=8
 last:j.pc=-1->j.last.aj=12
 node:gV n j.node
 h:gV n j.h
 t:gV n j.t
 n:gV n j.n
 hz:j.op.aj≠4->(j.pc=2 \/ j.pc=3 \/ j.pc=4 \/ j.pc=6 \/ j.pc=7)->1<=j.h.ae
 nz:j.op.aj≠4->(j.pc=6 \/ j.pc=7)->1<=j.n.ae
def dj.aw (c:Cl) (j:dj):Prop:=j.op.aj≠4->j.pc=1->c.aj=6 /\ c.dh=bc 0
def dj.rk (j:dj):Nat:=if j.pc=7 then 1 else 0
def aqa (n:Int) (r0:Nat) (r:Cl×dj):Prop:=GI n r.1 (r.2.WF n) (r.2.aw r.1 /\ hdW r.1) r0 r.2.rk
theorem adW {n:Int} (h0:0<=n) {j:dj} (h:j.WF n) {c:Cl} (ha:j.aw c) {x:cJ} (hr:wh n true c x):aqa n j.rk (mY j x):=by
 obtain⟨pc,last,⟨kd,key,val,bI⟩,node,hh,tt,nn,v⟩:=j;obtain⟨hk,hp,hl,hn,h1,h2,h3,hz,nz⟩:=h;dsimp only [dj.aw] at hk hp hl hn h1 h2 h3 hz nz ha;have hx:gV n x.w:=hr.w;have nx:0<=x.w.ae:=hx.1;have nn0:0<=nn.ae:=h3.1;unfold mY FZ;dsimp only [id]
 rcases hk with rfl | rfl<;>rcases hp with rfl | rfl | rfl | rfl | rfl | rfl | rfl | rfl | rfl | rfl <;>
  (repeat' (refine gW (fun hb=>?_) (fun hb=>?_)<;>first | (exact absurd hb (by decide)) | skip)) <;>
  (refine⟨?_,⟨?_,?_,?_,?_,?_,?_,?_,?_,?_⟩,?_,⟨?_,?_⟩⟩)
 all_goals dsimp only [dj.rk,dj.aw]
 all_goals first
  | exact .inl rfl
  | exact .inl (hl rfl)
  | exact .inr (iJ h0)
  | exact .inr (bH h0 (gd (by decide) (by decide)))
  | exact .inr (gm h0 (gd (by decide) (by decide)) (by decide) (by decide))
  | exact .inr (gm h0 (aM (by assumption) (by decide) (by decide)) (by decide) (by decide))
  | exact .inr (bH h0 (aM (by assumption) (by decide) (by decide)))
  | exact .inr (bB h0 (aM (by assumption) (by decide) (by decide)) (iy h0 _))
  | exact .inr (bB h0 (aM (by assumption) (by decide) (by decide)) (cK hx))
  | exact .inr (bQ (gd (by decide) (by decide)) (by assumption) (eK (by assumption)))
  | exact .inr (bQ (aM (by assumption) (by decide) (by decide)) (by assumption) (eK (by assumption)))
  | exact .inr (jo h0 (by assumption) (hz (by decide) (by decide)))
  | assumption
  | exact fun _=>rfl
  | (intro h;first | exact absurd h (by decide) | exact absurd h fy | exact absurd h iq | exact absurd h gO | exact absurd h oS | exact absurd h jL | exact absurd h lN | exact absurd h mV | exact absurd h (jP (hl rfl) (by decide) (by decide)))
  | (intro g1 g2;first | (exact⟨rfl,rfl⟩) | (have hq:=ha (by decide) rfl;exact hr.hd rfl hq.1 (by rw [hq.2];rfl) (by rw [hq.2];rfl)) | (exact absurd rfl g1) | (exact absurd g1 (by decide)) | (exact absurd g2 (by decide)) | exact hz g1 (by decide) | exact nz g1 (by decide) | (have:=RC (by assumption:(nn.ae==0)=false);omega))
  | exact ID (k:=3) rfl (by decide) (by decide)
  | exact ID (k:=6) rfl (by decide) (by decide)
  | exact ID (k:=8) rfl (by decide) (by decide)
  | exact ID (k:=10) rfl (by decide) (by decide)
  | exact ID (k:=12) rfl (by decide) (by decide)
  | exact ID (hl rfl) (by decide) (by decide)
  | exact af5 (k:=1) rfl (by decide)
  | exact af5 (k:=2) rfl (by decide)
  | exact fun _ _ _=>nz (by decide) (by decide)
  | (intro _;simp)
  | decide
structure bs.WF (n:Int) (w:bs):Prop where
 start:Ay n w.start
 prev:Ay n w.prev
 cur:gV n w.cur
 next:gV n w.next
 pc:w.pc=-1 \/ w.pc=0 \/ w.pc=1 \/ w.pc=2 \/ w.pc=3 \/ w.pc=4 \/ w.pc=5 \/ w.pc=6 \/ w.pc=7 \/ w.pc=8
 nz:(w.pc=2 \/ w.pc=3 \/ w.pc=4 \/ w.pc=5 \/ w.pc=6 \/ w.pc=7 \/ w.pc=8)->1<=w.cur.ae
 fd:w.found=true->w.pc=-1 /\ 1<=w.cur.ae
def bs.rk (w:bs):Nat:=if w.pc=4 \/ w.pc=5 then 2 else if w.pc=6 \/ w.pc=7 then 1 else 0
structure aaA (n:Int) (pc0:Int) (r0:Nat) (r:(Cl×Bool)×bs):Prop where
 on:r.1.2=true->ug n r.1.1
 wf:r.2.WF n
 rk:r.1.2=true->GO r.1.1->r.2.rk < r0
 off:r.1.2=false->r.2.pc=-1
 st:pc0=0->r.1.2=true
theorem Jx {n:Int} (h0:0<=n) {w:bs} (h:w.WF n) {x:cJ} (hx:gV n x.w):aaA n w.pc w.rk (bh w x):=by
 obtain⟨pc,last,start,key,prev,cur,next,k,found⟩:=w;obtain⟨hs,Oz,hc,hn,hp,hz,hf⟩:=h;dsimp only at hs Oz hc hn hp hz hf;have nx:0<=x.w.ae:=hx.1;have nn:0<=next.ae:=hn.1;unfold bh B3;dsimp only [id]
 rcases hp with rfl | rfl | rfl | rfl | rfl | rfl | rfl | rfl | rfl | rfl <;>
  (repeat' (refine gW (fun hb=>?_) (fun hb=>?_)<;>first | (exact absurd hb (by decide)) | skip)) <;>
  (refine⟨?_,⟨?_,?_,?_,?_,?_,?_,?_⟩,?_,?_,?_⟩)
 all_goals dsimp only [bs.rk]
 all_goals first
  | assumption
  | exact fun h=>absurd h (by decide)
  | decide
  | exact fun _=>gm h0 (by assumption) (by decide) (by decide)
  | exact fun _=>gm h0 (aM (by assumption) (by decide) (by decide)) (by decide) (by decide)
  | exact fun _=>bH h0 (aM (by assumption) (by decide) (by decide))
  | exact fun _=>bH h0 (by assumption)
  | exact fun _=>bQ (by assumption) (by assumption) (eK (by assumption))
  | exact fun _=>Je h0 (by unfold Dm;decide)
  | exact fun _=>jo h0 (by assumption) (hz (by decide))
  | exact fun _=>hz (by decide)
  | exact fun _=>(by have:=RC (by assumption:(x.w.ae==0)=false);omega)
  | exact fun _=>(by have:=RC (by assumption:(next.ae==0)=false);omega)
  | exact fun _=>(by have:=RC (by assumption:((iV cur next).ae==0)=false);show 1<=next.ae;exact(by have h:next.ae≠0:=this;omega))
  | exact fun h=>absurd (hf h).1 (by decide)
  | exact fun h=>⟨rfl,(hf h).2⟩
  | exact fun _=>⟨rfl,hz (by decide)⟩
  | exact fun _ h=>absurd h fy
  | exact fun _ h=>absurd h gO
  | exact fun _ h=>absurd h oS
  | exact fun _ _=>(by simp)
  | exact eK hn
  | exact aM hc (by decide) (by decide)
  | exact fun _=>rfl
theorem yi {n:Int} (h0:0<=n) {a:Ad} (ha:Ay n a) (k:Int):(iD (a,k)).WF n :=
 ⟨ha,ha,aU h0,aU h0,.inr (.inl rfl),fun h=>absurd h (by show ¬((0:Int)=2 \/ (0:Int)=3 \/ (0:Int)=4 \/ (0:Int)=5 \/ (0:Int)=6 \/ (0:Int)=7 \/ (0:Int)=8);decide),fun h=>by cases h⟩
structure cU.WF (n:Int) (j:cU):Prop where
 kd:j.op.aj=6 \/ j.op.aj=7 \/ j.op.aj=8
 start:Ay n j.start
 pc:(j.op.aj=6 /\ (j.pc=-1 \/ j.pc=0 \/ j.pc=1 \/ j.pc=2 \/ j.pc=3 \/ j.pc=4 \/ j.pc=5 \/ j.pc=6 \/ j.pc=7)) \/ (j.op.aj=7 /\ (j.pc=-1 \/ j.pc=0 \/ j.pc=1 \/ j.pc=2 \/ j.pc=3 \/ j.pc=4 \/ j.pc=5 \/ j.pc=6)) \/ (j.op.aj=8 /\ (j.pc=-1 \/ j.pc=0 \/ j.pc=1 \/ j.pc=2))
 last:j.pc=-1->j.last.aj=12
 node:gV n j.node
 nd:j.op.aj=6->(j.pc=2 \/ j.pc=3 \/ j.pc=4 \/ j.pc=5 \/ j.pc=6 \/ j.pc=7)->1<=j.node.ae
 wk:∀w,j.walk=some w->w.WF n
 cz:j.op.aj=7->(j.pc=2 \/ j.pc=3 \/ j.pc=4)->∃w,j.walk=some w /\ 1<=w.cur.ae
def cU.aw (c:Cl) (j:cU):Prop:=j.op.aj=6->j.pc=1->c.aj=8
def wrk:Option bs->Nat
 | none=>0
 | some w=>w.rk
def cU.rk (j:cU):Nat:=wrk j.walk+if j.op.aj=7 /\ j.pc=4 then 1 else 0
def avf (n:Int) (r0:Nat) (r:Cl×cU):Prop:=GI n r.1 (r.2.WF n) (r.2.aw r.1) r0 r.2.rk
theorem lS {n:Int} {w:bs} (h:w.WF n):∀w',some w=some w'->w'.WF n:=fun w' e=>by cases e;exact h
theorem wz {n:Int}:∀w',(none:Option bs)=some w'->w'.WF n:=fun w' e=>by cases e
