import Derived.Test.YtadmfaohjnjajaaGreatDoorPb
set_option linter.unusedVariables false
set_option linter.unusedSimpArgs false
set_option maxHeartbeats 0
set_option maxRecDepth 100000
noncomputable section
namespace Go.Proofs.YtadmfaohjnjajaaGreatDoor
section
open Go Go.Sx Go.Proofs
variable {σ:Sg}
def dh:Nat->Gs->Gs
 | 0,.p (.it k v)::r=>.p (.il k v)::r
 | n+1,x::r=>x::dh n r
 | _,gs=>gs
def gC (a b:Bool):Bool:=match a==true with | true=>b | false=>false
def lL (a b:Bool):Bool:=match a==false with | true=>b | false=>true
def eP (a b:Int):Int:=IntKind.wrap .i64 (a+b)
def S3.put (s:S3) (l:Int) (p:Ad) (c:W):S3:=if l=0 then {s with p0:=p,c0:=c} else if l=1 then {s with p1:=p,c1:=c} else {s with p2:=p,c2:=c}
def mG {β:Type} (I:Bool->β->β->β) (L:(Cl×Bool)×aN->β) (c:aN) (x:cr):β :=
 let ask (n:Int) (a:Cl) (c:aN):β:=L ((a,true),{c with pc:=n})
 let enter (c:aN):β:=ask 2 (bF c.prev (3 * c.level+1)) c
 let again (c:aN):β:=enter {c with level:=2,prev:=aV 2}
 let behind (c:aN):β:=ask 3 (bF (ay c.cur (2+c.level)) (3 * c.level)) c
 let lower (c:aN):β :=
  if c.level=0 then
   I (gC (!(c.cur.af==0)) (c.k==c.BS)) (L ((aW,false),{c with eo:=S3.put c.eo c.level c.prev c.cur,pc:=-1,found:=dv c.cur}))
     (L ((aW,false),{c with eo:=S3.put c.eo c.level c.prev c.cur,pc:=-1}))
  else I (c.prev.s==0) (enter {c with eo:=S3.put c.eo c.level c.prev c.cur,level:=c.level - 1,prev:=aV (c.level - 1)})
   (ask 9 (oL (3 * (c.level - 1)+2) (3 * (c.level - 1)+5)) {c with eo:=S3.put c.eo c.level c.prev c.cur,level:=c.level - 1,prev:={c.prev with f:=2+(c.level - 1)}})
 let on (c:aN):β:=I (c.cur.af==0) (lower c) (ask 8 (oL (3 * c.level+1) (3 * c.level)) c)
 I (c.pc==2) (I x.w.mark (again c) (I (x.w.af==0) (lower {c with cur:=x.w}) (behind {c with cur:=x.w})))
 (I (c.pc==3) (ask 4 (br (ay c.cur 0)) {c with next:=x.w})
 (I (c.pc==4) (ask 5 (br c.prev) {c with k:=x.w.bS})
 (I (c.pc==5) (I (!kM x.w c.cur) (again c) (I c.next.mark (ask 6 (b5 c.prev c.cur (iC c.cur c.next)) c) (I (decide (c.k>=c.BS)) (lower c) (ask 7 (oL (3 * c.level+2) (3 * c.level+1)) {c with prev:=ay c.cur (2+c.level)}))))
 (I (c.pc==6) (I x.ok (on {c with cur:=iC c.cur c.next}) (again c))
 (I (c.pc==0) (again c)
 (I (c.pc==7) (on {c with cur:=c.next})
 (I (c.pc==8) (behind c)
 (I (c.pc==9) (enter c)
 (L ((aW,false),c))))))))))
def aH (c:aN) (x:cr):(Cl×Bool)×aN:=mG cond id c x
theorem acm (σ:Sg) (pc:Int) (la:Cl) (pv:Ad) (cu:W) (bd:Int) (nx:W) (k:Int) (sp:S3) (fd:W) (x:cr):(gL σ ca 204 bL (mW.bx x) (qR ⟨pc,la,pv,cu,bd,0,nx,k,sp,fd⟩) mg (dh 28 (aN.wr ⟨pc,la,pv,cu,bd,0,nx,k,sp,fd⟩)) []).map (kV FN mq)=mG tI tL ⟨pc,la,pv,cu,bd,0,nx,k,sp,fd⟩ x:=by kernel_rfl
theorem ack (σ:Sg) (pc:Int) (la:Cl) (pv:Ad) (cu:W) (bd:Int) (nx:W) (k:Int) (sp:S3) (fd:W) (x:cr):(gL σ ca 204 bL (mW.bx x) (qR ⟨pc,la,pv,cu,bd,1,nx,k,sp,fd⟩) mg (dh 28 (aN.wr ⟨pc,la,pv,cu,bd,1,nx,k,sp,fd⟩)) []).map (kV FN mq)=mG tI tL ⟨pc,la,pv,cu,bd,1,nx,k,sp,fd⟩ x:=by kernel_rfl
theorem acj (σ:Sg) (pc:Int) (la:Cl) (pv:Ad) (cu:W) (bd:Int) (nx:W) (k:Int) (sp:S3) (fd:W) (x:cr):(gL σ ca 204 bL (mW.bx x) (qR ⟨pc,la,pv,cu,bd,2,nx,k,sp,fd⟩) mg (dh 28 (aN.wr ⟨pc,la,pv,cu,bd,2,nx,k,sp,fd⟩)) []).map (kV FN mq)=mG tI tL ⟨pc,la,pv,cu,bd,2,nx,k,sp,fd⟩ x:=by kernel_rfl
def sg (c:aN):Bool:=decide (0<=c.level /\ c.level<=2)
theorem aci (σ:Sg) (x:cr):(kN σ ca 204 bL (.v (.c .iK)::mW.bx x) []).map (pZ FN)=.aE (some (aW,false)):=by kernel_rfl
theorem Yt:cD Tryz.prog (NV σ) 204 (bP cJ bL (oo mW FN mq (fun c _=>some (sg c)) aH (aW,false))) :=
 pJ bn rfl (fun j x h=>by
  obtain⟨pc,la,pv,cu,bd,lv,nx,k,sp,fd⟩:=j
  have h:0<=lv /\ lv<=2:=aaV h
  rcases (by omega:lv=0 \/ lv=1 \/ lv=2) with rfl | rfl | rfl
  ·exact⟨mg,dh 28 (aN.wr ⟨pc,la,pv,cu,bd,0,nx,k,sp,fd⟩),rfl,mW.bx x,rfl,fun _=>rfl,by
    rw [acm];unfold mG aH mG;dsimp only;simp only [if_true]
    repeat' first | apply vI | exact vL⟩
  ·exact⟨mg,dh 28 (aN.wr ⟨pc,la,pv,cu,bd,1,nx,k,sp,fd⟩),rfl,mW.bx x,rfl,fun _=>rfl,by
    rw [ack];unfold mG aH mG;dsimp only;simp only [show ¬(1:Int)=0 by decide,if_false]
    repeat' first | apply vI | exact vL⟩
  ·exact⟨mg,dh 28 (aN.wr ⟨pc,la,pv,cu,bd,2,nx,k,sp,fd⟩),rfl,mW.bx x,rfl,fun _=>rfl,by
    rw [acj];unfold mG aH mG;dsimp only;simp only [show ¬(2:Int)=0 by decide,if_false]
    repeat' first | apply vI | exact vL⟩) fun x=>congrArg T.val (aci σ x)
def aI:l9 Int where
 bx x:=[.v (.c (.it .i64 x))]
 iM:=fun | [.v (.c c)]=>j6 c | _=>none
 ok:=fun l a h ρ=>by
  split at h
  ·simp only [abv,aeU,SV.aq,V1.aq,cB h ρ];rfl
  ·cases h
 free:=fun _=>rfl
def eW (b:Int):aN:=⟨0,aW,gX,ao,b,0,ao,0,⟨gX,ao,gX,ao,gX,ao⟩,ao⟩
theorem Sb (σ:Sg) (b:Int):(kN σ ca 205 bL (aI.bx b) []).map (SX mq)=tL (eW b):=by kernel_rfl
theorem Lh:cD Tryz.prog (NV σ) 205 (bP cJ bL (Lf aI mq (fun _=>none) eW)) :=
 Jg bn rfl fun x _=>⟨aI.bx x,rfl,fun _=>rfl,by rw [Sb];rfl⟩
def vW:nL W where
 bx w:=.v (.agg w.bx)
 iM:=fun | .v (.agg [.it .i64 a,.it .i64 b,.it .i64 c,.it .i64 d,.bt e])=>some ⟨a,b,c,d,e⟩ | _=>none
 ok:=fun v b h=>by split at h<;>cases h;rfl
def ZB:nL (Ad×W) where
 bx x:=.ji [.agg [.it .i64 x.1.s,.it .i64 x.1.g,.it .i64 x.1.f],.agg x.2.bx]
 iM:=fun | .ji [.agg [.it .i64 a,.it .i64 b,.it .i64 c],.agg [.it .i64 d,.it .i64 e,.it .i64 f,.it .i64 g,.bt h]]=>some (⟨a,b,c⟩,⟨d,e,f,g,h⟩) | _=>none
 ok:=fun v b h=>by split at h<;>cases h;rfl
theorem acq (σ:Sg) (c:aN):(gL σ ca 209 bL [] (qR c) mg (aN.wr c) []).map (kV vW mq)=tL (c.found,c):=by kernel_rfl
theorem YB (σ:Sg):(kN σ ca 209 bL [.v (.c .iK)] []).map (pZ vW)=.aE (some ao):=by kernel_rfl
theorem Te:cD Tryz.prog (NV σ) 209 (bP cJ bL (oo Ir vW mq (fun _ _=>none) (fun c _=>(c.found,c)) ao)) :=
 pJ bn rfl (fun j x _=>⟨mg,aN.wr j,rfl,[],rfl,fun _=>rfl,by rw [acq];rfl⟩) fun x=>congrArg T.val (YB σ)
def aT (c:aN) (l:Int):Ad×W:=if l=0 then(c.eo.p0,c.eo.c0) else if l=1 then(c.eo.p1,c.eo.c1) else if l=2 then(c.eo.p2,c.eo.c2) else(gX,ao)
def VN {α:Type} (l:Int) (f:Nat->T α):T α:=.ite (decide (l=0)) (f 0) (.ite (decide (l=1)) (f 1) (.aJ (decide (l=2)) (f 2)))
def S3.p (s:S3):Nat->Ad
 | 0=>s.p0
 | 1=>s.p1
 | _=>s.p2
def S3.c (s:S3):Nat->W
 | 0=>s.c0
 | 1=>s.c1
 | _=>s.c2
theorem aca (σ:Sg) (c:aN) (l:Int):(gL σ ca 206 bL [.v (.c (.it .i64 l))] (qR c) mg (aN.wr c) []).map (kV ZB mq) =
 tI (match decide (l < 0)==false with | true=>decide (l>=3) | false=>true) (tL ((gX,ao),c)) (VN l fun i=>VN l fun k=>tL ((S3.p c.eo i,S3.c c.eo k),c)):=by kernel_rfl
theorem Ym (σ:Sg) (l:Int):(kN σ ca 206 bL (.v (.c .iK)::aI.bx l) []).map (pZ ZB)=.aE (some (gX,ao)):=by kernel_rfl
theorem SZ:cD Tryz.prog (NV σ) 206 (bP cJ bL (oo aI ZB mq (fun _ _=>none) (fun c l=>(aT c l,c)) (gX,ao))) :=
 pJ bn rfl (fun j l _=>by
  refine⟨mg,aN.wr j,rfl,aI.bx l,rfl,fun _=>rfl,?_⟩
  show ((gL σ ca _ bL [.v (.c (.it .i64 l))] (qR j) mg (aN.wr j) []).map _).val=_
  rw [aca]
  unfold aT VN
  by_cases h0:l=0
  ·subst h0;rfl
  by_cases h1:l=1
  ·subst h1;rfl
  by_cases h2:l=2
  ·subst h2;rfl
  rw [if_neg h0,if_neg h1,if_neg h2]
  by_cases hl:l < 0
  ·rw [aaS hl];rfl
  ·rw [aaZ hl,aaS (show l>=3 by omega)];rfl) fun x=>congrArg T.val (Ym σ x)
def C8:mK:=bA 204 (bP cJ bL (oo mW FN mq (fun c _=>some (sg c)) aH (aW,false))) (bA 205 (bP cJ bL (Lf aI mq (fun _=>none) eW))
 (bA 209 (bP cJ bL (oo Ir vW mq (fun _ _=>none) (fun c _=>(c.found,c)) ao)) (bA 206 (bP cJ bL (oo aI ZB mq (fun _ _=>none) (fun c l=>(aT c l,c)) (gX,ao))) ca)))
theorem Un:dB Tryz.prog (NV σ) C8:=aK Yt (aK Lh (aK Te (aK SZ bn)))
def Vw (a b:W):Bool:=a.af==b.af&&a.gen==b.gen
def alK (a b:W):Bool:=a.af==b.af&&(a.gen==b.gen&&(a.tag==0&&(a.bS==0&&a.mark==false)))
def Px (j:cd):List Cell:=gB AV.len (7+1) (dh 19 (cd.wr j))
theorem lS (l:List Cell) (t:TypeId):m7 l t l t=true:=@aaS _ (Classical.propDecidable _) ⟨rfl,rfl⟩
def rm {β:Type} (I:Bool->β->β->β) (N:Bool->β->β) (L:Cl×cd->β) (j:cd) (x:cr):β :=
 let ask (n:Int) (c:Cl) (j:cd):β:=L (c,{j with pc:=n})
 let done (j:cd) (c v:Int):β:=L (jx c v,{j with pc:=-1,last:=jx c v})
 let wB (j:cd) (t:β):β:=N (m7 (Px j) tU (Px j) tU) t
 let tv (j:cd) (n b:Int):cd:={j with kz:=some (eW b),pc:=n}
 let field (j:cd) (n:Int):Ad:=ay j.node n
 let place (j:cd) (l:Int):Ad×W:=match j.kz with | none=>(gX,ao) | some c=>aT c l
 let found (j:cd):W:=match j.kz with | none=>ao | some c=>c.found
 let nil (j:cd) (t e:β):β:=I ((found j).af==0) t e
 let step (j:cd) (k:cd->β):β:=match j.kz with
  | none=>I false (L (aW,j)) (k j)
  | some c=>N (sg c) (I (aH c x).1.2 (L ((aH c x).1.1,{j with kz:=some (aH c x).2})) (k {j with kz:=some (aH c x).2}))
 let part (j:cd) (n:Int):β:=ask 101 (br (field j 7)) {j with inc:=n}
 let link (j:cd):β:=I (decide (j.level>=j.op.bO)) (part j 1) (ask 9 (br (field j (eP 2 j.level))) j)
 let aF (j:cd):β:=ask 4 (br (field j (eP 2 j.level))) j
 let alM (j:cd):β:=I (decide (cX j.level < j.op.bO)) (ask 7 (cO (field j (eP 2 (cX j.level))) (dv (place j (cX j.level)).2)) {j with level:=cX j.level})
  (ask 8 (b5 (place j 0).1 (place j 0).2 (iC (place j 0).2 j.node)) {j with level:=cX j.level})
 let agJ (j:cd):β:=step j fun j=>I (!((found j).af==0)) (ask 6 (p7 j.node) j) (alM {j with level:=-1})
 let r12 (j:cd):β:=step j fun j=>I (!alK (found j) j.node) (part j 1) (link j)
 let KT (j:cd):β:=step j fun j=>nil j (done {j with node:=found j} 2 0) (ask 2 (br (ay (found j) 6)) {j with node:=found j})
 let akD (j:cd):β:=step j fun j=>part j 2
 let amI (j:cd):β:=step j fun j=>nil j (done {j with node:=found j} 2 0) (ask 2 (br (ay (found j) 1)) {j with node:=found j})
 let tail (j:cd):β:=step j fun j=>ask 104 (jT j.node) j
 I (j.pc==-1) (L (j.last,j))
 (I (decide (j.pc>=101))
   (I (j.pc==101) (I (x.w.bS==0) (wB j (ask 102 (b5 (field j 7) x.w (fx x.w j.inc)) j)) (tail (tv j 103 (cX j.op.key))))
   (I (j.pc==102) (I x.ok (done j 1 j.val) (tail (tv j 103 (cX j.op.key))))
   (I (j.pc==104) (done j 1 j.val) (tail j))))
 (if j.op.aj=6 then
   I (decide (j.pc>=9))
     (I (j.pc==9) (I x.w.mark (part j 1) (I (!Vw x.w (place j j.level).2) (ask 10 (b5 (field j (eP 2 j.level)) x.w (iC x.w (place j j.level).2)) j) (ask 11 (b5 (place j j.level).1 (place j j.level).2 (iC (place j j.level).2 j.node)) j)))
     (I (j.pc==10) (I (!x.ok) (link j) (ask 11 (b5 (place j j.level).1 (place j j.level).2 (iC (place j j.level).2 j.node)) j))
     (I (j.pc==11) (I x.ok (link {j with level:=cX j.level}) (r12 (tv j 12 j.op.key)))
     (I (j.pc==12) (r12 j)
     (L (j.last,j))))))
     (I (j.pc==0) (ask 1 j9 j)
     (I (j.pc==1) (I (!x.ok) (done j 4 0) (wB {j with node:=x.w} (ask 2 (cO (ay x.w 0) (dX j.op.key)) {j with node:=x.w})))
     (I (j.pc==2) (wB j (ask 3 (cO (field j 1) (dX j.op.val)) j))
     (I (j.pc==3) (wB j (ask 4 (cO (field j 6) (dX j.op.bO)) j))
     (I (j.pc==6) (done j 3 0)
     (I (j.pc==8) (I x.ok (link {j with level:=1}) (agJ (tv j 5 j.op.key)))
     (I (j.pc==4) (agJ (tv j 5 j.op.key))
     (I (j.pc==5) (agJ j)
     (I (j.pc==7) (alM j)
     (L (j.last,j)))))))))))
 else if j.op.aj=7 then
  I (j.pc==0) (KT (tv j 1 j.op.key))
  (I (j.pc==1) (KT j)
  (I (j.pc==2) (I (lL (decide (x.w.bS < 1)) (decide (x.w.bS > 3))) (ask 3 (br (field j 1)) {j with level:=0}) (ask 3 (br (field j 1)) {j with level:=IntKind.wrap .i64 (x.w.bS - 1)}))
  (I (j.pc==3) (aF {j with val:=x.w.bS})
  (I (j.pc==4) (I (!x.w.mark) (ask 5 (b5 (field j (eP 2 j.level)) x.w (nM x.w)) j) (I (j.level==0) (done j 2 0) (aF {j with level:=IntKind.wrap .i64 (j.level - 1)})))
  (I (j.pc==5) (I (!x.ok) (aF j) (I (decide (j.level > 0)) (aF {j with level:=IntKind.wrap .i64 (j.level - 1)}) (akD (tv j 6 (cX j.op.key)))))
  (I (j.pc==6) (akD j)
  (L (j.last,j))))))))
 else
  I (j.pc==0) (amI (tv j 1 j.op.key))
  (I (j.pc==1) (amI j)
  (I (j.pc==2) (done j 1 x.w.bS)
  (L (j.last,j))))))
def tN {α:Type} (b:Bool) (t:T α):T α:=.aJ b t
theorem afA (σ:Sg) (pc:Int) (la:Cl) (key val bO:Int) (nd:W) (lv inc v:Int) (x:cr):(gL σ C8 193 bL (mW.bx x) (Df ⟨pc,la,⟨6,key,val,bO⟩,none,nd,lv,inc,v⟩) tU (dh 19 (cd.wr ⟨pc,la,⟨6,key,val,bO⟩,none,nd,lv,inc,v⟩)) []).map (kV Cq DK)=rm tI tN tL ⟨pc,la,⟨6,key,val,bO⟩,none,nd,lv,inc,v⟩ x:=by kernel_rfl
theorem afz (σ:Sg) (pc:Int) (la:Cl) (key val bO:Int) (w:aN) (nd:W) (lv inc v:Int) (x:cr):(gL σ C8 193 bL (mW.bx x) (Df ⟨pc,la,⟨6,key,val,bO⟩,some w,nd,lv,inc,v⟩) tU (dh 19 (cd.wr ⟨pc,la,⟨6,key,val,bO⟩,some w,nd,lv,inc,v⟩)) []).map (kV Cq DK)=rm tI tN tL ⟨pc,la,⟨6,key,val,bO⟩,some w,nd,lv,inc,v⟩ x:=by kernel_rfl
theorem afy (σ:Sg) (pc:Int) (la:Cl) (key val bO:Int) (nd:W) (lv inc v:Int) (x:cr):(gL σ C8 193 bL (mW.bx x) (Df ⟨pc,la,⟨7,key,val,bO⟩,none,nd,lv,inc,v⟩) tU (dh 19 (cd.wr ⟨pc,la,⟨7,key,val,bO⟩,none,nd,lv,inc,v⟩)) []).map (kV Cq DK)=rm tI tN tL ⟨pc,la,⟨7,key,val,bO⟩,none,nd,lv,inc,v⟩ x:=by kernel_rfl
theorem afx (σ:Sg) (pc:Int) (la:Cl) (key val bO:Int) (w:aN) (nd:W) (lv inc v:Int) (x:cr):(gL σ C8 193 bL (mW.bx x) (Df ⟨pc,la,⟨7,key,val,bO⟩,some w,nd,lv,inc,v⟩) tU (dh 19 (cd.wr ⟨pc,la,⟨7,key,val,bO⟩,some w,nd,lv,inc,v⟩)) []).map (kV Cq DK)=rm tI tN tL ⟨pc,la,⟨7,key,val,bO⟩,some w,nd,lv,inc,v⟩ x:=by kernel_rfl
theorem afw (σ:Sg) (pc:Int) (la:Cl) (key val bO:Int) (nd:W) (lv inc v:Int) (x:cr):(gL σ C8 193 bL (mW.bx x) (Df ⟨pc,la,⟨8,key,val,bO⟩,none,nd,lv,inc,v⟩) tU (dh 19 (cd.wr ⟨pc,la,⟨8,key,val,bO⟩,none,nd,lv,inc,v⟩)) []).map (kV Cq DK)=rm tI tN tL ⟨pc,la,⟨8,key,val,bO⟩,none,nd,lv,inc,v⟩ x:=by kernel_rfl
theorem afv (σ:Sg) (pc:Int) (la:Cl) (key val bO:Int) (w:aN) (nd:W) (lv inc v:Int) (x:cr):(gL σ C8 193 bL (mW.bx x) (Df ⟨pc,la,⟨8,key,val,bO⟩,some w,nd,lv,inc,v⟩) tU (dh 19 (cd.wr ⟨pc,la,⟨8,key,val,bO⟩,some w,nd,lv,inc,v⟩)) []).map (kV Cq DK)=rm tI tN tL ⟨pc,la,⟨8,key,val,bO⟩,some w,nd,lv,inc,v⟩ x:=by kernel_rfl
theorem vN {α:Type} {b:Bool} {t:T (Option α)} {x:α} (h:b=true) (h1:t.val=some (some x)):(tN b t).val=some (some x):=by subst h;exact h1
def aM (j:cd) (x:cr):Cl×cd:=rm cond (fun _ t=>t) id j x
def K8 (j:cd):Bool:=match j.kz with
 | none=>decide (j.op.aj=6 \/ j.op.aj=7 \/ j.op.aj=8)
 | some c=>match sg c with | true=>decide (j.op.aj=6 \/ j.op.aj=7 \/ j.op.aj=8) | false=>false
theorem aft:cD Tryz.prog (NV σ) 193 (bP cJ bL (fZ mW Cq DK (fun j _=>some (K8 j)) aM)) :=
 mw Un rfl fun j x h=>by
  obtain⟨pc,la,⟨kd,key,val,bO⟩,w,nd,lv,inc,v⟩:=j
  cases w with
  | none =>
    have h:kd=6 \/ kd=7 \/ kd=8:=aaV h
    rcases h with rfl | rfl | rfl
    ·exact⟨tU,dh 19 (cd.wr ⟨pc,la,⟨6,key,val,bO⟩,none,nd,lv,inc,v⟩),rfl,mW.bx x,rfl,fun _=>rfl,by
      rw [afA];unfold rm aM rm;dsimp only;simp only [if_true]
      repeat' first | apply vI | exact vL | (refine vN (lS _ _) ?_) | (refine vN rfl ?_)⟩
    ·exact⟨tU,dh 19 (cd.wr ⟨pc,la,⟨7,key,val,bO⟩,none,nd,lv,inc,v⟩),rfl,mW.bx x,rfl,fun _=>rfl,by
      rw [afy];unfold rm aM rm;dsimp only;simp only [show ¬(7:Int)=6 by decide,if_false,if_true]
      repeat' first | apply vI | exact vL | (refine vN (lS _ _) ?_) | (refine vN rfl ?_)⟩
    ·exact⟨tU,dh 19 (cd.wr ⟨pc,la,⟨8,key,val,bO⟩,none,nd,lv,inc,v⟩),rfl,mW.bx x,rfl,fun _=>rfl,by
      rw [afw];unfold rm aM rm;dsimp only;simp only [show ¬(8:Int)=6 by decide,if_false,show ¬(8:Int)=7 by decide]
      repeat' first | apply vI | exact vL | (refine vN (lS _ _) ?_) | (refine vN rfl ?_)⟩
  | some w =>
    have h:(match sg w with | true=>decide (kd=6 \/ kd=7 \/ kd=8) | false=>false)=true:=h
    cases hw:sg w with
    | false=>rw [hw] at h;cases h
    | true =>
    rw [hw] at h
    have h:kd=6 \/ kd=7 \/ kd=8:=aaV h
    rcases h with rfl | rfl | rfl
    ·exact⟨tU,dh 19 (cd.wr ⟨pc,la,⟨6,key,val,bO⟩,some w,nd,lv,inc,v⟩),rfl,mW.bx x,rfl,fun _=>rfl,by
      rw [afz];unfold rm aM rm;dsimp only;simp only [if_true]
      repeat' first | apply vI | exact vL | (refine vN (lS _ _) ?_) | (refine vN hw ?_) | (refine vN rfl ?_)⟩
    ·exact⟨tU,dh 19 (cd.wr ⟨pc,la,⟨7,key,val,bO⟩,some w,nd,lv,inc,v⟩),rfl,mW.bx x,rfl,fun _=>rfl,by
      rw [afx];unfold rm aM rm;dsimp only;simp only [show ¬(7:Int)=6 by decide,if_false,if_true]
      repeat' first | apply vI | exact vL | (refine vN (lS _ _) ?_) | (refine vN hw ?_) | (refine vN rfl ?_)⟩
    ·exact⟨tU,dh 19 (cd.wr ⟨pc,la,⟨8,key,val,bO⟩,some w,nd,lv,inc,v⟩),rfl,mW.bx x,rfl,fun _=>rfl,by
      rw [afv];unfold rm aM rm;dsimp only;simp only [show ¬(8:Int)=6 by decide,if_false,show ¬(8:Int)=7 by decide]
      repeat' first | apply vI | exact vL | (refine vN (lS _ _) ?_) | (refine vN hw ?_) | (refine vN rfl ?_)⟩
end
section
open Go Go.Sx Go.Proofs
variable {σ:Sg}
def vAd:nL Ad where
 bx x:=.v (.agg [.it .i64 x.s,.it .i64 x.g,.it .i64 x.f])
 iM:=fun | .v (.agg [.it .i64 a,.it .i64 b,.it .i64 c])=>some ⟨a,b,c⟩ | _=>none
 ok:=fun v b h=>by split at h<;>cases h;rfl
def Q9:nL Int where
 bx n:=.v (.c (.it .i64 n))
 iM:=fun | .v (.c (.it .i64 n))=>some n | _=>none
 ok:=fun v b h=>by split at h<;>cases h;rfl
def uv (n:Int):Bool:=decide (0<=n /\ n < 24)
theorem aky (σ:Sg) (n:Int):(kN σ ca 52 bL (aI.bx n) []).map (pZ vAd)=.ite (lL (decide (n < 0)) (decide (n>=24))) (.fail "load") (.aE (some ⟨0,0,IntKind.wrap .i64 (0+n)⟩)):=by kernel_rfl
theorem ma {m:Int} (h:-9223372036854775808<=m /\ m<=9223372036854775807):IntKind.wrap .i64 m=m:=by
 unfold IntKind.wrap
 simp only [IntKind.bits,IntKind.signed]
 first | omega | (simp;omega)
theorem aag:cD Tryz.prog (NV σ) 52 (bP cJ bL (zd aI vAd (fun n=>some (uv n)) aV)) :=
 vQ bn rfl fun n h=>⟨aI.bx n,rfl,fun _=>rfl,by
  have h:0<=n /\ n < 24:=aaV h
  have e:lL (decide (n < 0)) (decide (n>=24))=false:=by
   rw [aaZ (show ¬n < 0 by omega),aaZ (show ¬n>=24 by omega)];rfl
  rw [aky,e]
  show some (some (⟨0,0,_⟩:Ad))=_
  rw [ma (by omega:-9223372036854775808<=0+n /\ 0+n<=9223372036854775807),Int.zero_add];rfl⟩
def dN (c:Int):Int:=if c=0 then 0 else if c=1 then 256 else if c=2 then 128 else if c=3 then 384 else if c=4 then 64 else if c=5 then 320 else if c=6 then 192 else 448
def akB (n:Nat):Nat:=n % 2 * 128+n / 2 % 2 * 64+n / 4 % 2 * 32+n / 8 % 2 * 16+n / 16 % 2 * 8+n / 32 % 2 * 4+n / 64 % 2 * 2+n / 128 % 2
def kF (k:Int):Int:=2 * (akB k.toNat:Int)+1
def Ag (c:Int):Bool:=decide (0<=c /\ c < 8)
def DJ (k:Int):Bool:=decide (0<=k /\ k < 256)
def Qa (t:T (Option Int)) (n:Int):Bool:=match t with | .aE (some m)=>decide (m=n) | _=>false
theorem Eb {t:T (Option Int)} {n:Int} (h:Qa t n=true):t.val=some (some n):=by
 unfold Qa at h
 split at h
 ·rw [aaV h];rfl
 ·cases h
def O1 (p:Nat->Bool):Nat->Bool
 | 0=>true
 | k+1=>match p k with | true=>O1 p k | false=>false
theorem rW {p:Nat->Bool}:∀{n:Nat},O1 p n=true->∀k,k < n->p k=true
 | 0,_,k,h=>by omega
 | n+1,h,k,hk=>by
   simp only [O1] at h
   split at h
   ·rename_i hn
    rcases Nat.lt_succ_iff_lt_or_eq.1 hk with hk | rfl
    ·exact rW h k hk
    ·exact hn
   ·cases h
theorem acw (σ:Sg):O1 (fun k=>Qa ((kN σ ca 187 bL [.v (.c (.il .i64 (Int.ofNat k)))] []).map (pZ Q9)) (dN (Int.ofNat k))) 8=true:=by kernel_rfl
theorem af1 (σ:Sg):O1 (fun k=>Qa ((kN σ ca 188 bL [.v (.c (.il .i64 (Int.ofNat k)))] []).map (pZ Q9)) (kF (Int.ofNat k))) 256=true:=by kernel_rfl
theorem acu:cD Tryz.prog (NV σ) 187 (bP cJ bL (zd aI Q9 (fun n=>some (Ag n)) dN)) :=
 vQ bn rfl fun n h=>by
  have h:0<=n /\ n < 8:=aaV h
  obtain⟨k,rfl⟩:∃k:Nat,n=Int.ofNat k:=⟨n.toNat,by simp;omega⟩
  exact⟨[.v (.c (.il .i64 (Int.ofNat k)))],rfl,fun _=>rfl,Eb (rW (acw σ) k (by have:=h.2;simp at this;omega))⟩
theorem af0:cD Tryz.prog (NV σ) 188 (bP cJ bL (zd aI Q9 (fun n=>some (DJ n)) kF)) :=
 vQ bn rfl fun n h=>by
  have h:0<=n /\ n < 256:=aaV h
  obtain⟨k,rfl⟩:∃k:Nat,n=Int.ofNat k:=⟨n.toNat,by simp;omega⟩
  exact⟨[.v (.c (.il .i64 (Int.ofNat k)))],rfl,fun _=>rfl,Eb (rW (af1 σ) k (by have:=h.2;simp at this;omega))⟩
def aeO:l9 (Ad×Int×O) where
 bx x:=[.v (.agg [.it .i64 x.1.s,.it .i64 x.1.g,.it .i64 x.1.f]),.v (.c (.it .i64 x.2.1)),.v (.agg x.2.2.bx)]
 iM:=fun | [.v (.agg [c0,c1,c2]),.v (.c c3),.v (.agg [c4,c5,c6,c7])]=>(match j6 c0,j6 c1,j6 c2,j6 c3,j6 c4,j6 c5,j6 c6,j6 c7 with | some a,some b,some c,some n,some k,some e,some v,some t=>some (⟨a,b,c⟩,n,⟨k,e,v,t⟩) | _,_,_,_,_,_,_,_=>none) | _=>none
 ok:=fun l a h ρ=>by
  split at h
  ·split at h
   ·rename_i h0 h1 h2 h3 h4 h5 h6 h7
    cases h
    simp only [abv,aeU,SV.aq,V1.aq,aA,O.bx,cB h0 ρ,cB h1 ρ,cB h2 ρ,cB h3 ρ,cB h4 ρ,cB h5 ρ,cB h6 ρ,cB h7 ρ]
    rfl
   ·cases h
  ·cases h
 free:=fun _=>rfl
def js (x:Ad×Int×O):cM:=⟨0,aW,x.1,x.2.1,x.2.2,none,ao,0⟩
def Jc (o:O):Bool:=decide (o.aj=6 \/ o.aj=7 \/ o.aj=8)
theorem amR (σ:Sg) (k:Nat) (a:Ad) (n e v t:Int):k=6 \/ k=7 \/ k=8->(kN σ ca 68 bL [.v (.agg [.it .i64 a.s,.it .i64 a.g,.it .i64 a.f]),.v (.c (.it .i64 n)),.v (.agg [.il .i64 (Int.ofNat k),.it .i64 e,.it .i64 v,.it .i64 t])] []).map (SX DL)=tL (js (a,n,⟨Int.ofNat k,e,v,t⟩)):=by
 rintro (rfl | rfl | rfl)
 ·kernel_rfl
 ·kernel_rfl
 ·kernel_rfl
theorem abK:cD Tryz.prog (NV σ) 68 (bP cJ bL (Lf aeO DL (fun x=>some (Jc x.2.2)) js)) :=
 Jg bn rfl fun x h=>by
  obtain⟨a,n,⟨k,e,v,t⟩⟩:=x
  have h:k=6 \/ k=7 \/ k=8:=aaV h
  obtain⟨i,rfl,hi⟩:∃i:Nat,k=Int.ofNat i /\ (i=6 \/ i=7 \/ i=8):=by
   rcases h with rfl | rfl | rfl
   ·exact⟨6,rfl,by decide⟩
   ·exact⟨7,rfl,by decide⟩
   ·exact⟨8,rfl,by decide⟩
  exact⟨[.v (.agg [.it .i64 a.s,.it .i64 a.g,.it .i64 a.f]),.v (.c (.it .i64 n)),.v (.agg [.il .i64 (Int.ofNat i),.it .i64 e,.it .i64 v,.it .i64 t])],rfl,fun _=>rfl,by rw [amR σ i a n e v t hi];rfl⟩
def Uf:mK:=bA 52 (bP cJ bL (zd aI vAd (fun n=>some (uv n)) aV)) (bA 187 (bP cJ bL (zd aI Q9 (fun n=>some (Ag n)) dN)) (bA 188 (bP cJ bL (zd aI Q9 (fun n=>some (DJ n)) kF))
 (bA 68 (bP cJ bL (Lf aeO DL (fun x=>some (Jc x.2.2)) js)) (bA 152 (bP cJ bL (oo mW Cq DL (fun _ _=>none) b6 aW)) Ks))))
theorem Ue:dB Tryz.prog (NV σ) Uf:=aK aag (aK acu (aK af0 (aK abK (aK WG Kr))))
@[reducible] def NY:wL bW:=⟨IB,Q7,fun _ _=>IA,fun _=>rfl⟩
end
section
open Go Go.Sx Go.Proofs
variable {σ:Sg}
def qG (b:Int):Int:=if b=3 then 1 else if b=5 then 1 else if b=6 then 2 else if b=7 then 3 else 0
def tE (n:Int):Int:=match n==2 with
 | true=>(match n==2 with | true=>n | false=>1)
 | false=>match n==4 with
   | true=>(match n==4 with | true=>n | false=>1)
   | false=>match n==8 with | true=>n | false=>1
def jU:Nat->Int->Int->Int
 | 0,c,_=>c
 | k+1,c,b=>if qG c=b then c else jU k (qG c) b
def T2 {β:Type} (I:Bool->β->β->β) (N:Bool->β->β) (L:Cl×bW->β) (j:bW) (x:cr):β :=
 let ask (n:Int) (c:Cl) (j:bW):β:=L (c,{j with pc:=n})
 let done (a:An) (j:bW):β:=L (⟨12,gX,ao,ao,0,0,a⟩,{j with pc:=-1,last:=⟨12,gX,ao,ao,0,0,a⟩})
 let root (n:Int) (k:Ad->β):β:=N (uv n) (k (aV n))
 let KQ (b:Int) (k:Ad->β):β:=root (eP 8 b) k
 let aeA (c:Cl) (j:bW):β:=I (c.aj != 12) (L (c,j)) (I (lL (c.p9.Cd != 1) (j.op.aj==8)) (done c.p9 {j with answer:=c.p9}) (root 17 fun a=>ask 12 (br a) {j with answer:=c.p9}))
 let tZ (x:cr) (j:bW):β:=match j.inner with
  | none=>aeA aW j
  | some l=>aeA (b6 l x).1 {j with inner:=some (b6 l x).2}
 let perform (j:bW):β:=N (DJ j.op.key) (N (Jc j.op) (tZ ⟨ao,false⟩ {j with inner:=some (js (ay j.base 2,kF j.op.key,j.op)),pc:=11}))
 let descend (j:bW):β:=if j.bucket=j.wanted then perform j else ask 3 j9 {j with child:=jU 4 j.wanted j.bucket}
 let place (j:bW):Ad×W×W:=match j.walk with | none=>(gX,ao,ao) | some w=>(w.prev,w.cur,w.next)
 let found (j:bW):Bool:=match j.walk with | none=>false | some w=>w.found
 let acU (j:bW):β :=
  let k (j:bW):β:=I (found j) (ask 6 (p7 j.node) {j with sentinel:=dv (place j).2.1}) (ask 7 (cO (ay j.node 2) (dv (place j).2.1)) j)
  match j.walk with
  | none=>I false (L (aW,j)) (k j)
  | some w=>I (aY w x).1.2 (L ((aY w x).1.1,{j with walk:=some (aY w x).2})) (k {j with walk:=some (aY w x).2})
 let tv (j:bW):β:=N (Ag j.child) (acU {j with walk:=some (gZ (ay j.base 2,dN j.child)),pc:=5})
 if j.pc=0 then root 16 fun a=>ask 1 (br a) j
 else if j.pc=1 then
  N (tE x.w.bS != 0) (KQ (Int.tmod j.op.key (tE x.w.bS)) fun a=>ask 2 (br a) {j with size:=tE x.w.bS,wanted:=Int.tmod j.op.key (tE x.w.bS),bucket:=Int.tmod j.op.key (tE x.w.bS)})
 else if j.pc=2 then
  I (!(x.w.af==0)) (descend {j with base:=x.w}) (if j.bucket=0 then done ⟨4,0⟩ j else KQ (qG j.bucket) fun a=>ask 2 (br a) {j with bucket:=qG j.bucket})
 else if j.pc=11 then tZ x j
 else if j.pc=12 then I (j.op.aj==7) (root 17 fun a=>ask 13 (b5 a x.w (fx x.w (-1))) {j with count:=x.w}) (root 17 fun a=>ask 13 (b5 a x.w (fx x.w 1)) {j with count:=x.w})
 else if j.pc=13 then I (!x.ok) (root 17 fun a=>ask 12 (br a) j) (I (lL (j.op.aj==7) (lL (j.size==8) (decide (j.count.bS < IntKind.wrap .i64 (2 * j.size))))) (done j.answer j) (root 16 fun a=>ask 14 (br a) j))
 else if j.pc=14 then I (x.w.bS==j.size) (root 16 fun a=>ask 15 (b5 a x.w (fx x.w j.size)) j) (done j.answer j)
 else if j.pc=15 then done j.answer j
 else if j.pc=-1 then L (j.last,j)
 else if j.pc=3 then I (!x.ok) (perform j) (N (Ag j.child) (ask 4 (cO (ay x.w 0) (dX (dN j.child))) {j with node:=x.w}))
 else if j.pc=8 then I x.ok (KQ j.child fun a=>ask 9 (br a) {j with sentinel:=j.node}) (tv j)
 else if j.pc=4 then tv j
 else if j.pc=5 then acU j
 else if j.pc=7 then ask 8 (b5 (place j).1 (place j).2.1 (iC (place j).2.1 j.node)) j
 else if j.pc=6 then KQ j.child fun a=>ask 9 (br a) j
 else if j.pc=9 then I (x.w.af==0) (KQ j.child fun a=>ask 10 (b5 a x.w (iC x.w j.sentinel)) j) (descend {j with base:=j.sentinel,bucket:=j.child})
 else if j.pc=10 then descend {j with base:=j.sentinel,bucket:=j.child}
 else L (j.last,j)
def akx (σ:Sg) (ks:List Nat) (j:bW) (x:cr):T (Option (Cl×bW)):=(gL σ Uf 174 bL (mW.bx x) (IB j) Kw (ks.foldl (fun g k=>dh k g) (bW.wr j)) []).map (kV Cq NY)
def To (σ:Sg) (j:bW) (x:cr):Prop:=∃gs,o4 σ (IB j)=some (fP AV.len Kw (iQ gs)) /\ (gL σ Uf 174 bL (mW.bx x) (IB j) Kw gs []).map (kV Cq NY)=T2 tI tN tL j x
end
section
open Go Go.Sx Go.Proofs
variable {σ:Sg}
def Hl:Int->List Int->Bool
 | _,[]=>false
 | n,m::r=>lL (decide (n=m)) (Hl n r)
theorem sC {n:Int}:∀{l:List Int},Hl n l=true->n∈l
 | [],h=>by cases h
 | m::r,h=>by
   unfold Hl lL at h
   cases hd:decide (n=m) with
   | true=>rw [aaV hd];exact abw
   | false=>rw [hd] at h;exact aby _ (sC h)
def afX:List Int:=[0,1,3,4,5,6,7,8,11,12,13,14,15,-1]
def jF (wanted bucket:Int):Bool :=
 lL (gC (decide (wanted=0)) (Hl bucket [0])) (
 lL (gC (decide (wanted=1)) (Hl bucket [1,0])) (
 lL (gC (decide (wanted=2)) (Hl bucket [2,0])) (
 lL (gC (decide (wanted=3)) (Hl bucket [3,1,0])) (
 lL (gC (decide (wanted=4)) (Hl bucket [4,0])) (
 lL (gC (decide (wanted=5)) (Hl bucket [5,1,0])) (
 lL (gC (decide (wanted=6)) (Hl bucket [6,2,0])) (
 lL (gC (decide (wanted=7)) (Hl bucket [7,3,1,0])) (
 false))))))))
def wD (wanted child:Int):Bool :=
 lL (gC (decide (wanted=1)) (Hl child [1])) (
 lL (gC (decide (wanted=2)) (Hl child [2])) (
 lL (gC (decide (wanted=3)) (Hl child [3,1])) (
 lL (gC (decide (wanted=4)) (Hl child [4])) (
 lL (gC (decide (wanted=5)) (Hl child [5,1])) (
 lL (gC (decide (wanted=6)) (Hl child [6,2])) (
 lL (gC (decide (wanted=7)) (Hl child [7,3,1])) (
 false)))))))
def R1 (j:bW):Bool :=
 gC (DJ j.op.key) (gC (Jc j.op) (gC (Ag j.child) (lL (Hl j.pc afX) (lL (gC (decide (j.pc=2)) (jF j.wanted j.bucket)) (gC (lL (decide (j.pc=9)) (decide (j.pc=10))) (wD j.wanted j.child))))))
theorem Bz {a b:Bool} (h:lL a b=true):a=true \/ b=true:=by unfold lL at h;cases a<;>simp_all
theorem nK {a b:Bool} (h:gC a b=true):a=true /\ b=true:=by unfold gC at h;cases a<;>simp_all
theorem vaK {j:bW} {x:cr} (ks:List Nat) (h1:o4 σ (IB j)=some (fP AV.len Kw (iQ (ks.foldl (fun g k=>dh k g) (bW.wr j))))) (h2:akx σ ks j x=T2 tI tN tL j x):To σ j x:=⟨_,h1,h2⟩
theorem vaA (σ:Sg) (j:bW) (x:cr) (h:Hl j.pc afX=true):To σ j x:=by
 have h:=sC h
 obtain⟨pc,last,op,size,wanted,bucket,child,base,node,sentinel,walk,inner,answer,count⟩:=j
 simp only [afX,abk,abo,or_false] at h
 rcases h with rfl | rfl | rfl | rfl | rfl | rfl | rfl | rfl | rfl | rfl | rfl | rfl | rfl | rfl<;>cases walk<;>cases inner<;>exact vaK [0] (by as_aux_lemma=>kernel_rfl) (by as_aux_lemma=>kernel_rfl)
theorem vaB (σ:Sg) (j:bW) (x:cr) (hp:j.pc=2) (h:jF j.wanted j.bucket=true):To σ j x:=by
 obtain⟨pc,last,op,size,wanted,bucket,child,base,node,sentinel,walk,inner,answer,count⟩:=j
 dsimp only at h hp
 subst hp
 unfold jF at h
 repeat (rcases Bz h with h | h;· (obtain⟨hw,h⟩:=nK h;have hw:=aaV hw;subst hw;have h:=sC h;simp only [abk,abo,or_false] at h;(repeat' (rcases (h:_ \/ _) with h | h))<;>subst h<;>cases walk<;>cases inner<;>exact vaK [0,24,25] (by as_aux_lemma=>kernel_rfl) (by as_aux_lemma=>kernel_rfl)))
 cases h
theorem aoZ (σ:Sg) (j:bW) (x:cr) (hj:j.pc=9) (h:wD j.wanted j.child=true):To σ j x:=by
 obtain⟨pc,last,op,size,wanted,bucket,child,base,node,sentinel,walk,inner,answer,count⟩:=j
 dsimp only at h hj
 subst hj
 unfold wD at h
 repeat (rcases Bz h with h | h;· (obtain⟨hw,h⟩:=nK h;have hw:=aaV hw;subst hw;have h:=sC h;simp only [abk,abo,or_false] at h;(repeat' (rcases (h:_ \/ _) with h | h))<;>subst h<;>cases walk<;>cases inner<;>exact vaK [0,24,26] (by as_aux_lemma=>kernel_rfl) (by as_aux_lemma=>kernel_rfl)))
 cases h
theorem ajb (σ:Sg) (j:bW) (x:cr) (hj:j.pc=10) (h:wD j.wanted j.child=true):To σ j x:=by
 obtain⟨pc,last,op,size,wanted,bucket,child,base,node,sentinel,walk,inner,answer,count⟩:=j
 dsimp only at h hj
 subst hj
 unfold wD at h
 repeat (rcases Bz h with h | h;· (obtain⟨hw,h⟩:=nK h;have hw:=aaV hw;subst hw;have h:=sC h;simp only [abk,abo,or_false] at h;(repeat' (rcases (h:_ \/ _) with h | h))<;>subst h<;>cases walk<;>cases inner<;>exact vaK [0,24,26] (by as_aux_lemma=>kernel_rfl) (by as_aux_lemma=>kernel_rfl)))
 cases h
theorem ae9 (σ:Sg) (j:bW) (x:cr) (h:R1 j=true):To σ j x:=by
 obtain⟨_,h⟩:=nK h
 obtain⟨_,h⟩:=nK h
 obtain⟨_,h⟩:=nK h
 rcases Bz h with h | h
 ·exact vaA σ j x h
 ·rcases Bz h with h | h
  ·obtain⟨hp,h⟩:=nK h
   exact vaB σ j x (aaV hp) h
  ·obtain⟨hp,h⟩:=nK h
   rcases Bz hp with hp | hp
   ·exact aoZ σ j x (aaV hp) h
   ·exact ajb σ j x (aaV hp) h
theorem vIf {α:Type} {c:Prop} [Decidable c] {t e:T (Option α)} {x y:α} (h1:c->t.val=some (some x)) (h2:¬c->e.val=some (some y)):(if c then t else e).val=some (some (if c then x else y)):=by
 split
 ·exact h1 ‹_›
 ·exact h2 ‹_›
theorem q9 (n:Int):tE n=1 \/ tE n=2 \/ tE n=4 \/ tE n=8:=by
 unfold tE
 cases h2:n==2 with
 | true=>have h2:=eq_of_beq h2;subst h2;exact .inr (.inl rfl)
 | false =>
   cases h4:n==4 with
   | true=>have h4:=eq_of_beq h4;subst h4;exact .inr (.inr (.inl rfl))
   | false =>
     cases h8:n==8 with
     | true=>have h8:=eq_of_beq h8;subst h8;exact .inr (.inr (.inr rfl))
     | false=>exact .inl rfl
theorem ajR (n:Int):(tE n != 0)=true:=by rcases q9 n with h | h | h | h<;>rw [h]<;>rfl
theorem PR {n:Int} (h0:0<=n) (h1:n < 8):uv (eP 8 n)=true:=by
 unfold uv eP
 rw [ma (by omega)]
 exact aaS (by omega)
theorem aaK {k:Int} (n:Int) (h:DJ k=true):uv (eP 8 (Int.tmod k (tE n)))=true:=by
 have h:0<=k /\ k < 256:=aaV h
 have h1:0<=Int.tmod k (tE n):=Int.tmod_nonneg _ h.1
 have h2:Int.tmod k (tE n) < tE n:=Int.tmod_lt_of_pos k (by rcases q9 n with h | h | h | h<;>omega)
 exact PR h1 (by rcases q9 n with h | h | h | h<;>omega)
theorem aaJ (b:Int):uv (eP 8 (qG b))=true:=by
 unfold qG
 split
 ·rfl
 split
 ·rfl
 split
 ·rfl
 split<;>rfl
theorem aaL {c:Int} (h:Ag c=true):uv (eP 8 c)=true:=by
 have h:0<=c /\ c < 8:=aaV h
 exact PR h.1 h.2
theorem TT {wanted child:Int} (h:wD wanted child=true):0<=wanted /\ wanted < 8 /\ 0<=child /\ child < 8:=by
 unfold wD at h
 repeat (rcases Bz h with h | h;· (obtain⟨hw,h⟩:=nK h;have hw:=aaV hw;have h:=sC h;simp only [abk,abo,or_false] at h;omega))
 cases h
theorem mc {wanted bucket:Int} (h:jF wanted bucket=true):0<=wanted /\ wanted < 8 /\ 0<=bucket /\ bucket < 8:=by
 unfold jF at h
 repeat (rcases Bz h with h | h;· (obtain⟨hw,h⟩:=nK h;have hw:=aaV hw;have h:=sC h;simp only [abk,abo,or_false] at h;omega))
 cases h
def bc (j:bW) (x:cr):Cl×bW:=T2 cond (fun _ t=>t) id j x
set_option maxHeartbeats 4000000 in
theorem ZA (j:bW) (x:cr) (h:R1 j=true):(T2 tI tN tL j x).val=some (some (bc j x)):=by
 obtain⟨h1,h⟩:=nK h
 obtain⟨h2,h⟩:=nK h
 obtain⟨h3,h⟩:=nK h
 obtain⟨pc,last,op,size,wanted,bucket,child,base,node,sentinel,walk,inner,answer,count⟩:=j
 unfold bc T2
 cases walk<;>cases inner<;>dsimp only at h1 h2 h3 ⊢ <;>
  repeat' first | (with_reducible exact vL) | (with_reducible apply vI) | (with_reducible refine vIf (fun _=>?_) (fun _=>?_)) | (with_reducible refine vN h1 ?_) | (with_reducible refine vN h2 ?_) | (with_reducible refine vN h3 ?_) | (with_reducible refine vN (ajR _) ?_) | (with_reducible refine vN (aaK _ h1) ?_) | (with_reducible refine vN (aaJ _) ?_) | (with_reducible refine vN (aaL h3) ?_) | (refine vN (by decide) ?_)
theorem ae2:cD Tryz.prog (NV σ) 174 (bP cJ bL (fZ mW Cq NY (fun j _=>some (R1 j)) bc)) :=
 mw Ue rfl fun j x h=>by
  obtain⟨gs,e1,e2⟩:=ae9 σ j x h
  exact⟨Kw,gs,e1,mW.bx x,rfl,fun _=>rfl,by rw [e2];exact ZA j x h⟩
end
section
open Go Go.Sx Go.Proofs
def gD (n:Int) (w:W):Prop:=0<=w.af /\ w.af<=n /\ (w.af=0->w.gen=0)
def zJ (n:Int) (a:Ad):Prop:=(a.s=0 /\ a.g=0 /\ 0<=a.f /\ a.f < 85) \/ (1<=a.s /\ a.s<=n /\ 0<=a.f /\ a.f < 10)
def CA (i j:Int):Prop:=(i=1 /\ j=0) \/ (i=2 /\ j=1) \/ (i=4 /\ j=3) \/ (i=5 /\ j=4) \/ (i=7 /\ j=6) \/ (i=8 /\ j=7) \/ (i=2 /\ j=5) \/ (i=5 /\ j=8)
def sU (n:Int) (c:Cl):Prop:=gD n c.cU /\ gD n c.new /\ (((c.aj=3 \/ c.aj=4 \/ c.aj=5) /\ zJ n c.cW) \/ (c.aj=6 /\ zJ n c.cW /\ 0<=c.i /\ c.i < 9 /\ c.j=0) \/ (c.aj=7 /\ CA c.i c.j) \/ c.aj=8 \/ ((c.aj=9 \/ c.aj=10) /\ 1<=c.cU.af))
def FG (c:Cl):Prop:=c.aj=7 \/ c.aj=10
section
variable {n:Int}
theorem aR (h:0<=n):gD n ao:=⟨aef _,h,fun _=>rfl⟩
theorem gT (h:0<=n) (k:Int):gD n (dX k):=⟨aef _,h,fun _=>rfl⟩
theorem ct {w:W} (h:gD n w):gD n (dv w):=h
theorem eu {w r:W} (h:gD n r):gD n (iC w r):=h
theorem lD {w:W} (h:gD n w):gD n (nM w):=h
theorem qZ (h:0<=n) {w:W} {k:Int}:gD n (fx w k):=⟨aef _,h,fun _=>rfl⟩
theorem aL {w:W} (h:gD n w) {f:Int} (h0:0<=f) (h1:f < 10):zJ n (ay w f):=by
 obtain⟨a,b,c⟩:=h
 by_cases e:w.af=0
 ·exact .inl ⟨e,c e,h0,by show f < 85;omega⟩
 ·exact .inr ⟨by show 1<=w.af;omega,b,h0,h1⟩
theorem fQ {k:Int} (h0:0<=k) (h1:k < 85):zJ n (aV k):=.inl ⟨rfl,rfl,h0,h1⟩
theorem bD (h:0<=n) {a:Ad} (ha:zJ n a):sU n (br a):=⟨aR h,aR h,.inl ⟨.inl rfl,ha⟩⟩
theorem bq (h:0<=n) {a:Ad} {w:W} (ha:zJ n a) (hw:gD n w):sU n (cO a w):=⟨aR h,hw,.inl ⟨.inr (.inl rfl),ha⟩⟩
theorem bK {a:Ad} {o w:W} (ha:zJ n a) (ho:gD n o) (hw:gD n w):sU n (b5 a o w):=⟨ho,hw,.inl ⟨.inr (.inr rfl),ha⟩⟩
theorem fT (h:0<=n) {a:Ad} {i:Int} (ha:zJ n a) (h0:0<=i) (h1:i < 9):sU n (bF a i):=⟨aR h,aR h,.inr (.inl ⟨rfl,ha,h0,h1,rfl⟩)⟩
theorem H8 (h:0<=n) {i j:Int} (hp:CA i j):sU n (oL i j):=⟨aR h,aR h,.inr (.inr (.inl ⟨rfl,hp⟩))⟩
theorem ic (h:0<=n):sU n j9:=⟨aR h,aR h,.inr (.inr (.inr (.inl rfl)))⟩
theorem lY (h:0<=n) {w:W} (hw:gD n w) (h1:1<=w.af):sU n (p7 w):=⟨hw,aR h,.inr (.inr (.inr (.inr ⟨.inl rfl,h1⟩)))⟩
theorem iN (h:0<=n) {w:W} (hw:gD n w) (h1:1<=w.af):sU n (jT w):=⟨hw,aR h,.inr (.inr (.inr (.inr ⟨.inr rfl,h1⟩)))⟩
end
def Res (n:Int) (c:Cl):Prop:=c.aj=12 \/ sU n c
def hdW (c:Cl):Prop:=(c.aj=4 \/ c.aj=5)->c.cW.s=0->c.cW.f=0->1<=c.new.af
theorem Hw {c:Cl} {k:Int} (e:c.aj=k) (h4:k≠4) (h5:k≠5):hdW c:=fun h _ _=>by
 rcases h with h | h
 ·exact absurd (e.symm.trans h) h4
 ·exact absurd (e.symm.trans h) h5
theorem aes {c:Cl} {k:Int} (e:c.cW.f=k) (h:k≠0):hdW c:=fun _ _ h2=>absurd (e.symm.trans h2) h
structure vg (n:Int) (hd:Bool) (c:Cl) (x:cr):Prop where
 w:gD n x.w
 al:c.aj=8->x.ok=true->1<=x.w.af
 hd:hd=true->c.aj=6->c.cW.s=0->c.cW.f=0->1<=x.w.af
structure FB (n:Int) (c:Cl) (ok aw:Prop) (r0 r1:Nat):Prop where
 PI:Res n c
 wf:ok
 rk:FG c->r1 < r0
 aw:aw
theorem ju {c:Cl} {k:Int} (e:c.aj=k) (h7:k≠7) (h10:k≠10):¬FG c:=fun h=>by
 rcases h with h | h
 ·exact h7 (e.symm.trans h)
 ·exact h10 (e.symm.trans h)
theorem eX {a:Ad}:¬FG (br a):=ju (k:=3) rfl (by decide) (by decide)
theorem gQ {a:Ad} {w:W}:¬FG (cO a w):=ju (k:=4) rfl (by decide) (by decide)
theorem gr {a:Ad} {v w:W}:¬FG (b5 a v w):=ju (k:=5) rfl (by decide) (by decide)
theorem oz {a:Ad} {i:Int}:¬FG (bF a i):=ju (k:=6) rfl (by decide) (by decide)
theorem jn:¬FG j9:=ju (k:=8) rfl (by decide) (by decide)
theorem kR {w:W}:¬FG (p7 w):=ju (k:=9) rfl (by decide) (by decide)
theorem mC {a b:Int}:¬FG (jx a b):=ju (k:=12) rfl (by decide) (by decide)
theorem gE {α:Type} {P:α->Prop} {b:Bool} {t e:α} (h1:b=true->P t) (h2:b=false->P e):P (cond b t e):=by
 cases b
 ·exact h2 rfl
 ·exact h1 rfl
theorem QC {a b:Int} (h:(a==b)=true):a=b:=aaV h
theorem PW {a b:Int} (h:(a==b)=false):a≠b:=abb h
structure dr.WF (n:Int) (j:dr):Prop where
 kd:j.op.aj=1 \/ j.op.aj=2 \/ j.op.aj=3
 pc:j.pc=-1 \/ j.pc=0 \/ j.pc=1 \/ j.pc=2 \/ j.pc=3 \/ j.pc=4 \/ j.pc=5
 last:j.pc=-1->j.last.aj=12
 node:gD n j.node
 top:gD n j.top
 nz:j.op.aj≠1->(j.pc=2 \/ j.pc=3 \/ j.pc=4)->1<=j.top.af
def dr.rk (j:dr):Nat:=if j.pc=4 then 1 else 0
def anT (n:Int) (r0:Nat) (r:Cl×dr):Prop:=FB n r.1 (r.2.WF n) True r0 r.2.rk
theorem aaz {n:Int} (h0:0<=n) {j:dr} (h:j.WF n) {x:cr} (hx:gD n x.w):anT n j.rk (oe j x):=by
 obtain⟨pc,last,⟨kd,key,val,bO⟩,node,top,v⟩:=j
 obtain⟨hk,hp,hl,hn,ht,hz⟩:=h
 dsimp only at hk hp hl hn ht hz
 have nx:0<=x.w.af:=hx.1
 unfold oe GK
 dsimp only [id]
 rcases hk with rfl | rfl | rfl<;>rcases hp with rfl | rfl | rfl | rfl | rfl | rfl | rfl <;>
  (repeat' (refine gE (fun hb=>?_) (fun hb=>?_)<;>first | (exact absurd hb (by decide)) | skip)) <;>
  (refine⟨?_,⟨?_,?_,?_,?_,?_,?_⟩,?_,trivial⟩)
 all_goals dsimp only [dr.rk]
 all_goals first
  | exact .inl rfl
  | exact .inl (hl rfl)
  | exact .inr (ic h0)
  | exact .inr (bD h0 (fQ (by decide) (by decide)))
  | exact .inr (fT h0 (fQ (by decide) (by decide)) (by decide) (by decide))
  | exact .inr (fT h0 (aL (by assumption) (by decide) (by decide)) (by decide) (by decide))
  | exact .inr (bD h0 (aL (by assumption) (by decide) (by decide)))
  | exact .inr (bq h0 (aL (by assumption) (by decide) (by decide)) (gT h0 _))
  | exact .inr (bq h0 (aL (by assumption) (by decide) (by decide)) (ct hx))
  | exact .inr (bK (fQ (by decide) (by decide)) (by assumption) (eu (by assumption)))
  | exact .inr (bK (aL (by assumption) (by decide) (by decide)) (by assumption) (eu (by assumption)))
  | exact .inr (iN h0 (by assumption) (hz (by decide) (by decide)))
  | assumption
  | exact fun _=>rfl
  | (intro h;first | exact absurd h (by decide) | exact absurd h eX | exact absurd h gQ | exact absurd h gr | exact absurd h oz | exact absurd h jn | exact absurd h kR | exact absurd h mC | exact absurd h (ju (hl rfl) (by decide) (by decide)))
  | (intro h1 h2;first | (exact absurd rfl h1) | (exact absurd h1 (by decide)) | (exact absurd h2 (by decide)) | exact hz h1 (by decide) | (have:=PW (by assumption:(x.w.af==0)=false);omega))
  | (intro _;simp)
  | decide
structure cY.WF (n:Int) (j:cY):Prop where
 kd:j.op.aj=4 \/ j.op.aj=5
 pc:j.pc=-1 \/ j.pc=0 \/ j.pc=1 \/ j.pc=2 \/ j.pc=3 \/ j.pc=4 \/ j.pc=5 \/ j.pc=6 \/ j.pc=7 \/ j.pc=8
 last:j.pc=-1->j.last.aj=12
 node:gD n j.node
 h:gD n j.h
 t:gD n j.t
 n:gD n j.n
 hz:j.op.aj≠4->(j.pc=2 \/ j.pc=3 \/ j.pc=4 \/ j.pc=6 \/ j.pc=7)->1<=j.h.af
 nz:j.op.aj≠4->(j.pc=6 \/ j.pc=7)->1<=j.n.af
def cY.aw (c:Cl) (j:cY):Prop:=j.op.aj≠4->j.pc=1->c.aj=6 /\ c.cW=aV 0
def cY.rk (j:cY):Nat:=if j.pc=7 then 1 else 0
def anU (n:Int) (r0:Nat) (r:Cl×cY):Prop:=FB n r.1 (r.2.WF n) (r.2.aw r.1 /\ hdW r.1) r0 r.2.rk
theorem acb {n:Int} (h0:0<=n) {j:cY} (h:j.WF n) {c:Cl} (ha:j.aw c) {x:cr} (hr:vg n true c x):anU n j.rk (mF j x):=by
 obtain⟨pc,last,⟨kd,key,val,bO⟩,node,hh,tt,nn,v⟩:=j
 obtain⟨hk,hp,hl,hn,h1,h2,h3,hz,nz⟩:=h
 dsimp only [cY.aw] at hk hp hl hn h1 h2 h3 hz nz ha
 have hx:gD n x.w:=hr.w
 have nx:0<=x.w.af:=hx.1
 have nn0:0<=nn.af:=h3.1
 unfold mF EV
 dsimp only [id]
 rcases hk with rfl | rfl<;>rcases hp with rfl | rfl | rfl | rfl | rfl | rfl | rfl | rfl | rfl | rfl <;>
  (repeat' (refine gE (fun hb=>?_) (fun hb=>?_)<;>first | (exact absurd hb (by decide)) | skip)) <;>
  (refine⟨?_,⟨?_,?_,?_,?_,?_,?_,?_,?_,?_⟩,?_,⟨?_,?_⟩⟩)
 all_goals dsimp only [cY.rk,cY.aw]
 all_goals first
  | exact .inl rfl
  | exact .inl (hl rfl)
  | exact .inr (ic h0)
  | exact .inr (bD h0 (fQ (by decide) (by decide)))
  | exact .inr (fT h0 (fQ (by decide) (by decide)) (by decide) (by decide))
  | exact .inr (fT h0 (aL (by assumption) (by decide) (by decide)) (by decide) (by decide))
  | exact .inr (bD h0 (aL (by assumption) (by decide) (by decide)))
  | exact .inr (bq h0 (aL (by assumption) (by decide) (by decide)) (gT h0 _))
  | exact .inr (bq h0 (aL (by assumption) (by decide) (by decide)) (ct hx))
  | exact .inr (bK (fQ (by decide) (by decide)) (by assumption) (eu (by assumption)))
  | exact .inr (bK (aL (by assumption) (by decide) (by decide)) (by assumption) (eu (by assumption)))
  | exact .inr (iN h0 (by assumption) (hz (by decide) (by decide)))
  | assumption
  | exact fun _=>rfl
  | (intro h;first | exact absurd h (by decide) | exact absurd h eX | exact absurd h gQ | exact absurd h gr | exact absurd h oz | exact absurd h jn | exact absurd h kR | exact absurd h mC | exact absurd h (ju (hl rfl) (by decide) (by decide)))
  | (intro g1 g2;first | (exact⟨rfl,rfl⟩) | (have hq:=ha (by decide) rfl;exact hr.hd rfl hq.1 (by rw [hq.2];rfl) (by rw [hq.2];rfl)) | (exact absurd rfl g1) | (exact absurd g1 (by decide)) | (exact absurd g2 (by decide)) | exact hz g1 (by decide) | exact nz g1 (by decide) | (have:=PW (by assumption:(nn.af==0)=false);omega))
  | exact Hw (k:=3) rfl (by decide) (by decide)
  | exact Hw (k:=6) rfl (by decide) (by decide)
  | exact Hw (k:=8) rfl (by decide) (by decide)
  | exact Hw (k:=10) rfl (by decide) (by decide)
  | exact Hw (k:=12) rfl (by decide) (by decide)
  | exact Hw (hl rfl) (by decide) (by decide)
  | exact aes (k:=1) rfl (by decide)
  | exact aes (k:=2) rfl (by decide)
  | exact fun _ _ _=>nz (by decide) (by decide)
  | (intro _;simp)
  | decide
structure bm.WF (n:Int) (w:bm):Prop where
 start:zJ n w.start
 prev:zJ n w.prev
 cur:gD n w.cur
 next:gD n w.next
 pc:w.pc=-1 \/ w.pc=0 \/ w.pc=1 \/ w.pc=2 \/ w.pc=3 \/ w.pc=4 \/ w.pc=5 \/ w.pc=6 \/ w.pc=7 \/ w.pc=8
 nz:(w.pc=2 \/ w.pc=3 \/ w.pc=4 \/ w.pc=5 \/ w.pc=6 \/ w.pc=7 \/ w.pc=8)->1<=w.cur.af
 fd:w.found=true->w.pc=-1 /\ 1<=w.cur.af
def bm.rk (w:bm):Nat:=if w.pc=4 \/ w.pc=5 then 2 else if w.pc=6 \/ w.pc=7 then 1 else 0
structure Y5 (n:Int) (pc0:Int) (r0:Nat) (r:(Cl×Bool)×bm):Prop where
 on:r.1.2=true->sU n r.1.1
 wf:r.2.WF n
 rk:r.1.2=true->FG r.1.1->r.2.rk < r0
 off:r.1.2=false->r.2.pc=-1
 st:pc0=0->r.1.2=true
theorem Iv {n:Int} (h0:0<=n) {w:bm} (h:w.WF n) {x:cr} (hx:gD n x.w):Y5 n w.pc w.rk (aY w x):=by
 obtain⟨pc,last,start,key,prev,cur,next,k,found⟩:=w
 obtain⟨hs,MY,hc,hn,hp,hz,hf⟩:=h
 dsimp only at hs MY hc hn hp hz hf
 have nx:0<=x.w.af:=hx.1
 have nn:0<=next.af:=hn.1
 unfold aY Bm
 dsimp only [id]
 rcases hp with rfl | rfl | rfl | rfl | rfl | rfl | rfl | rfl | rfl | rfl <;>
  (repeat' (refine gE (fun hb=>?_) (fun hb=>?_)<;>first | (exact absurd hb (by decide)) | skip)) <;>
  (refine⟨?_,⟨?_,?_,?_,?_,?_,?_,?_⟩,?_,?_,?_⟩)
 all_goals dsimp only [bm.rk]
 all_goals first
  | assumption
  | exact fun h=>absurd h (by decide)
  | decide
  | exact fun _=>fT h0 (by assumption) (by decide) (by decide)
  | exact fun _=>fT h0 (aL (by assumption) (by decide) (by decide)) (by decide) (by decide)
  | exact fun _=>bD h0 (aL (by assumption) (by decide) (by decide))
  | exact fun _=>bD h0 (by assumption)
  | exact fun _=>bK (by assumption) (by assumption) (eu (by assumption))
  | exact fun _=>H8 h0 (by unfold CA;decide)
  | exact fun _=>iN h0 (by assumption) (hz (by decide))
  | exact fun _=>hz (by decide)
  | exact fun _=>(by have:=PW (by assumption:(x.w.af==0)=false);omega)
  | exact fun _=>(by have:=PW (by assumption:(next.af==0)=false);omega)
  | exact fun _=>(by have:=PW (by assumption:((iC cur next).af==0)=false);show 1<=next.af;exact(by have h:next.af≠0:=this;omega))
  | exact fun h=>absurd (hf h).1 (by decide)
  | exact fun h=>⟨rfl,(hf h).2⟩
  | exact fun _=>⟨rfl,hz (by decide)⟩
  | exact fun _ h=>absurd h eX
  | exact fun _ h=>absurd h gr
  | exact fun _ h=>absurd h oz
  | exact fun _ _=>(by simp)
  | exact eu hn
  | exact aL hc (by decide) (by decide)
  | exact fun _=>rfl
theorem xw {n:Int} (h0:0<=n) {a:Ad} (ha:zJ n a) (k:Int):(gZ (a,k)).WF n :=
 ⟨ha,ha,aR h0,aR h0,.inr (.inl rfl),fun h=>absurd h (by show ¬((0:Int)=2 \/ (0:Int)=3 \/ (0:Int)=4 \/ (0:Int)=5 \/ (0:Int)=6 \/ (0:Int)=7 \/ (0:Int)=8);decide),fun h=>by cases h⟩
structure cM.WF (n:Int) (j:cM):Prop where
 kd:j.op.aj=6 \/ j.op.aj=7 \/ j.op.aj=8
 start:zJ n j.start
 pc:(j.op.aj=6 /\ (j.pc=-1 \/ j.pc=0 \/ j.pc=1 \/ j.pc=2 \/ j.pc=3 \/ j.pc=4 \/ j.pc=5 \/ j.pc=6 \/ j.pc=7)) \/ (j.op.aj=7 /\ (j.pc=-1 \/ j.pc=0 \/ j.pc=1 \/ j.pc=2 \/ j.pc=3 \/ j.pc=4 \/ j.pc=5 \/ j.pc=6)) \/ (j.op.aj=8 /\ (j.pc=-1 \/ j.pc=0 \/ j.pc=1 \/ j.pc=2))
 last:j.pc=-1->j.last.aj=12
 node:gD n j.node
 nd:j.op.aj=6->(j.pc=2 \/ j.pc=3 \/ j.pc=4 \/ j.pc=5 \/ j.pc=6 \/ j.pc=7)->1<=j.node.af
 wk:∀w,j.walk=some w->w.WF n
 cz:j.op.aj=7->(j.pc=2 \/ j.pc=3 \/ j.pc=4)->∃w,j.walk=some w /\ 1<=w.cur.af
def cM.aw (c:Cl) (j:cM):Prop:=j.op.aj=6->j.pc=1->c.aj=8
def wrk:Option bm->Nat
 | none=>0
 | some w=>w.rk
def cM.rk (j:cM):Nat:=wrk j.walk+if j.op.aj=7 /\ j.pc=4 then 1 else 0
def asr (n:Int) (r0:Nat) (r:Cl×cM):Prop:=FB n r.1 (r.2.WF n) (r.2.aw r.1) r0 r.2.rk
theorem lh {n:Int} {w:bm} (h:w.WF n):∀w',some w=some w'->w'.WF n:=fun w' e=>by cases e;exact h
theorem vq {n:Int}:∀w',(none:Option bm)=some w'->w'.WF n:=fun w' e=>by cases e
