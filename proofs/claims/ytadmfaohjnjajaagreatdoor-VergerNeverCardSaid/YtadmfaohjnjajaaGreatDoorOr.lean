import Derived.Test.YtadmfaohjnjajaaGreatDoorPb
set_option linter.unusedVariables false
set_option linter.unusedSimpArgs false
set_option maxHeartbeats 4000000
namespace Go.Proofs.YtadmfaohjnjajaaGreatDoor
section
open Go Go.Sx Go.Proofs
set_option maxRecDepth 100000
variable {σ:Sg}
def bE:Nat->Gs->Gs
 | 0,.p (.it k v)::r=>.p (.il k v)::r
 | n+1,x::r=>x::bE n r
 | _,gs=>gs
def eB (a b:Bool):Bool:=match a==true with | true=>b | false=>false
def orB (a b:Bool):Bool:=match a==false with | true=>b | false=>true
def cA (a b:Int):Int:=IntKind.wrap .i64 (a+b)
def S3.put (s:S3) (l:Int) (p:Ad) (c:W):S3:=if l=0 then {s with p0:=p,c0:=c} else if l=1 then {s with p1:=p,c1:=c} else {s with p2:=p,c2:=c}
def iz {β:Type} (I:Bool->β->β->β) (L:(Cl×Bool)×ClimbM->β) (c:ClimbM) (x:Rp1):β :=
 let ask (n:Int) (a:Cl) (c:ClimbM):β:=L ((a,true),{c with pc:=n})
 let enter (c:ClimbM):β:=ask 2 (aS c.prev (3 * c.level+1)) c
 let again (c:ClimbM):β:=enter {c with level:=2,prev:=aC 2}
 let behind (c:ClimbM):β:=ask 3 (aS (af c.cur (2+c.level)) (3 * c.level)) c
 let lower (c:ClimbM):β :=
  if c.level=0 then
   I (eB (!(c.cur.slot==0)) (c.k==c.bound)) (L ((aD,false),{c with spots:=S3.put c.spots c.level c.prev c.cur,pc:=-1,found:=bP c.cur}))
     (L ((aD,false),{c with spots:=S3.put c.spots c.level c.prev c.cur,pc:=-1}))
  else I (c.prev.s==0) (enter {c with spots:=S3.put c.spots c.level c.prev c.cur,level:=c.level - 1,prev:=aC (c.level - 1)})
   (ask 9 (jQ (3 * (c.level - 1)+2) (3 * (c.level - 1)+5)) {c with spots:=S3.put c.spots c.level c.prev c.cur,level:=c.level - 1,prev:={c.prev with f:=2+(c.level - 1)}})
 let on (c:ClimbM):β:=I (c.cur.slot==0) (lower c) (ask 8 (jQ (3 * c.level+1) (3 * c.level)) c)
 I (c.pc==2) (I x.w.mark (again c) (I (x.w.slot==0) (lower {c with cur:=x.w}) (behind {c with cur:=x.w})))
 (I (c.pc==3) (ask 4 (aM (af c.cur 0)) {c with next:=x.w})
 (I (c.pc==4) (ask 5 (aM c.prev) {c with k:=x.w.num})
 (I (c.pc==5) (I (!ia x.w c.cur) (again c) (I c.next.mark (ask 6 (bf c.prev c.cur (wTo c.cur c.next)) c) (I (decide (c.k>=c.bound)) (lower c) (ask 7 (jQ (3 * c.level+2) (3 * c.level+1)) {c with prev:=af c.cur (2+c.level)}))))
 (I (c.pc==6) (I x.ok (on {c with cur:=wTo c.cur c.next}) (again c))
 (I (c.pc==0) (again c)
 (I (c.pc==7) (on {c with cur:=c.next})
 (I (c.pc==8) (behind c)
 (I (c.pc==9) (enter c)
 (L ((aD,false),c))))))))))
def ao (c:ClimbM) (x:Rp1):(Cl×Bool)×ClimbM:=iz cond id c x
theorem Qj (σ:Sg) (pc:Int) (la:Cl) (pv:Ad) (cu:W) (bd:Int) (nx:W) (k:Int) (sp:S3) (fd:W) (x:Rp1):(dJ σ bm 204 noM (aRp.enc x) (lO ⟨pc,la,pv,cu,bd,0,nx,k,sp,fd⟩) hI (bE 28 (ClimbM.wr ⟨pc,la,pv,cu,bd,0,nx,k,sp,fd⟩)) []).map (gp yI oClimb)=iz tI tL ⟨pc,la,pv,cu,bd,0,nx,k,sp,fd⟩ x:=by kernel_rfl
theorem Qh (σ:Sg) (pc:Int) (la:Cl) (pv:Ad) (cu:W) (bd:Int) (nx:W) (k:Int) (sp:S3) (fd:W) (x:Rp1):(dJ σ bm 204 noM (aRp.enc x) (lO ⟨pc,la,pv,cu,bd,1,nx,k,sp,fd⟩) hI (bE 28 (ClimbM.wr ⟨pc,la,pv,cu,bd,1,nx,k,sp,fd⟩)) []).map (gp yI oClimb)=iz tI tL ⟨pc,la,pv,cu,bd,1,nx,k,sp,fd⟩ x:=by kernel_rfl
theorem Qg (σ:Sg) (pc:Int) (la:Cl) (pv:Ad) (cu:W) (bd:Int) (nx:W) (k:Int) (sp:S3) (fd:W) (x:Rp1):(dJ σ bm 204 noM (aRp.enc x) (lO ⟨pc,la,pv,cu,bd,2,nx,k,sp,fd⟩) hI (bE 28 (ClimbM.wr ⟨pc,la,pv,cu,bd,2,nx,k,sp,fd⟩)) []).map (gp yI oClimb)=iz tI tL ⟨pc,la,pv,cu,bd,2,nx,k,sp,fd⟩ x:=by kernel_rfl
def mN (c:ClimbM):Bool:=decide (0<=c.level /\ c.level<=2)
theorem Qf (σ:Sg) (x:Rp1):(gg σ bm 204 noM (.v (.c .pnil)::aRp.enc x) []).map (kP yI)=.leaf (some (aD,false)):=by kernel_rfl
theorem Nj:FnOk Tryz.prog (NV σ) 204 (aZ isS noM (jy aRp yI oClimb (fun c _=>some (mN c)) ao (aD,false))) :=
 kG aJ rfl (fun j x h=>by
  obtain⟨pc,la,pv,cu,bd,lv,nx,k,sp,fd⟩:=j
  have h:0<=lv /\ lv<=2:=of_decide_eq_true h
  rcases (by omega:lv=0 \/ lv=1 \/ lv=2) with rfl | rfl | rfl
  ·exact⟨hI,bE 28 (ClimbM.wr ⟨pc,la,pv,cu,bd,0,nx,k,sp,fd⟩),rfl,aRp.enc x,rfl,fun _=>rfl,by
    rw [Qj];unfold iz ao iz;dsimp only;simp only [if_true]
    repeat' first | apply vI | exact vL⟩
  ·exact⟨hI,bE 28 (ClimbM.wr ⟨pc,la,pv,cu,bd,1,nx,k,sp,fd⟩),rfl,aRp.enc x,rfl,fun _=>rfl,by
    rw [Qh];unfold iz ao iz;dsimp only;simp only [show ¬(1:Int)=0 by decide,if_false]
    repeat' first | apply vI | exact vL⟩
  ·exact⟨hI,bE 28 (ClimbM.wr ⟨pc,la,pv,cu,bd,2,nx,k,sp,fd⟩),rfl,aRp.enc x,rfl,fun _=>rfl,by
    rw [Qg];unfold iz ao iz;dsimp only;simp only [show ¬(2:Int)=0 by decide,if_false]
    repeat' first | apply vI | exact vL⟩) fun x=>congrArg T.val (Qf σ x)
def aI:ArgK Int where
 enc x:=[.v (.c (.it .i64 x))]
 dec:=fun | [.v (.c c)]=>iOf c | _=>none
 ok:=fun l a h ρ=>by
  split at h
  ·simp only [List.map_cons,List.map_nil,SV.den,V1.den,bp h ρ];rfl
  ·cases h
 free:=fun _=>rfl
def cE (b:Int):ClimbM:=⟨0,aD,dX,wNil,b,0,wNil,0,⟨dX,wNil,dX,wNil,dX,wNil⟩,wNil⟩
theorem It (σ:Sg) (b:Int):(gg σ bm 205 noM (aI.enc b) []).map (IV oClimb)=tL (cE b):=by kernel_rfl
theorem CR:FnOk Tryz.prog (NV σ) 205 (aZ isS noM (CP aI oClimb (fun _=>none) cE)) :=
 Bp aJ rfl fun x _=>⟨aI.enc x,rfl,fun _=>rfl,by rw [It];rfl⟩
def vW:ValK W where
 enc w:=.v (.agg w.enc)
 dec:=fun | .v (.agg [.it .i64 a,.it .i64 b,.it .i64 c,.it .i64 d,.bt e])=>some ⟨a,b,c,d,e⟩ | _=>none
 ok:=fun v b h=>by split at h<;>cases h;rfl
def Oe:ValK (Ad×W) where
 enc x:=.tup [.agg [.it .i64 x.1.s,.it .i64 x.1.g,.it .i64 x.1.f],.agg x.2.enc]
 dec:=fun | .tup [.agg [.it .i64 a,.it .i64 b,.it .i64 c],.agg [.it .i64 d,.it .i64 e,.it .i64 f,.it .i64 g,.bt h]]=>some (⟨a,b,c⟩,⟨d,e,f,g,h⟩) | _=>none
 ok:=fun v b h=>by split at h<;>cases h;rfl
theorem Qn (σ:Sg) (c:ClimbM):(dJ σ bm 209 noM [] (lO c) hI (ClimbM.wr c) []).map (gp vW oClimb)=tL (c.found,c):=by kernel_rfl
theorem Nu (σ:Sg):(gg σ bm 209 noM [.v (.c .pnil)] []).map (kP vW)=.leaf (some wNil):=by kernel_rfl
theorem I9:FnOk Tryz.prog (NV σ) 209 (aZ isS noM (jy AJ vW oClimb (fun _ _=>none) (fun c _=>(c.found,c)) wNil)) :=
 kG aJ rfl (fun j x _=>⟨hI,ClimbM.wr j,rfl,[],rfl,fun _=>rfl,by rw [Qn];rfl⟩) fun x=>congrArg T.val (Nu σ)
def az (c:ClimbM) (l:Int):Ad×W:=if l=0 then(c.spots.p0,c.spots.c0) else if l=1 then(c.spots.p1,c.spots.c1) else if l=2 then(c.spots.p2,c.spots.c2) else(dX,wNil)
def Lb {α:Type} (l:Int) (f:Nat->T α):T α:=.ite (decide (l=0)) (f 0) (.ite (decide (l=1)) (f 1) (.need (decide (l=2)) (f 2)))
def S3.p (s:S3):Nat->Ad
 | 0=>s.p0
 | 1=>s.p1
 | _=>s.p2
def S3.c (s:S3):Nat->W
 | 0=>s.c0
 | 1=>s.c1
 | _=>s.c2
theorem P9 (σ:Sg) (c:ClimbM) (l:Int):(dJ σ bm 206 noM [.v (.c (.it .i64 l))] (lO c) hI (ClimbM.wr c) []).map (gp Oe oClimb) =
 tI (match decide (l < 0)==false with | true=>decide (l>=3) | false=>true) (tL ((dX,wNil),c)) (Lb l fun i=>Lb l fun k=>tL ((S3.p c.spots i,S3.c c.spots k),c)):=by kernel_rfl
theorem Nc (σ:Sg) (l:Int):(gg σ bm 206 noM (.v (.c .pnil)::aI.enc l) []).map (kP Oe)=.leaf (some (dX,wNil)):=by kernel_rfl
theorem IY:FnOk Tryz.prog (NV σ) 206 (aZ isS noM (jy aI Oe oClimb (fun _ _=>none) (fun c l=>(az c l,c)) (dX,wNil))) :=
 kG aJ rfl (fun j l _=>by
  refine⟨hI,ClimbM.wr j,rfl,aI.enc l,rfl,fun _=>rfl,?_⟩
  show ((dJ σ bm _ noM [.v (.c (.it .i64 l))] (lO j) hI (ClimbM.wr j) []).map _).val=_
  rw [P9]
  unfold az Lb
  by_cases h0:l=0
  ·subst h0;rfl
  by_cases h1:l=1
  ·subst h1;rfl
  by_cases h2:l=2
  ·subst h2;rfl
  rw [if_neg h0,if_neg h1,if_neg h2]
  by_cases hl:l < 0
  ·rw [decide_eq_true hl];rfl
  ·rw [decide_eq_false hl,decide_eq_true (show l>=3 by omega)];rfl) fun x=>congrArg T.val (Nc σ x)
noncomputable def wm:Tab:=aQ 204 (aZ isS noM (jy aRp yI oClimb (fun c _=>some (mN c)) ao (aD,false))) (aQ 205 (aZ isS noM (CP aI oClimb (fun _=>none) cE))
 (aQ 209 (aZ isS noM (jy AJ vW oClimb (fun _ _=>none) (fun c _=>(c.found,c)) wNil)) (aQ 206 (aZ isS noM (jy aI Oe oClimb (fun _ _=>none) (fun c l=>(az c l,c)) (dX,wNil))) bm)))
theorem JS:bO Tryz.prog (NV σ) wm:=au Nj (au CR (au I9 (au IY aJ)))
def KV (a b:W):Bool:=a.slot==b.slot&&a.gen==b.gen
def WO (a b:W):Bool:=a.slot==b.slot&&(a.gen==b.gen&&(a.tag==0&&(a.num==0&&a.mark==false)))
def Gb (j:SteM):List Cell:=dE AV.len (7+1) (bE 19 (SteM.wr j))
theorem gO (l:List Cell) (t:TypeId):iO l t l t=true:=@decide_eq_true _ (Classical.propDecidable _) ⟨rfl,rfl⟩
noncomputable def l7 {β:Type} (I:Bool->β->β->β) (N:Bool->β->β) (L:Cl×SteM->β) (j:SteM) (x:Rp1):β :=
 let ask (n:Int) (c:Cl) (j:SteM):β:=L (c,{j with pc:=n})
 let done (j:SteM) (c v:Int):β:=L (fx c v,{j with pc:=-1,last:=fx c v})
 let same (j:SteM) (t:β):β:=N (iO (Gb j) nK (Gb j) nK) t
 let seek (j:SteM) (n b:Int):SteM:={j with climb:=some (cE b),pc:=n}
 let field (j:SteM) (n:Int):Ad:=af j.node n
 let place (j:SteM) (l:Int):Ad×W:=match j.climb with | none=>(dX,wNil) | some c=>az c l
 let found (j:SteM):W:=match j.climb with | none=>wNil | some c=>c.found
 let nil (j:SteM) (t e:β):β:=I ((found j).slot==0) t e
 let step (j:SteM) (k:SteM->β):β:=match j.climb with
  | none=>I false (L (aD,j)) (k j)
  | some c=>N (mN c) (I (ao c x).1.2 (L ((ao c x).1.1,{j with climb:=some (ao c x).2})) (k {j with climb:=some (ao c x).2}))
 let part (j:SteM) (n:Int):β:=ask 101 (aM (field j 7)) {j with inc:=n}
 let link (j:SteM):β:=I (decide (j.level>=j.op.tall)) (part j 1) (ask 9 (aM (field j (cA 2 j.level))) j)
 let look (j:SteM):β:=ask 4 (aM (field j (cA 2 j.level))) j
 let ins7 (j:SteM):β:=I (decide (bH j.level < j.op.tall)) (ask 7 (bz (field j (cA 2 (bH j.level))) (bP (place j (bH j.level)).2)) {j with level:=bH j.level})
  (ask 8 (bf (place j 0).1 (place j 0).2 (wTo (place j 0).2 j.node)) {j with level:=bH j.level})
 let ins5 (j:SteM):β:=step j fun j=>I (!((found j).slot==0)) (ask 6 (kS j.node) j) (ins7 {j with level:=-1})
 let r12 (j:SteM):β:=step j fun j=>I (!WO (found j) j.node) (part j 1) (link j)
 let rem1 (j:SteM):β:=step j fun j=>nil j (done {j with node:=found j} 2 0) (ask 2 (aM (af (found j) 6)) {j with node:=found j})
 let rem6 (j:SteM):β:=step j fun j=>part j 2
 let get1 (j:SteM):β:=step j fun j=>nil j (done {j with node:=found j} 2 0) (ask 2 (aM (af (found j) 1)) {j with node:=found j})
 let tail (j:SteM):β:=step j fun j=>ask 104 (fP j.node) j
 I (j.pc==-1) (L (j.last,j))
 (I (decide (j.pc>=101))
   (I (j.pc==101) (I (x.w.num==0) (same j (ask 102 (bf (field j 7) x.w (eI x.w j.inc)) j)) (tail (seek j 103 (bH j.op.key))))
   (I (j.pc==102) (I x.ok (done j 1 j.val) (tail (seek j 103 (bH j.op.key))))
   (I (j.pc==104) (done j 1 j.val) (tail j))))
 (if j.op.kind=6 then
   I (decide (j.pc>=9))
     (I (j.pc==9) (I x.w.mark (part j 1) (I (!KV x.w (place j j.level).2) (ask 10 (bf (field j (cA 2 j.level)) x.w (wTo x.w (place j j.level).2)) j) (ask 11 (bf (place j j.level).1 (place j j.level).2 (wTo (place j j.level).2 j.node)) j)))
     (I (j.pc==10) (I (!x.ok) (link j) (ask 11 (bf (place j j.level).1 (place j j.level).2 (wTo (place j j.level).2 j.node)) j))
     (I (j.pc==11) (I x.ok (link {j with level:=bH j.level}) (r12 (seek j 12 j.op.key)))
     (I (j.pc==12) (r12 j)
     (L (j.last,j))))))
     (I (j.pc==0) (ask 1 fV j)
     (I (j.pc==1) (I (!x.ok) (done j 4 0) (same {j with node:=x.w} (ask 2 (bz (af x.w 0) (dt j.op.key)) {j with node:=x.w})))
     (I (j.pc==2) (same j (ask 3 (bz (field j 1) (dt j.op.val)) j))
     (I (j.pc==3) (same j (ask 4 (bz (field j 6) (dt j.op.tall)) j))
     (I (j.pc==6) (done j 3 0)
     (I (j.pc==8) (I x.ok (link {j with level:=1}) (ins5 (seek j 5 j.op.key)))
     (I (j.pc==4) (ins5 (seek j 5 j.op.key))
     (I (j.pc==5) (ins5 j)
     (I (j.pc==7) (ins7 j)
     (L (j.last,j)))))))))))
 else if j.op.kind=7 then
  I (j.pc==0) (rem1 (seek j 1 j.op.key))
  (I (j.pc==1) (rem1 j)
  (I (j.pc==2) (I (orB (decide (x.w.num < 1)) (decide (x.w.num > 3))) (ask 3 (aM (field j 1)) {j with level:=0}) (ask 3 (aM (field j 1)) {j with level:=IntKind.wrap .i64 (x.w.num - 1)}))
  (I (j.pc==3) (look {j with val:=x.w.num})
  (I (j.pc==4) (I (!x.w.mark) (ask 5 (bf (field j (cA 2 j.level)) x.w (jc x.w)) j) (I (j.level==0) (done j 2 0) (look {j with level:=IntKind.wrap .i64 (j.level - 1)})))
  (I (j.pc==5) (I (!x.ok) (look j) (I (decide (j.level > 0)) (look {j with level:=IntKind.wrap .i64 (j.level - 1)}) (rem6 (seek j 6 (bH j.op.key)))))
  (I (j.pc==6) (rem6 j)
  (L (j.last,j))))))))
 else
  I (j.pc==0) (get1 (seek j 1 j.op.key))
  (I (j.pc==1) (get1 j)
  (I (j.pc==2) (done j 1 x.w.num)
  (L (j.last,j))))))
def tN {α:Type} (b:Bool) (t:T α):T α:=.need b t
theorem Sv (σ:Sg) (pc:Int) (la:Cl) (key val tall:Int) (nd:W) (lv inc v:Int) (x:Rp1):(dJ σ wm 193 noM (aRp.enc x) (wz ⟨pc,la,⟨6,key,val,tall⟩,none,nd,lv,inc,v⟩) nK (bE 19 (SteM.wr ⟨pc,la,⟨6,key,val,tall⟩,none,nd,lv,inc,v⟩)) []).map (gp vCl oSte)=l7 tI tN tL ⟨pc,la,⟨6,key,val,tall⟩,none,nd,lv,inc,v⟩ x:=by kernel_rfl
theorem Su (σ:Sg) (pc:Int) (la:Cl) (key val tall:Int) (w:ClimbM) (nd:W) (lv inc v:Int) (x:Rp1):(dJ σ wm 193 noM (aRp.enc x) (wz ⟨pc,la,⟨6,key,val,tall⟩,some w,nd,lv,inc,v⟩) nK (bE 19 (SteM.wr ⟨pc,la,⟨6,key,val,tall⟩,some w,nd,lv,inc,v⟩)) []).map (gp vCl oSte)=l7 tI tN tL ⟨pc,la,⟨6,key,val,tall⟩,some w,nd,lv,inc,v⟩ x:=by kernel_rfl
theorem Ss (σ:Sg) (pc:Int) (la:Cl) (key val tall:Int) (nd:W) (lv inc v:Int) (x:Rp1):(dJ σ wm 193 noM (aRp.enc x) (wz ⟨pc,la,⟨7,key,val,tall⟩,none,nd,lv,inc,v⟩) nK (bE 19 (SteM.wr ⟨pc,la,⟨7,key,val,tall⟩,none,nd,lv,inc,v⟩)) []).map (gp vCl oSte)=l7 tI tN tL ⟨pc,la,⟨7,key,val,tall⟩,none,nd,lv,inc,v⟩ x:=by kernel_rfl
theorem Sr (σ:Sg) (pc:Int) (la:Cl) (key val tall:Int) (w:ClimbM) (nd:W) (lv inc v:Int) (x:Rp1):(dJ σ wm 193 noM (aRp.enc x) (wz ⟨pc,la,⟨7,key,val,tall⟩,some w,nd,lv,inc,v⟩) nK (bE 19 (SteM.wr ⟨pc,la,⟨7,key,val,tall⟩,some w,nd,lv,inc,v⟩)) []).map (gp vCl oSte)=l7 tI tN tL ⟨pc,la,⟨7,key,val,tall⟩,some w,nd,lv,inc,v⟩ x:=by kernel_rfl
theorem Sq (σ:Sg) (pc:Int) (la:Cl) (key val tall:Int) (nd:W) (lv inc v:Int) (x:Rp1):(dJ σ wm 193 noM (aRp.enc x) (wz ⟨pc,la,⟨8,key,val,tall⟩,none,nd,lv,inc,v⟩) nK (bE 19 (SteM.wr ⟨pc,la,⟨8,key,val,tall⟩,none,nd,lv,inc,v⟩)) []).map (gp vCl oSte)=l7 tI tN tL ⟨pc,la,⟨8,key,val,tall⟩,none,nd,lv,inc,v⟩ x:=by kernel_rfl
theorem So (σ:Sg) (pc:Int) (la:Cl) (key val tall:Int) (w:ClimbM) (nd:W) (lv inc v:Int) (x:Rp1):(dJ σ wm 193 noM (aRp.enc x) (wz ⟨pc,la,⟨8,key,val,tall⟩,some w,nd,lv,inc,v⟩) nK (bE 19 (SteM.wr ⟨pc,la,⟨8,key,val,tall⟩,some w,nd,lv,inc,v⟩)) []).map (gp vCl oSte)=l7 tI tN tL ⟨pc,la,⟨8,key,val,tall⟩,some w,nd,lv,inc,v⟩ x:=by kernel_rfl
theorem vN {α:Type} {b:Bool} {t:T (Option α)} {x:α} (h:b=true) (h1:t.val=some (some x)):(tN b t).val=some (some x):=by subst h;exact h1
noncomputable def ax (j:SteM) (x:Rp1):Cl×SteM:=l7 cond (fun _ t=>t) id j x
def CI (j:SteM):Bool:=match j.climb with
 | none=>decide (j.op.kind=6 \/ j.op.kind=7 \/ j.op.kind=8)
 | some c=>match mN c with | true=>decide (j.op.kind=6 \/ j.op.kind=7 \/ j.op.kind=8) | false=>false
theorem Sk:FnOk Tryz.prog (NV σ) 193 (aZ isS noM (dK aRp vCl oSte (fun j _=>some (CI j)) ax)) :=
 ij JS rfl fun j x h=>by
  obtain⟨pc,la,⟨kd,key,val,tall⟩,w,nd,lv,inc,v⟩:=j
  cases w with
  | none =>
    have h:kd=6 \/ kd=7 \/ kd=8:=of_decide_eq_true h
    rcases h with rfl | rfl | rfl
    ·exact⟨nK,bE 19 (SteM.wr ⟨pc,la,⟨6,key,val,tall⟩,none,nd,lv,inc,v⟩),rfl,aRp.enc x,rfl,fun _=>rfl,by
      rw [Sv];unfold l7 ax l7;dsimp only;simp only [if_true]
      repeat' first | apply vI | exact vL | (refine vN (gO _ _) ?_) | (refine vN rfl ?_)⟩
    ·exact⟨nK,bE 19 (SteM.wr ⟨pc,la,⟨7,key,val,tall⟩,none,nd,lv,inc,v⟩),rfl,aRp.enc x,rfl,fun _=>rfl,by
      rw [Ss];unfold l7 ax l7;dsimp only;simp only [show ¬(7:Int)=6 by decide,if_false,if_true]
      repeat' first | apply vI | exact vL | (refine vN (gO _ _) ?_) | (refine vN rfl ?_)⟩
    ·exact⟨nK,bE 19 (SteM.wr ⟨pc,la,⟨8,key,val,tall⟩,none,nd,lv,inc,v⟩),rfl,aRp.enc x,rfl,fun _=>rfl,by
      rw [Sq];unfold l7 ax l7;dsimp only;simp only [show ¬(8:Int)=6 by decide,if_false,show ¬(8:Int)=7 by decide]
      repeat' first | apply vI | exact vL | (refine vN (gO _ _) ?_) | (refine vN rfl ?_)⟩
  | some w =>
    have h:(match mN w with | true=>decide (kd=6 \/ kd=7 \/ kd=8) | false=>false)=true:=h
    cases hw:mN w with
    | false=>rw [hw] at h;cases h
    | true =>
    rw [hw] at h
    have h:kd=6 \/ kd=7 \/ kd=8:=of_decide_eq_true h
    rcases h with rfl | rfl | rfl
    ·exact⟨nK,bE 19 (SteM.wr ⟨pc,la,⟨6,key,val,tall⟩,some w,nd,lv,inc,v⟩),rfl,aRp.enc x,rfl,fun _=>rfl,by
      rw [Su];unfold l7 ax l7;dsimp only;simp only [if_true]
      repeat' first | apply vI | exact vL | (refine vN (gO _ _) ?_) | (refine vN hw ?_) | (refine vN rfl ?_)⟩
    ·exact⟨nK,bE 19 (SteM.wr ⟨pc,la,⟨7,key,val,tall⟩,some w,nd,lv,inc,v⟩),rfl,aRp.enc x,rfl,fun _=>rfl,by
      rw [Sr];unfold l7 ax l7;dsimp only;simp only [show ¬(7:Int)=6 by decide,if_false,if_true]
      repeat' first | apply vI | exact vL | (refine vN (gO _ _) ?_) | (refine vN hw ?_) | (refine vN rfl ?_)⟩
    ·exact⟨nK,bE 19 (SteM.wr ⟨pc,la,⟨8,key,val,tall⟩,some w,nd,lv,inc,v⟩),rfl,aRp.enc x,rfl,fun _=>rfl,by
      rw [So];unfold l7 ax l7;dsimp only;simp only [show ¬(8:Int)=6 by decide,if_false,show ¬(8:Int)=7 by decide]
      repeat' first | apply vI | exact vL | (refine vN (gO _ _) ?_) | (refine vN hw ?_) | (refine vN rfl ?_)⟩
end
section
open Go Go.Sx Go.Proofs
set_option maxRecDepth 100000
variable {σ:Sg}
def vAd:ValK Ad where
 enc x:=.v (.agg [.it .i64 x.s,.it .i64 x.g,.it .i64 x.f])
 dec:=fun | .v (.agg [.it .i64 a,.it .i64 b,.it .i64 c])=>some ⟨a,b,c⟩ | _=>none
 ok:=fun v b h=>by split at h<;>cases h;rfl
def Hs:ValK Int where
 enc n:=.v (.c (.it .i64 n))
 dec:=fun | .v (.c (.it .i64 n))=>some n | _=>none
 ok:=fun v b h=>by split at h<;>cases h;rfl
def n7 (n:Int):Bool:=decide (0<=n /\ n < 24)
theorem VS (σ:Sg) (n:Int):(gg σ bm 52 noM (aI.enc n) []).map (kP vAd)=.ite (orB (decide (n < 0)) (decide (n>=24))) (.fail "load") (.leaf (some ⟨0,0,IntKind.wrap .i64 (0+n)⟩)):=by kernel_rfl
theorem jl {m:Int} (h:-9223372036854775808<=m /\ m<=9223372036854775807):IntKind.wrap .i64 m=m:=by
 unfold IntKind.wrap
 simp only [IntKind.bits,IntKind.signed]
 first | omega | (simp;omega)
theorem ON:FnOk Tryz.prog (NV σ) 52 (aZ isS noM (rW aI vAd (fun n=>some (n7 n)) aC)) :=
 pf aJ rfl fun n h=>⟨aI.enc n,rfl,fun _=>rfl,by
  have h:0<=n /\ n < 24:=of_decide_eq_true h
  have e:orB (decide (n < 0)) (decide (n>=24))=false:=by
   rw [decide_eq_false (show ¬n < 0 by omega),decide_eq_false (show ¬n>=24 by omega)];rfl
  rw [VS,e]
  show some (some (⟨0,0,_⟩:Ad))=_
  rw [jl (by omega:-9223372036854775808<=0+n /\ 0+n<=9223372036854775807),Int.zero_add];rfl⟩
def b4 (c:Int):Int:=if c=0 then 0 else if c=1 then 256 else if c=2 then 128 else if c=3 then 384 else if c=4 then 64 else if c=5 then 320 else if c=6 then 192 else 448
def VU (n:Nat):Nat:=n % 2 * 128+n / 2 % 2 * 64+n / 4 % 2 * 32+n / 8 % 2 * 16+n / 16 % 2 * 8+n / 32 % 2 * 4+n / 64 % 2 * 2+n / 128 % 2
def gd (k:Int):Int:=2 * (VU k.toNat:Int)+1
def tf (c:Int):Bool:=decide (0<=c /\ c < 8)
def wZ (k:Int):Bool:=decide (0<=k /\ k < 256)
def GK (t:T (Option Int)) (n:Int):Bool:=match t with | .leaf (some m)=>decide (m=n) | _=>false
theorem xD {t:T (Option Int)} {n:Int} (h:GK t n=true):t.val=some (some n):=by
 unfold GK at h
 split at h
 ·rw [of_decide_eq_true h];rfl
 ·cases h
def Fy (p:Nat->Bool):Nat->Bool
 | 0=>true
 | k+1=>match p k with | true=>Fy p k | false=>false
theorem mF {p:Nat->Bool}:∀{n:Nat},Fy p n=true->∀k,k < n->p k=true
 | 0,_,k,h=>by omega
 | n+1,h,k,hk=>by
   simp only [Fy] at h
   split at h
   ·rename_i hn
    rcases Nat.lt_succ_iff_lt_or_eq.1 hk with hk | rfl
    ·exact mF h k hk
    ·exact hn
   ·cases h
theorem Qq (σ:Sg):Fy (fun k=>GK ((gg σ bm 187 noM [.v (.c (.il .i64 (Int.ofNat k)))] []).map (kP Hs)) (b4 (Int.ofNat k))) 8=true:=by kernel_rfl
theorem SY (σ:Sg):Fy (fun k=>GK ((gg σ bm 188 noM [.v (.c (.il .i64 (Int.ofNat k)))] []).map (kP Hs)) (gd (Int.ofNat k))) 256=true:=by kernel_rfl
theorem Qp:FnOk Tryz.prog (NV σ) 187 (aZ isS noM (rW aI Hs (fun n=>some (tf n)) b4)) :=
 pf aJ rfl fun n h=>by
  have h:0<=n /\ n < 8:=of_decide_eq_true h
  obtain⟨k,rfl⟩:∃k:Nat,n=Int.ofNat k:=⟨n.toNat,by simp;omega⟩
  exact⟨[.v (.c (.il .i64 (Int.ofNat k)))],rfl,fun _=>rfl,xD (mF (Qq σ) k (by have:=h.2;simp at this;omega))⟩
theorem SX:FnOk Tryz.prog (NV σ) 188 (aZ isS noM (rW aI Hs (fun n=>some (wZ n)) gd)) :=
 pf aJ rfl fun n h=>by
  have h:0<=n /\ n < 256:=of_decide_eq_true h
  obtain⟨k,rfl⟩:∃k:Nat,n=Int.ofNat k:=⟨n.toNat,by simp;omega⟩
  exact⟨[.v (.c (.il .i64 (Int.ofNat k)))],rfl,fun _=>rfl,xD (mF (SY σ) k (by have:=h.2;simp at this;omega))⟩
def RM:ArgK (Ad×Int×O) where
 enc x:=[.v (.agg [.it .i64 x.1.s,.it .i64 x.1.g,.it .i64 x.1.f]),.v (.c (.it .i64 x.2.1)),.v (.agg x.2.2.enc)]
 dec:=fun | [.v (.agg [c0,c1,c2]),.v (.c c3),.v (.agg [c4,c5,c6,c7])]=>(match iOf c0,iOf c1,iOf c2,iOf c3,iOf c4,iOf c5,iOf c6,iOf c7 with | some a,some b,some c,some n,some k,some e,some v,some t=>some (⟨a,b,c⟩,n,⟨k,e,v,t⟩) | _,_,_,_,_,_,_,_=>none) | _=>none
 ok:=fun l a h ρ=>by
  split at h
  ·split at h
   ·rename_i h0 h1 h2 h3 h4 h5 h6 h7
    cases h
    simp only [List.map_cons,List.map_nil,SV.den,V1.den,ah,O.enc,bp h0 ρ,bp h1 ρ,bp h2 ρ,bp h3 ρ,bp h4 ρ,bp h5 ρ,bp h6 ρ,bp h7 ρ]
    rfl
   ·cases h
  ·cases h
 free:=fun _=>rfl
def fq (x:Ad×Int×O):LitM:=⟨0,aD,x.1,x.2.1,x.2.2,none,wNil,0⟩
def Bl (o:O):Bool:=decide (o.kind=6 \/ o.kind=7 \/ o.kind=8)
theorem W4 (σ:Sg) (k:Nat) (a:Ad) (n e v t:Int):k=6 \/ k=7 \/ k=8->(gg σ bm 68 noM [.v (.agg [.it .i64 a.s,.it .i64 a.g,.it .i64 a.f]),.v (.c (.it .i64 n)),.v (.agg [.il .i64 (Int.ofNat k),.it .i64 e,.it .i64 v,.it .i64 t])] []).map (IV oLit)=tL (fq (a,n,⟨Int.ofNat k,e,v,t⟩)):=by
 rintro (rfl | rfl | rfl)
 ·kernel_rfl
 ·kernel_rfl
 ·kernel_rfl
theorem PR:FnOk Tryz.prog (NV σ) 68 (aZ isS noM (CP RM oLit (fun x=>some (Bl x.2.2)) fq)) :=
 Bp aJ rfl fun x h=>by
  obtain⟨a,n,⟨k,e,v,t⟩⟩:=x
  have h:k=6 \/ k=7 \/ k=8:=of_decide_eq_true h
  obtain⟨i,rfl,hi⟩:∃i:Nat,k=Int.ofNat i /\ (i=6 \/ i=7 \/ i=8):=by
   rcases h with rfl | rfl | rfl
   ·exact⟨6,rfl,by decide⟩
   ·exact⟨7,rfl,by decide⟩
   ·exact⟨8,rfl,by decide⟩
  exact⟨[.v (.agg [.it .i64 a.s,.it .i64 a.g,.it .i64 a.f]),.v (.c (.it .i64 n)),.v (.agg [.il .i64 (Int.ofNat i),.it .i64 e,.it .i64 v,.it .i64 t])],rfl,fun _=>rfl,by rw [W4 σ i a n e v t hi];rfl⟩
noncomputable def JK:Tab:=aQ 52 (aZ isS noM (rW aI vAd (fun n=>some (n7 n)) aC)) (aQ 187 (aZ isS noM (rW aI Hs (fun n=>some (tf n)) b4)) (aQ 188 (aZ isS noM (rW aI Hs (fun n=>some (wZ n)) gd))
 (aQ 68 (aZ isS noM (CP RM oLit (fun x=>some (Bl x.2.2)) fq)) (aQ 152 (aZ isS noM (jy aRp vCl oLit (fun _ _=>none) bj aD)) Ca))))
theorem JJ:bO Tryz.prog (NV σ) JK:=au ON (au Qp (au SX (au PR (au L9 B9))))
@[reducible] def oVau:ObK VauM:=⟨AU,Hq,fun _ _=>AR,fun _=>rfl⟩
end
section
open Go Go.Sx Go.Proofs
set_option maxRecDepth 100000
variable {σ:Sg}
def lK (b:Int):Int:=if b=3 then 1 else if b=5 then 1 else if b=6 then 2 else if b=7 then 3 else 0
def szN (n:Int):Int:=match n==2 with
 | true=>(match n==2 with | true=>n | false=>1)
 | false=>match n==4 with
   | true=>(match n==4 with | true=>n | false=>1)
   | false=>match n==8 with | true=>n | false=>1
def fQ:Nat->Int->Int->Int
 | 0,c,_=>c
 | k+1,c,b=>if lK c=b then c else fQ k (lK c) b
noncomputable def JB {β:Type} (I:Bool->β->β->β) (N:Bool->β->β) (L:Cl×VauM->β) (j:VauM) (x:Rp1):β :=
 let ask (n:Int) (c:Cl) (j:VauM):β:=L (c,{j with pc:=n})
 let done (a:An) (j:VauM):β:=L (⟨12,dX,wNil,wNil,0,0,a⟩,{j with pc:=-1,last:=⟨12,dX,wNil,wNil,0,0,a⟩})
 let root (n:Int) (k:Ad->β):β:=N (n7 n) (k (aC n))
 let rootB (b:Int) (k:Ad->β):β:=root (cA 8 b) k
 let fin11 (c:Cl) (j:VauM):β:=I (c.kind != 12) (L (c,j)) (I (orB (c.ans.code != 1) (j.op.kind==8)) (done c.ans {j with answer:=c.ans}) (root 17 fun a=>ask 12 (aM a) {j with answer:=c.ans}))
 let nO (x:Rp1) (j:VauM):β:=match j.inner with
  | none=>fin11 aD j
  | some l=>fin11 (bj l x).1 {j with inner:=some (bj l x).2}
 let perform (j:VauM):β:=N (wZ j.op.key) (N (Bl j.op) (nO ⟨wNil,false⟩ {j with inner:=some (fq (af j.base 2,gd j.op.key,j.op)),pc:=11}))
 let descend (j:VauM):β:=if j.bucket=j.wanted then perform j else ask 3 fV {j with child:=fQ 4 j.wanted j.bucket}
 let place (j:VauM):Ad×W×W:=match j.walk with | none=>(dX,wNil,wNil) | some w=>(w.prev,w.cur,w.next)
 let found (j:VauM):Bool:=match j.walk with | none=>false | some w=>w.found
 let walk5 (j:VauM):β :=
  let k (j:VauM):β:=I (found j) (ask 6 (kS j.node) {j with sentinel:=bP (place j).2.1}) (ask 7 (bz (af j.node 2) (bP (place j).2.1)) j)
  match j.walk with
  | none=>I false (L (aD,j)) (k j)
  | some w=>I (aG w x).1.2 (L ((aG w x).1.1,{j with walk:=some (aG w x).2})) (k {j with walk:=some (aG w x).2})
 let seek (j:VauM):β:=N (tf j.child) (walk5 {j with walk:=some (dS (af j.base 2,b4 j.child)),pc:=5})
 if j.pc=0 then root 16 fun a=>ask 1 (aM a) j
 else if j.pc=1 then
  N (szN x.w.num != 0) (rootB (Int.tmod j.op.key (szN x.w.num)) fun a=>ask 2 (aM a) {j with size:=szN x.w.num,wanted:=Int.tmod j.op.key (szN x.w.num),bucket:=Int.tmod j.op.key (szN x.w.num)})
 else if j.pc=2 then
  I (!(x.w.slot==0)) (descend {j with base:=x.w}) (if j.bucket=0 then done ⟨4,0⟩ j else rootB (lK j.bucket) fun a=>ask 2 (aM a) {j with bucket:=lK j.bucket})
 else if j.pc=11 then nO x j
 else if j.pc=12 then I (j.op.kind==7) (root 17 fun a=>ask 13 (bf a x.w (eI x.w (-1))) {j with count:=x.w}) (root 17 fun a=>ask 13 (bf a x.w (eI x.w 1)) {j with count:=x.w})
 else if j.pc=13 then I (!x.ok) (root 17 fun a=>ask 12 (aM a) j) (I (orB (j.op.kind==7) (orB (j.size==8) (decide (j.count.num < IntKind.wrap .i64 (2 * j.size))))) (done j.answer j) (root 16 fun a=>ask 14 (aM a) j))
 else if j.pc=14 then I (x.w.num==j.size) (root 16 fun a=>ask 15 (bf a x.w (eI x.w j.size)) j) (done j.answer j)
 else if j.pc=15 then done j.answer j
 else if j.pc=-1 then L (j.last,j)
 else if j.pc=3 then I (!x.ok) (perform j) (N (tf j.child) (ask 4 (bz (af x.w 0) (dt (b4 j.child))) {j with node:=x.w}))
 else if j.pc=8 then I x.ok (rootB j.child fun a=>ask 9 (aM a) {j with sentinel:=j.node}) (seek j)
 else if j.pc=4 then seek j
 else if j.pc=5 then walk5 j
 else if j.pc=7 then ask 8 (bf (place j).1 (place j).2.1 (wTo (place j).2.1 j.node)) j
 else if j.pc=6 then rootB j.child fun a=>ask 9 (aM a) j
 else if j.pc=9 then I (x.w.slot==0) (rootB j.child fun a=>ask 10 (bf a x.w (wTo x.w j.sentinel)) j) (descend {j with base:=j.sentinel,bucket:=j.child})
 else if j.pc=10 then descend {j with base:=j.sentinel,bucket:=j.child}
 else L (j.last,j)
noncomputable def VR (σ:Sg) (ks:List Nat) (j:VauM) (x:Rp1):T (Option (Cl×VauM)):=(dJ σ JK 174 noM (aRp.enc x) (AU j) Cd (ks.foldl (fun g k=>bE k g) (VauM.wr j)) []).map (gp vCl oVau)
def Jj (σ:Sg) (j:VauM) (x:Rp1):Prop:=∃gs,j5 σ (AU j)=some (dw AV.len Cd (eO gs)) /\ (dJ σ JK 174 noM (aRp.enc x) (AU j) Cd gs []).map (gp vCl oVau)=JB tI tN tL j x
end
section
open Go Go.Sx Go.Proofs
set_option maxRecDepth 100000
variable {σ:Sg}
def inZ:Int->List Int->Bool
 | _,[]=>false
 | n,m::r=>orB (decide (n=m)) (inZ n r)
theorem mV {n:Int}:∀{l:List Int},inZ n l=true->n∈l
 | [],h=>by cases h
 | m::r,h=>by
   unfold inZ orB at h
   cases hd:decide (n=m) with
   | true=>rw [of_decide_eq_true hd];exact List.mem_cons_self
   | false=>rw [hd] at h;exact List.mem_cons_of_mem _ (mV h)
def SU:List Int:=[0,1,3,4,5,6,7,8,11,12,13,14,15,-1]
def fD (wanted bucket:Int):Bool :=
 orB (eB (decide (wanted=0)) (inZ bucket [0])) (
 orB (eB (decide (wanted=1)) (inZ bucket [1,0])) (
 orB (eB (decide (wanted=2)) (inZ bucket [2,0])) (
 orB (eB (decide (wanted=3)) (inZ bucket [3,1,0])) (
 orB (eB (decide (wanted=4)) (inZ bucket [4,0])) (
 orB (eB (decide (wanted=5)) (inZ bucket [5,1,0])) (
 orB (eB (decide (wanted=6)) (inZ bucket [6,2,0])) (
 orB (eB (decide (wanted=7)) (inZ bucket [7,3,1,0])) (
 false))))))))
def pM (wanted child:Int):Bool :=
 orB (eB (decide (wanted=1)) (inZ child [1])) (
 orB (eB (decide (wanted=2)) (inZ child [2])) (
 orB (eB (decide (wanted=3)) (inZ child [3,1])) (
 orB (eB (decide (wanted=4)) (inZ child [4])) (
 orB (eB (decide (wanted=5)) (inZ child [5,1])) (
 orB (eB (decide (wanted=6)) (inZ child [6,2])) (
 orB (eB (decide (wanted=7)) (inZ child [7,3,1])) (
 false)))))))
def Il (j:VauM):Bool :=
 eB (wZ j.op.key) (eB (Bl j.op) (eB (tf j.child) (orB (inZ j.pc SU) (orB (eB (decide (j.pc=2)) (fD j.wanted j.bucket)) (eB (orB (decide (j.pc=9)) (decide (j.pc=10))) (pM j.wanted j.child))))))
theorem uH {a b:Bool} (h:orB a b=true):a=true \/ b=true:=by unfold orB at h;cases a<;>simp_all
theorem iZ {a b:Bool} (h:eB a b=true):a=true /\ b=true:=by unfold eB at h;cases a<;>simp_all
theorem vaK {j:VauM} {x:Rp1} (ks:List Nat) (h1:j5 σ (AU j)=some (dw AV.len Cd (eO (ks.foldl (fun g k=>bE k g) (VauM.wr j))))) (h2:VR σ ks j x=JB tI tN tL j x):Jj σ j x:=⟨_,h1,h2⟩
theorem vaA (σ:Sg) (j:VauM) (x:Rp1) (h:inZ j.pc SU=true):Jj σ j x:=by
 have h:=mV h
 obtain⟨pc,last,op,size,wanted,bucket,child,base,node,sentinel,walk,inner,answer,count⟩:=j
 simp only [SU,List.mem_cons,List.not_mem_nil,or_false] at h
 rcases h with rfl | rfl | rfl | rfl | rfl | rfl | rfl | rfl | rfl | rfl | rfl | rfl | rfl | rfl<;>cases walk<;>cases inner<;>exact vaK [0] (by as_aux_lemma=>kernel_rfl) (by as_aux_lemma=>kernel_rfl)
theorem vaB (σ:Sg) (j:VauM) (x:Rp1) (hp:j.pc=2) (h:fD j.wanted j.bucket=true):Jj σ j x:=by
 obtain⟨pc,last,op,size,wanted,bucket,child,base,node,sentinel,walk,inner,answer,count⟩:=j
 dsimp only at h hp
 subst hp
 unfold fD at h
 repeat (rcases uH h with h | h;· (obtain⟨hw,h⟩:=iZ h;have hw:=of_decide_eq_true hw;subst hw;have h:=mV h;simp only [List.mem_cons,List.not_mem_nil,or_false] at h;(repeat' (rcases (h:_ \/ _) with h | h))<;>subst h<;>cases walk<;>cases inner<;>exact vaK [0,24,25] (by as_aux_lemma=>kernel_rfl) (by as_aux_lemma=>kernel_rfl)))
 cases h
theorem XF (σ:Sg) (j:VauM) (x:Rp1) (hj:j.pc=9) (h:pM j.wanted j.child=true):Jj σ j x:=by
 obtain⟨pc,last,op,size,wanted,bucket,child,base,node,sentinel,walk,inner,answer,count⟩:=j
 dsimp only at h hj
 subst hj
 unfold pM at h
 repeat (rcases uH h with h | h;· (obtain⟨hw,h⟩:=iZ h;have hw:=of_decide_eq_true hw;subst hw;have h:=mV h;simp only [List.mem_cons,List.not_mem_nil,or_false] at h;(repeat' (rcases (h:_ \/ _) with h | h))<;>subst h<;>cases walk<;>cases inner<;>exact vaK [0,24,26] (by as_aux_lemma=>kernel_rfl) (by as_aux_lemma=>kernel_rfl)))
 cases h
theorem UH (σ:Sg) (j:VauM) (x:Rp1) (hj:j.pc=10) (h:pM j.wanted j.child=true):Jj σ j x:=by
 obtain⟨pc,last,op,size,wanted,bucket,child,base,node,sentinel,walk,inner,answer,count⟩:=j
 dsimp only at h hj
 subst hj
 unfold pM at h
 repeat (rcases uH h with h | h;· (obtain⟨hw,h⟩:=iZ h;have hw:=of_decide_eq_true hw;subst hw;have h:=mV h;simp only [List.mem_cons,List.not_mem_nil,or_false] at h;(repeat' (rcases (h:_ \/ _) with h | h))<;>subst h<;>cases walk<;>cases inner<;>exact vaK [0,24,26] (by as_aux_lemma=>kernel_rfl) (by as_aux_lemma=>kernel_rfl)))
 cases h
theorem R3 (σ:Sg) (j:VauM) (x:Rp1) (h:Il j=true):Jj σ j x:=by
 obtain⟨_,h⟩:=iZ h
 obtain⟨_,h⟩:=iZ h
 obtain⟨_,h⟩:=iZ h
 rcases uH h with h | h
 ·exact vaA σ j x h
 ·rcases uH h with h | h
  ·obtain⟨hp,h⟩:=iZ h
   exact vaB σ j x (of_decide_eq_true hp) h
  ·obtain⟨hp,h⟩:=iZ h
   rcases uH hp with hp | hp
   ·exact XF σ j x (of_decide_eq_true hp) h
   ·exact UH σ j x (of_decide_eq_true hp) h
theorem vIf {α:Type} {c:Prop} [Decidable c] {t e:T (Option α)} {x y:α} (h1:c->t.val=some (some x)) (h2:¬c->e.val=some (some y)):(if c then t else e).val=some (some (if c then x else y)):=by
 split
 ·exact h1 ‹_›
 ·exact h2 ‹_›
theorem lX (n:Int):szN n=1 \/ szN n=2 \/ szN n=4 \/ szN n=8:=by
 unfold szN
 cases h2:n==2 with
 | true=>have h2:=eq_of_beq h2;subst h2;exact .inr (.inl rfl)
 | false =>
   cases h4:n==4 with
   | true=>have h4:=eq_of_beq h4;subst h4;exact .inr (.inr (.inl rfl))
   | false =>
     cases h8:n==8 with
     | true=>have h8:=eq_of_beq h8;subst h8;exact .inr (.inr (.inr rfl))
     | false=>exact .inl rfl
theorem Ve (n:Int):(szN n != 0)=true:=by rcases lX n with h | h | h | h<;>rw [h]<;>rfl
theorem Gw {n:Int} (h0:0<=n) (h1:n < 8):n7 (cA 8 n)=true:=by
 unfold n7 cA
 rw [jl (by omega)]
 exact decide_eq_true (by omega)
theorem Pf {k:Int} (n:Int) (h:wZ k=true):n7 (cA 8 (Int.tmod k (szN n)))=true:=by
 have h:0<=k /\ k < 256:=of_decide_eq_true h
 have h1:0<=Int.tmod k (szN n):=Int.tmod_nonneg _ h.1
 have h2:Int.tmod k (szN n) < szN n:=Int.tmod_lt_of_pos k (by rcases lX n with h | h | h | h<;>omega)
 exact Gw h1 (by rcases lX n with h | h | h | h<;>omega)
theorem Pe (b:Int):n7 (cA 8 (lK b))=true:=by
 unfold lK
 split
 ·rfl
 split
 ·rfl
 split
 ·rfl
 split<;>rfl
theorem Pg {c:Int} (h:tf c=true):n7 (cA 8 c)=true:=by
 have h:0<=c /\ c < 8:=of_decide_eq_true h
 exact Gw h.1 h.2
theorem Jr {wanted child:Int} (h:pM wanted child=true):0<=wanted /\ wanted < 8 /\ 0<=child /\ child < 8:=by
 unfold pM at h
 repeat (rcases uH h with h | h;· (obtain⟨hw,h⟩:=iZ h;have hw:=of_decide_eq_true hw;have h:=mV h;simp only [List.mem_cons,List.not_mem_nil,or_false] at h;omega))
 cases h
theorem g9 {wanted bucket:Int} (h:fD wanted bucket=true):0<=wanted /\ wanted < 8 /\ 0<=bucket /\ bucket < 8:=by
 unfold fD at h
 repeat (rcases uH h with h | h;· (obtain⟨hw,h⟩:=iZ h;have hw:=of_decide_eq_true hw;have h:=mV h;simp only [List.mem_cons,List.not_mem_nil,or_false] at h;omega))
 cases h
noncomputable def aF (j:VauM) (x:Rp1):Cl×VauM:=JB cond (fun _ t=>t) id j x
set_option maxHeartbeats 4000000 in
theorem Od (j:VauM) (x:Rp1) (h:Il j=true):(JB tI tN tL j x).val=some (some (aF j x)):=by
 obtain⟨h1,h⟩:=iZ h
 obtain⟨h2,h⟩:=iZ h
 obtain⟨h3,h⟩:=iZ h
 obtain⟨pc,last,op,size,wanted,bucket,child,base,node,sentinel,walk,inner,answer,count⟩:=j
 unfold aF JB
 cases walk<;>cases inner<;>dsimp only at h1 h2 h3 ⊢ <;>
  repeat' first | (with_reducible exact vL) | (with_reducible apply vI) | (with_reducible refine vIf (fun _=>?_) (fun _=>?_)) | (with_reducible refine vN h1 ?_) | (with_reducible refine vN h2 ?_) | (with_reducible refine vN h3 ?_) | (with_reducible refine vN (Ve _) ?_) | (with_reducible refine vN (Pf _ h1) ?_) | (with_reducible refine vN (Pe _) ?_) | (with_reducible refine vN (Pg h3) ?_) | (refine vN (by decide) ?_)
theorem RW:FnOk Tryz.prog (NV σ) 174 (aZ isS noM (dK aRp vCl oVau (fun j _=>some (Il j)) aF)) :=
 ij JJ rfl fun j x h=>by
  obtain⟨gs,e1,e2⟩:=R3 σ j x h
  exact⟨Cd,gs,e1,aRp.enc x,rfl,fun _=>rfl,by rw [e2];exact Od j x h⟩
end
section
open Go Go.Sx Go.Proofs
set_option maxRecDepth 100000
def WOk (n:Int) (w:W):Prop:=0<=w.slot /\ w.slot<=n /\ (w.slot=0->w.gen=0)
def AOk (n:Int) (a:Ad):Prop:=(a.s=0 /\ a.g=0 /\ 0<=a.f /\ a.f < 85) \/ (1<=a.s /\ a.s<=n /\ 0<=a.f /\ a.f < 10)
def vr (i j:Int):Prop:=(i=1 /\ j=0) \/ (i=2 /\ j=1) \/ (i=4 /\ j=3) \/ (i=5 /\ j=4) \/ (i=7 /\ j=6) \/ (i=8 /\ j=7) \/ (i=2 /\ j=5) \/ (i=5 /\ j=8)
def nr (n:Int) (c:Cl):Prop:=WOk n c.old /\ WOk n c.new /\ (((c.kind=3 \/ c.kind=4 \/ c.kind=5) /\ AOk n c.adr) \/ (c.kind=6 /\ AOk n c.adr /\ 0<=c.i /\ c.i < 9 /\ c.j=0) \/ (c.kind=7 /\ vr c.i c.j) \/ c.kind=8 \/ ((c.kind=9 \/ c.kind=10) /\ 1<=c.old.slot))
def imm (c:Cl):Prop:=c.kind=7 \/ c.kind=10
section
variable {n:Int}
theorem ay (h:0<=n):WOk n wNil:=⟨Int.le_refl _,h,fun _=>rfl⟩
theorem dP (h:0<=n) (k:Int):WOk n (dt k):=⟨Int.le_refl _,h,fun _=>rfl⟩
theorem bo {w:W} (h:WOk n w):WOk n (bP w):=h
theorem b5 {w r:W} (h:WOk n r):WOk n (wTo w r):=h
theorem gE {w:W} (h:WOk n w):WOk n (jc w):=h
theorem lT (h:0<=n) {w:W} {k:Int}:WOk n (eI w k):=⟨Int.le_refl _,h,fun _=>rfl⟩
theorem aq {w:W} (h:WOk n w) {f:Int} (h0:0<=f) (h1:f < 10):AOk n (af w f):=by
 obtain⟨a,b,c⟩:=h
 by_cases e:w.slot=0
 ·exact .inl ⟨e,c e,h0,by show f < 85;omega⟩
 ·exact .inr ⟨by show 1<=w.slot;omega,b,h0,h1⟩
theorem dh {k:Int} (h0:0<=k) (h1:k < 85):AOk n (aC k):=.inl ⟨rfl,rfl,h0,h1⟩
theorem aO (h:0<=n) {a:Ad} (ha:AOk n a):nr n (aM a):=⟨ay h,ay h,.inl ⟨.inl rfl,ha⟩⟩
theorem aL (h:0<=n) {a:Ad} {w:W} (ha:AOk n a) (hw:WOk n w):nr n (bz a w):=⟨ay h,hw,.inl ⟨.inr (.inl rfl),ha⟩⟩
theorem aV {a:Ad} {o w:W} (ha:AOk n a) (ho:WOk n o) (hw:WOk n w):nr n (bf a o w):=⟨ho,hw,.inl ⟨.inr (.inr rfl),ha⟩⟩
theorem dk (h:0<=n) {a:Ad} {i:Int} (ha:AOk n a) (h0:0<=i) (h1:i < 9):nr n (aS a i):=⟨ay h,ay h,.inr (.inl ⟨rfl,ha,h0,h1,rfl⟩)⟩
theorem Au (h:0<=n) {i j:Int} (hp:vr i j):nr n (jQ i j):=⟨ay h,ay h,.inr (.inr (.inl ⟨rfl,hp⟩))⟩
theorem dY (h:0<=n):nr n fV:=⟨ay h,ay h,.inr (.inr (.inr (.inl rfl)))⟩
theorem gW (h:0<=n) {w:W} (hw:WOk n w) (h1:1<=w.slot):nr n (kS w):=⟨hw,ay h,.inr (.inr (.inr (.inr ⟨.inl rfl,h1⟩)))⟩
theorem eG (h:0<=n) {w:W} (hw:WOk n w) (h1:1<=w.slot):nr n (fP w):=⟨hw,ay h,.inr (.inr (.inr (.inr ⟨.inr rfl,h1⟩)))⟩
end
def Res (n:Int) (c:Cl):Prop:=c.kind=12 \/ nr n c
def hdW (c:Cl):Prop:=(c.kind=4 \/ c.kind=5)->c.adr.s=0->c.adr.f=0->1<=c.new.slot
theorem zR {c:Cl} {k:Int} (e:c.kind=k) (h4:k≠4) (h5:k≠5):hdW c:=fun h _ _=>by
 rcases h with h | h
 ·exact absurd (e.symm.trans h) h4
 ·exact absurd (e.symm.trans h) h5
theorem RF {c:Cl} {k:Int} (e:c.adr.f=k) (h:k≠0):hdW c:=fun _ _ h2=>absurd (e.symm.trans h2) h
structure RpFor (n:Int) (hd:Bool) (c:Cl) (x:Rp1):Prop where
 w:WOk n x.w
 al:c.kind=8->x.ok=true->1<=x.w.slot
 hd:hd=true->c.kind=6->c.adr.s=0->c.adr.f=0->1<=x.w.slot
structure NextOk (n:Int) (c:Cl) (ok aw:Prop) (r0 r1:Nat):Prop where
 res:Res n c
 wf:ok
 rk:imm c->r1 < r0
 aw:aw
theorem fw {c:Cl} {k:Int} (e:c.kind=k) (h7:k≠7) (h10:k≠10):¬imm c:=fun h=>by
 rcases h with h | h
 ·exact h7 (e.symm.trans h)
 ·exact h10 (e.symm.trans h)
theorem cF {a:Ad}:¬imm (aM a):=fw (k:=3) rfl (by decide) (by decide)
theorem dN {a:Ad} {w:W}:¬imm (bz a w):=fw (k:=4) rfl (by decide) (by decide)
theorem dA {a:Ad} {v w:W}:¬imm (bf a v w):=fw (k:=5) rfl (by decide) (by decide)
theorem jE {a:Ad} {i:Int}:¬imm (aS a i):=fw (k:=6) rfl (by decide) (by decide)
theorem fg:¬imm fV:=fw (k:=8) rfl (by decide) (by decide)
theorem gk {w:W}:¬imm (kS w):=fw (k:=9) rfl (by decide) (by decide)
theorem iu {a b:Int}:¬imm (fx a b):=fw (k:=12) rfl (by decide) (by decide)
theorem dF {α:Type} {P:α->Prop} {b:Bool} {t e:α} (h1:b=true->P t) (h2:b=false->P e):P (cond b t e):=by
 cases b
 ·exact h2 rfl
 ·exact h1 rfl
theorem eqI {a b:Int} (h:(a==b)=true):a=b:=of_decide_eq_true h
theorem neI {a b:Int} (h:(a==b)=false):a≠b:=of_decide_eq_false h
structure PileM.WF (n:Int) (j:PileM):Prop where
 kd:j.op.kind=1 \/ j.op.kind=2 \/ j.op.kind=3
 pc:j.pc=-1 \/ j.pc=0 \/ j.pc=1 \/ j.pc=2 \/ j.pc=3 \/ j.pc=4 \/ j.pc=5
 last:j.pc=-1->j.last.kind=12
 node:WOk n j.node
 top:WOk n j.top
 nz:j.op.kind≠1->(j.pc=2 \/ j.pc=3 \/ j.pc=4)->1<=j.top.slot
def PileM.rk (j:PileM):Nat:=if j.pc=4 then 1 else 0
def XC (n:Int) (r0:Nat) (r:Cl×PileM):Prop:=NextOk n r.1 (r.2.WF n) True r0 r.2.rk
theorem O5 {n:Int} (h0:0<=n) {j:PileM} (h:j.WF n) {x:Rp1} (hx:WOk n x.w):XC n j.rk (jv j x):=by
 obtain⟨pc,last,⟨kd,key,val,tall⟩,node,top,v⟩:=j
 obtain⟨hk,hp,hl,hn,ht,hz⟩:=h
 dsimp only at hk hp hl hn ht hz
 have nx:0<=x.w.slot:=hx.1
 unfold jv zm
 dsimp only [id]
 rcases hk with rfl | rfl | rfl<;>rcases hp with rfl | rfl | rfl | rfl | rfl | rfl | rfl <;>
  (repeat' (refine dF (fun hb=>?_) (fun hb=>?_)<;>first | (exact absurd hb (by decide)) | skip)) <;>
  (refine⟨?_,⟨?_,?_,?_,?_,?_,?_⟩,?_,trivial⟩)
 all_goals dsimp only [PileM.rk]
 all_goals first
  | exact .inl rfl
  | exact .inl (hl rfl)
  | exact .inr (dY h0)
  | exact .inr (aO h0 (dh (by decide) (by decide)))
  | exact .inr (dk h0 (dh (by decide) (by decide)) (by decide) (by decide))
  | exact .inr (dk h0 (aq (by assumption) (by decide) (by decide)) (by decide) (by decide))
  | exact .inr (aO h0 (aq (by assumption) (by decide) (by decide)))
  | exact .inr (aL h0 (aq (by assumption) (by decide) (by decide)) (dP h0 _))
  | exact .inr (aL h0 (aq (by assumption) (by decide) (by decide)) (bo hx))
  | exact .inr (aV (dh (by decide) (by decide)) (by assumption) (b5 (by assumption)))
  | exact .inr (aV (aq (by assumption) (by decide) (by decide)) (by assumption) (b5 (by assumption)))
  | exact .inr (eG h0 (by assumption) (hz (by decide) (by decide)))
  | assumption
  | exact fun _=>rfl
  | (intro h;first | exact absurd h (by decide) | exact absurd h cF | exact absurd h dN | exact absurd h dA | exact absurd h jE | exact absurd h fg | exact absurd h gk | exact absurd h iu | exact absurd h (fw (hl rfl) (by decide) (by decide)))
  | (intro h1 h2;first | (exact absurd rfl h1) | (exact absurd h1 (by decide)) | (exact absurd h2 (by decide)) | exact hz h1 (by decide) | (have:=neI (by assumption:(x.w.slot==0)=false);omega))
  | (intro _;simp)
  | decide
structure CortM.WF (n:Int) (j:CortM):Prop where
 kd:j.op.kind=4 \/ j.op.kind=5
 pc:j.pc=-1 \/ j.pc=0 \/ j.pc=1 \/ j.pc=2 \/ j.pc=3 \/ j.pc=4 \/ j.pc=5 \/ j.pc=6 \/ j.pc=7 \/ j.pc=8
 last:j.pc=-1->j.last.kind=12
 node:WOk n j.node
 h:WOk n j.h
 t:WOk n j.t
 n:WOk n j.n
 hz:j.op.kind≠4->(j.pc=2 \/ j.pc=3 \/ j.pc=4 \/ j.pc=6 \/ j.pc=7)->1<=j.h.slot
 nz:j.op.kind≠4->(j.pc=6 \/ j.pc=7)->1<=j.n.slot
def CortM.aw (c:Cl) (j:CortM):Prop:=j.op.kind≠4->j.pc=1->c.kind=6 /\ c.adr=aC 0
def CortM.rk (j:CortM):Nat:=if j.pc=7 then 1 else 0
def XD (n:Int) (r0:Nat) (r:Cl×CortM):Prop:=NextOk n r.1 (r.2.WF n) (r.2.aw r.1 /\ hdW r.1) r0 r.2.rk
theorem Qa {n:Int} (h0:0<=n) {j:CortM} (h:j.WF n) {c:Cl} (ha:j.aw c) {x:Rp1} (hr:RpFor n true c x):XD n j.rk (iy j x):=by
 obtain⟨pc,last,⟨kd,key,val,tall⟩,node,hh,tt,nn,v⟩:=j
 obtain⟨hk,hp,hl,hn,h1,h2,h3,hz,nz⟩:=h
 dsimp only [CortM.aw] at hk hp hl hn h1 h2 h3 hz nz ha
 have hx:WOk n x.w:=hr.w
 have nx:0<=x.w.slot:=hx.1
 have nn0:0<=nn.slot:=h3.1
 unfold iy yj
 dsimp only [id]
 rcases hk with rfl | rfl<;>rcases hp with rfl | rfl | rfl | rfl | rfl | rfl | rfl | rfl | rfl | rfl <;>
  (repeat' (refine dF (fun hb=>?_) (fun hb=>?_)<;>first | (exact absurd hb (by decide)) | skip)) <;>
  (refine⟨?_,⟨?_,?_,?_,?_,?_,?_,?_,?_,?_⟩,?_,⟨?_,?_⟩⟩)
 all_goals dsimp only [CortM.rk,CortM.aw]
 all_goals first
  | exact .inl rfl
  | exact .inl (hl rfl)
  | exact .inr (dY h0)
  | exact .inr (aO h0 (dh (by decide) (by decide)))
  | exact .inr (dk h0 (dh (by decide) (by decide)) (by decide) (by decide))
  | exact .inr (dk h0 (aq (by assumption) (by decide) (by decide)) (by decide) (by decide))
  | exact .inr (aO h0 (aq (by assumption) (by decide) (by decide)))
  | exact .inr (aL h0 (aq (by assumption) (by decide) (by decide)) (dP h0 _))
  | exact .inr (aL h0 (aq (by assumption) (by decide) (by decide)) (bo hx))
  | exact .inr (aV (dh (by decide) (by decide)) (by assumption) (b5 (by assumption)))
  | exact .inr (aV (aq (by assumption) (by decide) (by decide)) (by assumption) (b5 (by assumption)))
  | exact .inr (eG h0 (by assumption) (hz (by decide) (by decide)))
  | assumption
  | exact fun _=>rfl
  | (intro h;first | exact absurd h (by decide) | exact absurd h cF | exact absurd h dN | exact absurd h dA | exact absurd h jE | exact absurd h fg | exact absurd h gk | exact absurd h iu | exact absurd h (fw (hl rfl) (by decide) (by decide)))
  | (intro g1 g2;first | (exact⟨rfl,rfl⟩) | (have hq:=ha (by decide) rfl;exact hr.hd rfl hq.1 (by rw [hq.2];rfl) (by rw [hq.2];rfl)) | (exact absurd rfl g1) | (exact absurd g1 (by decide)) | (exact absurd g2 (by decide)) | exact hz g1 (by decide) | exact nz g1 (by decide) | (have:=neI (by assumption:(nn.slot==0)=false);omega))
  | exact zR (k:=3) rfl (by decide) (by decide)
  | exact zR (k:=6) rfl (by decide) (by decide)
  | exact zR (k:=8) rfl (by decide) (by decide)
  | exact zR (k:=10) rfl (by decide) (by decide)
  | exact zR (k:=12) rfl (by decide) (by decide)
  | exact zR (hl rfl) (by decide) (by decide)
  | exact RF (k:=1) rfl (by decide)
  | exact RF (k:=2) rfl (by decide)
  | exact fun _ _ _=>nz (by decide) (by decide)
  | (intro _;simp)
  | decide
structure WalkM.WF (n:Int) (w:WalkM):Prop where
 start:AOk n w.start
 prev:AOk n w.prev
 cur:WOk n w.cur
 next:WOk n w.next
 pc:w.pc=-1 \/ w.pc=0 \/ w.pc=1 \/ w.pc=2 \/ w.pc=3 \/ w.pc=4 \/ w.pc=5 \/ w.pc=6 \/ w.pc=7 \/ w.pc=8
 nz:(w.pc=2 \/ w.pc=3 \/ w.pc=4 \/ w.pc=5 \/ w.pc=6 \/ w.pc=7 \/ w.pc=8)->1<=w.cur.slot
 fd:w.found=true->w.pc=-1 /\ 1<=w.cur.slot
def WalkM.rk (w:WalkM):Nat:=if w.pc=4 \/ w.pc=5 then 2 else if w.pc=6 \/ w.pc=7 then 1 else 0
structure WalkOk (n:Int) (pc0:Int) (r0:Nat) (r:(Cl×Bool)×WalkM):Prop where
 on:r.1.2=true->nr n r.1.1
 wf:r.2.WF n
 rk:r.1.2=true->imm r.1.1->r.2.rk < r0
 off:r.1.2=false->r.2.pc=-1
 st:pc0=0->r.1.2=true
theorem AM {n:Int} (h0:0<=n) {w:WalkM} (h:w.WF n) {x:Rp1} (hx:WOk n x.w):WalkOk n w.pc w.rk (aG w x):=by
 obtain⟨pc,last,start,key,prev,cur,next,k,found⟩:=w
 obtain⟨hs,hpv,hc,hn,hp,hz,hf⟩:=h
 dsimp only at hs hpv hc hn hp hz hf
 have nx:0<=x.w.slot:=hx.1
 have nn:0<=next.slot:=hn.1
 unfold aG uu
 dsimp only [id]
 rcases hp with rfl | rfl | rfl | rfl | rfl | rfl | rfl | rfl | rfl | rfl <;>
  (repeat' (refine dF (fun hb=>?_) (fun hb=>?_)<;>first | (exact absurd hb (by decide)) | skip)) <;>
  (refine⟨?_,⟨?_,?_,?_,?_,?_,?_,?_⟩,?_,?_,?_⟩)
 all_goals dsimp only [WalkM.rk]
 all_goals first
  | assumption
  | exact fun h=>absurd h (by decide)
  | decide
  | exact fun _=>dk h0 (by assumption) (by decide) (by decide)
  | exact fun _=>dk h0 (aq (by assumption) (by decide) (by decide)) (by decide) (by decide)
  | exact fun _=>aO h0 (aq (by assumption) (by decide) (by decide))
  | exact fun _=>aO h0 (by assumption)
  | exact fun _=>aV (by assumption) (by assumption) (b5 (by assumption))
  | exact fun _=>Au h0 (by unfold vr;decide)
  | exact fun _=>eG h0 (by assumption) (hz (by decide))
  | exact fun _=>hz (by decide)
  | exact fun _=>(by have:=neI (by assumption:(x.w.slot==0)=false);omega)
  | exact fun _=>(by have:=neI (by assumption:(next.slot==0)=false);omega)
  | exact fun _=>(by have:=neI (by assumption:((wTo cur next).slot==0)=false);show 1<=next.slot;exact(by have h:next.slot≠0:=this;omega))
  | exact fun h=>absurd (hf h).1 (by decide)
  | exact fun h=>⟨rfl,(hf h).2⟩
  | exact fun _=>⟨rfl,hz (by decide)⟩
  | exact fun _ h=>absurd h cF
  | exact fun _ h=>absurd h dA
  | exact fun _ h=>absurd h jE
  | exact fun _ _=>(by simp)
  | exact b5 hn
  | exact aq hc (by decide) (by decide)
  | exact fun _=>rfl
theorem qk {n:Int} (h0:0<=n) {a:Ad} (ha:AOk n a) (k:Int):(dS (a,k)).WF n :=
 ⟨ha,ha,ay h0,ay h0,.inr (.inl rfl),fun h=>absurd h (by show ¬((0:Int)=2 \/ (0:Int)=3 \/ (0:Int)=4 \/ (0:Int)=5 \/ (0:Int)=6 \/ (0:Int)=7 \/ (0:Int)=8);decide),fun h=>by cases h⟩
structure LitM.WF (n:Int) (j:LitM):Prop where
 kd:j.op.kind=6 \/ j.op.kind=7 \/ j.op.kind=8
 start:AOk n j.start
 pc:(j.op.kind=6 /\ (j.pc=-1 \/ j.pc=0 \/ j.pc=1 \/ j.pc=2 \/ j.pc=3 \/ j.pc=4 \/ j.pc=5 \/ j.pc=6 \/ j.pc=7)) \/ (j.op.kind=7 /\ (j.pc=-1 \/ j.pc=0 \/ j.pc=1 \/ j.pc=2 \/ j.pc=3 \/ j.pc=4 \/ j.pc=5 \/ j.pc=6)) \/ (j.op.kind=8 /\ (j.pc=-1 \/ j.pc=0 \/ j.pc=1 \/ j.pc=2))
 last:j.pc=-1->j.last.kind=12
 node:WOk n j.node
 nd:j.op.kind=6->(j.pc=2 \/ j.pc=3 \/ j.pc=4 \/ j.pc=5 \/ j.pc=6 \/ j.pc=7)->1<=j.node.slot
 wk:∀w,j.walk=some w->w.WF n
 cz:j.op.kind=7->(j.pc=2 \/ j.pc=3 \/ j.pc=4)->∃w,j.walk=some w /\ 1<=w.cur.slot
def LitM.aw (c:Cl) (j:LitM):Prop:=j.op.kind=6->j.pc=1->c.kind=8
def wrk:Option WalkM->Nat
 | none=>0
 | some w=>w.rk
def LitM.rk (j:LitM):Nat:=wrk j.walk+if j.op.kind=7 /\ j.pc=4 then 1 else 0
def Yl (n:Int) (r0:Nat) (r:Cl×LitM):Prop:=NextOk n r.1 (r.2.WF n) (r.2.aw r.1) r0 r.2.rk
theorem gw {n:Int} {w:WalkM} (h:w.WF n):∀w',some w=some w'->w'.WF n:=fun w' e=>by cases e;exact h
theorem oQ {n:Int}:∀w',(none:Option WalkM)=some w'->w'.WF n:=fun w' e=>by cases e
end
end Go.Proofs.YtadmfaohjnjajaaGreatDoor
