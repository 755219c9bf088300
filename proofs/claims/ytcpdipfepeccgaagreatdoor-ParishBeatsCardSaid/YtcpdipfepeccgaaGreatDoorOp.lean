import Derived.Test.YtcpdipfepeccgaaGreatDoorSxOh
set_option linter.unusedVariables false
set_option linter.unusedSimpArgs false
set_option maxHeartbeats 4000000
namespace Go.Proofs.YtcpdipfepeccgaaGreatDoor
open Go Go.Sx Go.Proofs
set_option maxRecDepth 100000
variable {σ:Sg}
def ko (w:W):W:=⟨w.slot,w.gen,0,0,false⟩
def wTo (w r:W):W:=⟨r.slot,r.gen,bp w.tag,0,false⟩
def xC (w:W):W:=⟨w.slot,w.gen,bp w.tag,w.num,true⟩
def gQ (w:W) (n:Int):W:=⟨0,0,bp w.tag,IntKind.wrap .i64 (w.num+n),false⟩
def aY (w:W) (n:Int):Ad:=⟨w.slot,w.gen,n⟩
def bH (n:Int):Ad:=⟨0,0,n⟩
def fc:Ad:=⟨0,0,0⟩
def bu:Cl:=⟨0,fc,aq,aq,0,0,⟨0,0⟩⟩
def aZ (a:Ad):Cl:=⟨3,a,aq,aq,0,0,⟨0,0⟩⟩
def cY (a:Ad) (w:W):Cl:=⟨4,a,aq,w,0,0,⟨0,0⟩⟩
def bG (a:Ad) (o n:W):Cl:=⟨5,a,o,n,0,0,⟨0,0⟩⟩
def bX (a:Ad) (i:Int):Cl:=⟨6,a,aq,aq,i,0,⟨0,0⟩⟩
def qG (i j:Int):Cl:=⟨7,fc,aq,aq,i,j,⟨0,0⟩⟩
def jy:Cl:=⟨8,fc,aq,aq,0,0,⟨0,0⟩⟩
def qH (w:W):Cl:=⟨9,fc,w,aq,0,0,⟨0,0⟩⟩
def km (w:W):Cl:=⟨10,fc,w,aq,0,0,⟨0,0⟩⟩
def kM (code val:Int):Cl:=⟨12,fc,aq,aq,0,0,⟨code,val⟩⟩
def zz {β:Type} (I:Bool->β->β->β) (L:Cl×PileM->β) (j:PileM) (x:Rp1):β :=
 let ask (n:Int) (c:Cl) (j:PileM):β:=L (c,{j with pc:=n})
 let done (j:PileM) (c v:Int):β:=L (kM c v,{j with pc:=-1,last:=kM c v})
 I (j.op.kind==1)
   (I (j.pc==0) (ask 1 jy j)
   (I (j.pc==1) (I (!x.ok) (done j 4 0) (ask 2 (cY (aY x.w 1) (g9 j.op.val)) {j with node:=x.w}))
   (I (j.pc==5) (I x.ok (done j 1 0) (ask 3 (aZ (bH 0)) j))
   (I (j.pc==2) (ask 3 (aZ (bH 0)) j)
   (I (j.pc==3) (ask 4 (cY (aY j.node 2) (ko x.w)) {j with top:=x.w})
   (I (j.pc==4) (ask 5 (bG (bH 0) j.top (wTo j.top j.node)) j)
   (L (j.last,j))))))))
   (I (j.pc==3) (I x.ok (ask 4 (aZ (aY j.top 1)) j) (ask 1 (bX (bH 0) 0) j))
   (I (j.pc==0) (ask 1 (bX (bH 0) 0) j)
   (I (j.pc==1) (I (x.w.slot==0) (done {j with top:=x.w} 2 0) (I (j.op.kind==3) (ask 4 (aZ (aY x.w 1)) {j with top:=x.w}) (ask 2 (aZ (aY x.w 2)) {j with top:=x.w})))
   (I (j.pc==2) (ask 3 (bG (bH 0) j.top (wTo j.top x.w)) j)
   (I (j.pc==4) (I (j.op.kind==3) (done {j with val:=x.w.num} 1 x.w.num) (ask 5 (km j.top) {j with val:=x.w.num}))
   (I (j.pc==5) (done j 1 j.val)
   (L (j.last,j))))))))
def iH (j:PileM) (x:Rp1):Cl×PileM:=zz cond id j x
theorem RC (σ:Sg) (j:PileM) (x:Rp1):(cM σ aQ 147 noM (aRp.enc x) (vX j) y9 (PileM.wr j) []).map (eO vCl oPile)=zz tI tL j x:=by kernel_rfl
theorem K6:FnOk Tryz.prog (NV σ) 147 (aL isS noM (cU aRp vCl oPile (fun _ _=>none) iH)) :=
 fK au rfl fun j x _=>⟨y9,PileM.wr j,rfl,aRp.enc x,rfl,fun _=>rfl,by
  rw [RC];unfold zz iH zz;dsimp only
  repeat' first | apply vI | exact vL⟩
def AM {β:Type} (I:Bool->β->β->β) (L:Cl×CortM->β) (j:CortM) (x:Rp1):β :=
 let two (p q:Bool) (t e:β):β:=I p (I p t e) (I q t e)
 let ask (n:Int) (c:Cl) (j:CortM):β:=L (c,{j with pc:=n})
 let done (j:CortM) (c v:Int):β:=L (kM c v,{j with pc:=-1,last:=kM c v})
 I (j.op.kind==4)
   (I (j.pc==0) (ask 1 jy j)
   (I (j.pc==1) (I (!x.ok) (done j 4 0) (ask 2 (cY (aY x.w 1) (g9 j.op.val)) {j with node:=x.w}))
   (I (j.pc==3) (ask 4 (aZ (aY x.w 2)) {j with t:=x.w})
   (I (j.pc==4) (ask 5 (aZ (bH 1)) {j with n:=x.w})
   (I (j.pc==5) (I (!qS x.w j.t) (ask 3 (bX (bH 1) 0) j) (I (!(j.n.slot==0)) (ask 6 (bG (bH 1) j.t (wTo j.t j.n)) j) (ask 7 (bG (aY j.t 2) j.n (wTo j.n j.node)) j)))
   (I (j.pc==7) (I x.ok (ask 8 (bG (bH 1) j.t (wTo j.t j.node)) j) (ask 3 (bX (bH 1) 0) j))
   (two (j.pc==2) (j.pc==6) (ask 3 (bX (bH 1) 0) j)
   (I (j.pc==8) (done j 1 0)
   (L (j.last,j))))))))))
   (I (j.pc==1) (ask 2 (aZ (bH 1)) {j with h:=x.w})
   (I (j.pc==2) (ask 3 (bX (aY j.h 2) 1) {j with t:=x.w})
   (I (j.pc==3) (ask 4 (aZ (bH 0)) {j with n:=x.w})
   (I (j.pc==4) (I (!qS x.w j.h) (ask 1 (bX (bH 0) 0) j) (I (j.n.slot==0) (done j 2 0) (I (j.h.slot==j.t.slot) (ask 5 (bG (bH 1) j.t (wTo j.t j.n)) j) (ask 6 (aZ (aY j.n 1)) j))))
   (I (j.pc==6) (ask 7 (bG (bH 0) j.h (wTo j.h j.n)) {j with val:=x.w.num})
   (I (j.pc==7) (I x.ok (ask 8 (km j.h) j) (ask 1 (bX (bH 0) 0) j))
   (two (j.pc==0) (j.pc==5) (ask 1 (bX (bH 0) 0) j)
   (I (j.pc==8) (done j 1 j.val)
   (L (j.last,j))))))))))
def iY (j:CortM) (x:Rp1):Cl×CortM:=AM cond id j x
theorem TA (σ:Sg) (j:CortM) (x:Rp1):(cM σ aQ 156 noM (aRp.enc x) (xj j) zb (CortM.wr j) []).map (eO vCl oCort)=AM tI tL j x:=by kernel_rfl
theorem Mh:FnOk Tryz.prog (NV σ) 156 (aL isS noM (cU aRp vCl oCort (fun _ _=>none) iY)) :=
 fK au rfl fun j x _=>⟨zb,CortM.wr j,rfl,aRp.enc x,rfl,fun _=>rfl,by
  rw [TA];unfold AM iY AM;dsimp only
  repeat' first | apply vI | exact vL⟩
end Go.Proofs.YtcpdipfepeccgaaGreatDoor

namespace Go.Proofs.YtcpdipfepeccgaaGreatDoor
open Go Go.Sx Go.Proofs
set_option maxRecDepth 100000
variable {σ:Sg}
def u6:ValK (Cl×Bool) where
 enc c:=.tup [.agg (gsC (Cl.wr c.1)),.c (.bt c.2)]
 dec:=fun | .tup [.agg cs,.c (.bt b)]=>(match Cl.rd (cs.map .p) with | some (c,[])=>some (c,b) | _=>none) | _=>none
 ok:=fun v b h=>by
  split at h
  ·split at h
   ·rename_i hc
    cases h
    have:=Cl.rd_s hc
    rw [List.append_nil] at this
    rw [<- this,ju]
   ·cases h
  ·cases h
def yS {β:Type} (I:Bool->β->β->β) (L:(Cl×Bool)×WalkM->β) (w:WalkM) (x:Rp1):β :=
 let ask (n:Int) (c:Cl) (w:WalkM):β:=L ((c,true),{w with pc:=n})
 let finish (f:Bool) (w:WalkM):β:=L ((bu,false),{w with pc:=-1,found:=f})
 let again (w:WalkM):β:=ask 1 (bX w.start 1) {w with prev:=w.start}
 let behind (w:WalkM):β:=ask 2 (bX (aY w.cur 2) 0) w
 let on (w:WalkM):β:=I (w.cur.slot==0) (finish false w) (ask 8 (qG 1 0) w)
 I (w.pc==1) (I x.w.mark (again w) (I (x.w.slot==0) (finish false {w with cur:=x.w}) (behind {w with cur:=x.w})))
 (I (w.pc==2) (ask 3 (aZ (aY w.cur 0)) {w with next:=x.w})
 (I (w.pc==3) (ask 4 (aZ w.prev) {w with k:=x.w.num})
 (I (w.pc==4) (I (!qS x.w w.cur) (again w) (I w.next.mark (ask 5 (bG w.prev w.cur (wTo w.cur w.next)) w) (I (decide (w.k>=w.key)) (finish (w.k==w.key) w) (ask 7 (qG 2 1) {w with prev:=aY w.cur 2}))))
 (I (w.pc==5) (I x.ok (ask 6 (km w.cur) w) (again w))
 (I (w.pc==0) (again w)
 (I (w.pc==6) (on {w with cur:=wTo w.cur w.next})
 (I (w.pc==7) (on {w with cur:=w.next})
 (I (w.pc==8) (behind w)
 (L ((bu,false),w))))))))))
def bz (w:WalkM) (x:Rp1):(Cl×Bool)×WalkM:=yS cond id w x
theorem QA (σ:Sg) (w:WalkM) (x:Rp1):(cM σ aQ 173 noM (aRp.enc x) (sc w) oE (WalkM.wr w) []).map (eO u6 oWalk)=yS tI tL w x:=by kernel_rfl
theorem Ob (σ:Sg) (x:Rp1):(eG σ aQ 173 noM (.v (.c .pnil)::aRp.enc x) []).map (iW u6)=.leaf (some (bu,false)):=by kernel_rfl
theorem Kg:FnOk Tryz.prog (NV σ) 173 (aL isS noM (gK aRp u6 oWalk (fun _ _=>none) bz (bu,false))) :=
 iL au rfl (fun j x _=>⟨oE,WalkM.wr j,rfl,aRp.enc x,rfl,fun _=>rfl,by
  rw [QA];unfold yS bz yS;dsimp only
  repeat' first | apply vI | exact vL⟩) fun x=>congrArg T.val (Ob σ x)
def aAdI:ArgK (Ad×Int) where
 enc x:=[.v (.agg [.it .i64 x.1.s,.it .i64 x.1.g,.it .i64 x.1.f]),.v (.c (.it .i64 x.2))]
 dec:=fun | [.v (.agg [c0,c1,c2]),.v (.c c3)]=>(match iOf c0,iOf c1,iOf c2,iOf c3 with | some a,some b,some c,some n=>some (⟨a,b,c⟩,n) | _,_,_,_=>none) | _=>none
 ok:=fun l a h ρ=>by
  split at h
  ·split at h
   ·rename_i h0 h1 h2 h3
    cases h
    simp only [List.map_cons,List.map_nil,SV.den,V1.den,ae,aM h0 ρ,aM h1 ρ,aM h2 ρ,aM h3 ρ]
    rfl
   ·cases h
  ·cases h
 free:=fun _=>rfl
def eY (x:Ad×Int):WalkM:=⟨0,bu,x.1,x.2,x.1,aq,aq,0,false⟩
theorem Il (σ:Sg) (x:Ad×Int):(eG σ aQ 177 noM (aAdI.enc x) []).map (Fp oWalk)=tL (eY x):=by kernel_rfl
theorem B5:FnOk Tryz.prog (NV σ) 177 (aL isS noM (zN aAdI oWalk (fun _=>none) eY)) :=
 yh au rfl fun x _=>⟨aAdI.enc x,rfl,fun _=>rfl,by rw [Il];rfl⟩
def xy:ArgK Unit:=⟨fun _=>[],fun | []=>some () | _=>none,fun l a h ρ=>by split at h<;>cases h;rfl,fun _=>rfl⟩
def CS:ValK Bool where
 enc b:=.v (.c (.bt b))
 dec:=fun | .v (.c (.bt b))=>some b | _=>none
 ok:=fun v b h=>by split at h<;>cases h;rfl
def xG:ValK (Ad×W×W) where
 enc x:=.tup [.agg [.it .i64 x.1.s,.it .i64 x.1.g,.it .i64 x.1.f],.agg x.2.1.enc,.agg x.2.2.enc]
 dec:=fun | .tup [.agg [.it .i64 a,.it .i64 b,.it .i64 c],.agg [.it .i64 d,.it .i64 e,.it .i64 f,.it .i64 g,.bt h],.agg [.it .i64 i,.it .i64 k,.it .i64 l,.it .i64 m,.bt n]]=>some (⟨a,b,c⟩,⟨d,e,f,g,h⟩,⟨i,k,l,m,n⟩) | _=>none
 ok:=fun v b h=>by split at h<;>cases h;rfl
theorem PX (σ:Sg) (w:WalkM):(cM σ aQ 174 noM [] (sc w) oE (WalkM.wr w) []).map (eO CS oWalk)=tL (w.found,w):=by kernel_rfl
theorem O0 (σ:Sg) (w:WalkM):(cM σ aQ 175 noM [] (sc w) oE (WalkM.wr w) []).map (eO xG oWalk)=tL ((w.prev,w.cur,w.next),w):=by kernel_rfl
theorem L6 (σ:Sg):(eG σ aQ 174 noM [.v (.c .pnil)] []).map (iW CS)=.leaf (some false):=by kernel_rfl
theorem I9:FnOk Tryz.prog (NV σ) 174 (aL isS noM (gK xy CS oWalk (fun _ _=>none) (fun w _=>(w.found,w)) false)) :=
 iL au rfl (fun j x _=>⟨oE,WalkM.wr j,rfl,[],rfl,fun _=>rfl,by rw [PX];rfl⟩) fun x=>congrArg T.val (L6 σ)
theorem K2 (σ:Sg):(eG σ aQ 175 noM [.v (.c .pnil)] []).map (iW xG)=.leaf (some (fc,aq,aq)):=by kernel_rfl
theorem HL:FnOk Tryz.prog (NV σ) 175 (aL isS noM (gK xy xG oWalk (fun _ _=>none) (fun w _=>((w.prev,w.cur,w.next),w)) (fc,aq,aq))) :=
 iL au rfl (fun j x _=>⟨oE,WalkM.wr j,rfl,[],rfl,fun _=>rfl,by rw [O0];rfl⟩) fun x=>congrArg T.val (K2 σ)
noncomputable def y3:Tab:=aC 173 (aL isS noM (gK aRp u6 oWalk (fun _ _=>none) bz (bu,false))) (aC 177 (aL isS noM (zN aAdI oWalk (fun _=>none) eY))
 (aC 174 (aL isS noM (gK xy CS oWalk (fun _ _=>none) (fun w _=>(w.found,w)) false)) (aC 175 (aL isS noM (gK xy xG oWalk (fun _ _=>none) (fun w _=>((w.prev,w.cur,w.next),w)) (fc,aq,aq))) aQ)))
theorem yZ:bm Tryz.prog (NV σ) y3:=aj Kg (aj B5 (aj I9 (aj HL au)))
def Ac {β:Type} (I:Bool->β->β->β) (L:Cl×LitM->β) (j:LitM) (x:Rp1):β :=
 let ask (n:Int) (c:Cl) (j:LitM):β:=L (c,{j with pc:=n})
 let done (j:LitM) (c v:Int):β:=L (kM c v,{j with pc:=-1,last:=kM c v})
 let seek (j:LitM) (n:Int):LitM:={j with walk:=some (eY (j.start,j.key)),pc:=n}
 let found (j:LitM) (t e:β):β:=match j.walk with | none=>I false t e | some w=>I w.found t e
 let miss (j:LitM) (t e:β):β:=match j.walk with | none=>I (!false) t e | some w=>I (!w.found) t e
 let prev (j:LitM):Ad:=match j.walk with | none=>fc | some w=>w.prev
 let cur (j:LitM):W:=match j.walk with | none=>aq | some w=>w.cur
 let next (j:LitM):W:=match j.walk with | none=>aq | some w=>w.next
 let step (j:LitM) (k:LitM->β):β:=match j.walk with
  | none=>I false (L (bu,j)) (k j)
  | some w=>I (bz w x).1.2 (L ((bz w x).1.1,{j with walk:=some (bz w x).2})) (k {j with walk:=some (bz w x).2})
 let ins4 (j:LitM):β:=step j fun j=>found j (ask 5 (qH j.node) j) (ask 6 (cY (aY j.node 2) (ko (cur j))) j)
 let rem1 (j:LitM):β:=step j fun j=>miss j (done j 2 0) (ask 2 (aZ (aY (cur j) 1)) j)
 I (j.op.kind==6)
   (I (j.pc==0) (ask 1 jy j)
   (I (j.pc==1) (I (!x.ok) (done j 4 0) (ask 2 (cY (aY x.w 0) (g9 j.key)) {j with node:=x.w}))
   (I (j.pc==2) (ask 3 (cY (aY j.node 1) (g9 j.op.val)) j)
   (I (j.pc==7) (I x.ok (done j 1 0) (ins4 (seek j 4)))
   (I (j.pc==3) (ins4 (seek j 4))
   (I (j.pc==4) (ins4 j)
   (I (j.pc==5) (done j 3 0)
   (I (j.pc==6) (ask 7 (bG (prev j) (cur j) (wTo (cur j) j.node)) j)
   (L (j.last,j))))))))))
 (I (j.op.kind==7)
   (I (j.pc==3) (I x.ok (ask 4 (bG (prev j) (cur j) (wTo (cur j) (next j))) j) (rem1 (seek j 1)))
   (I (j.pc==0) (rem1 (seek j 1))
   (I (j.pc==1) (rem1 j)
   (I (j.pc==2) (ask 3 (bG (aY (cur j) 2) (next j) (xC (next j))) {j with val:=x.w.num})
   (I (j.pc==4) (I x.ok (ask 5 (km (cur j)) j) (step (seek j 6) fun j=>done j 1 j.val))
   (I (j.pc==6) (step j fun j=>done j 1 j.val)
   (I (j.pc==5) (done j 1 j.val)
   (L (j.last,j)))))))))
   (I (j.pc==0) (rem1 (seek j 1))
   (I (j.pc==1) (rem1 j)
   (I (j.pc==2) (done j 1 x.w.num)
   (L (j.last,j))))))
def dC (j:LitM) (x:Rp1):Cl×LitM:=Ac cond id j x
theorem SF (σ:Sg) (pc:Int) (la:Cl) (st:Ad) (key:Int) (op:O) (nd:W) (v:Int) (x:Rp1):(cM σ y3 165 noM (aRp.enc x) (Ca ⟨pc,la,st,key,op,none,nd,v⟩) Bm (LitM.wr ⟨pc,la,st,key,op,none,nd,v⟩) []).map (eO vCl oLit)=Ac tI tL ⟨pc,la,st,key,op,none,nd,v⟩ x:=by kernel_rfl
theorem SE (σ:Sg) (pc:Int) (la:Cl) (st:Ad) (key:Int) (op:O) (w:WalkM) (nd:W) (v:Int) (x:Rp1):(cM σ y3 165 noM (aRp.enc x) (Ca ⟨pc,la,st,key,op,some w,nd,v⟩) Bm (LitM.wr ⟨pc,la,st,key,op,some w,nd,v⟩) []).map (eO vCl oLit)=Ac tI tL ⟨pc,la,st,key,op,some w,nd,v⟩ x:=by kernel_rfl
theorem SD (σ:Sg) (x:Rp1):(eG σ y3 165 noM (.v (.c .pnil)::aRp.enc x) []).map (iW vCl)=.leaf (some bu):=by kernel_rfl
theorem Iy:FnOk Tryz.prog (NV σ) 165 (aL isS noM (gK aRp vCl oLit (fun _ _=>none) dC bu)) :=
 iL yZ rfl (fun j x _=>by
  obtain⟨pc,la,st,key,op,w,nd,v⟩:=j
  cases w with
  | none=>exact⟨Bm,LitM.wr ⟨pc,la,st,key,op,none,nd,v⟩,rfl,aRp.enc x,rfl,fun _=>rfl,by
     rw [SF];unfold Ac dC Ac;dsimp only
     repeat' first | apply vI | exact vL⟩
  | some w=>exact⟨Bm,LitM.wr ⟨pc,la,st,key,op,some w,nd,v⟩,rfl,aRp.enc x,rfl,fun _=>rfl,by
     rw [SE];unfold Ac dC Ac;dsimp only
     repeat' first | apply vI | exact vL⟩) fun x=>congrArg T.val (SD σ x)
end Go.Proofs.YtcpdipfepeccgaaGreatDoor

namespace Go.Proofs.YtcpdipfepeccgaaGreatDoor
open Go Go.Sx Go.Proofs
set_option maxRecDepth 100000
variable {σ:Sg}
def bh:Nat->Gs->Gs
 | 0,.p (.it k v)::r=>.p (.il k v)::r
 | n+1,x::r=>x::bh n r
 | _,gs=>gs
def de (a b:Bool):Bool:=match a==true with | true=>b | false=>false
def orB (a b:Bool):Bool:=match a==false with | true=>b | false=>true
def fA (a b:Int):Int:=IntKind.wrap .i64 (a+b)
def S3.put (s:S3) (l:Int) (p:Ad) (c:W):S3:=if l=0 then {s with p0:=p,c0:=c} else if l=1 then {s with p1:=p,c1:=c} else {s with p2:=p,c2:=c}
def iZ {β:Type} (I:Bool->β->β->β) (L:(Cl×Bool)×ClimbM->β) (c:ClimbM) (x:Rp1):β :=
 let ask (n:Int) (a:Cl) (c:ClimbM):β:=L ((a,true),{c with pc:=n})
 let enter (c:ClimbM):β:=ask 2 (bX c.prev (3 * c.level+1)) c
 let again (c:ClimbM):β:=enter {c with level:=2,prev:=bH 2}
 let behind (c:ClimbM):β:=ask 3 (bX (aY c.cur (2+c.level)) (3 * c.level)) c
 let lower (c:ClimbM):β :=
  if c.level=0 then
   I (de (!(c.cur.slot==0)) (c.k==c.bound)) (L ((bu,false),{c with spots:=S3.put c.spots c.level c.prev c.cur,pc:=-1,found:=ko c.cur}))
     (L ((bu,false),{c with spots:=S3.put c.spots c.level c.prev c.cur,pc:=-1}))
  else I (c.prev.s==0) (enter {c with spots:=S3.put c.spots c.level c.prev c.cur,level:=c.level - 1,prev:=bH (c.level - 1)})
   (ask 9 (qG (3 * (c.level - 1)+2) (3 * (c.level - 1)+5)) {c with spots:=S3.put c.spots c.level c.prev c.cur,level:=c.level - 1,prev:={c.prev with f:=2+(c.level - 1)}})
 let on (c:ClimbM):β:=I (c.cur.slot==0) (lower c) (ask 8 (qG (3 * c.level+1) (3 * c.level)) c)
 I (c.pc==2) (I x.w.mark (again c) (I (x.w.slot==0) (lower {c with cur:=x.w}) (behind {c with cur:=x.w})))
 (I (c.pc==3) (ask 4 (aZ (aY c.cur 0)) {c with next:=x.w})
 (I (c.pc==4) (ask 5 (aZ c.prev) {c with k:=x.w.num})
 (I (c.pc==5) (I (!qS x.w c.cur) (again c) (I c.next.mark (ask 6 (bG c.prev c.cur (wTo c.cur c.next)) c) (I (decide (c.k>=c.bound)) (lower c) (ask 7 (qG (3 * c.level+2) (3 * c.level+1)) {c with prev:=aY c.cur (2+c.level)}))))
 (I (c.pc==6) (I x.ok (on {c with cur:=wTo c.cur c.next}) (again c))
 (I (c.pc==0) (again c)
 (I (c.pc==7) (on {c with cur:=c.next})
 (I (c.pc==8) (behind c)
 (I (c.pc==9) (enter c)
 (L ((bu,false),c))))))))))
def bF (c:ClimbM) (x:Rp1):(Cl×Bool)×ClimbM:=iZ cond id c x
theorem Mn (σ:Sg) (pc:Int) (la:Cl) (pv:Ad) (cu:W) (bd:Int) (nx:W) (k:Int) (sp:S3) (fd:W) (x:Rp1):(cM σ aQ 215 noM (aRp.enc x) (jG ⟨pc,la,pv,cu,bd,0,nx,k,sp,fd⟩) fD (bh 28 (ClimbM.wr ⟨pc,la,pv,cu,bd,0,nx,k,sp,fd⟩)) []).map (eO u6 oClimb)=iZ tI tL ⟨pc,la,pv,cu,bd,0,nx,k,sp,fd⟩ x:=by kernel_rfl
theorem Mm (σ:Sg) (pc:Int) (la:Cl) (pv:Ad) (cu:W) (bd:Int) (nx:W) (k:Int) (sp:S3) (fd:W) (x:Rp1):(cM σ aQ 215 noM (aRp.enc x) (jG ⟨pc,la,pv,cu,bd,1,nx,k,sp,fd⟩) fD (bh 28 (ClimbM.wr ⟨pc,la,pv,cu,bd,1,nx,k,sp,fd⟩)) []).map (eO u6 oClimb)=iZ tI tL ⟨pc,la,pv,cu,bd,1,nx,k,sp,fd⟩ x:=by kernel_rfl
theorem Ml (σ:Sg) (pc:Int) (la:Cl) (pv:Ad) (cu:W) (bd:Int) (nx:W) (k:Int) (sp:S3) (fd:W) (x:Rp1):(cM σ aQ 215 noM (aRp.enc x) (jG ⟨pc,la,pv,cu,bd,2,nx,k,sp,fd⟩) fD (bh 28 (ClimbM.wr ⟨pc,la,pv,cu,bd,2,nx,k,sp,fd⟩)) []).map (eO u6 oClimb)=iZ tI tL ⟨pc,la,pv,cu,bd,2,nx,k,sp,fd⟩ x:=by kernel_rfl
def kv (c:ClimbM):Bool:=decide (0<=c.level /\ c.level<=2)
theorem Mk (σ:Sg) (x:Rp1):(eG σ aQ 215 noM (.v (.c .pnil)::aRp.enc x) []).map (iW u6)=.leaf (some (bu,false)):=by kernel_rfl
theorem Jy:FnOk Tryz.prog (NV σ) 215 (aL isS noM (gK aRp u6 oClimb (fun c _=>some (kv c)) bF (bu,false))) :=
 iL au rfl (fun j x h=>by
  obtain⟨pc,la,pv,cu,bd,lv,nx,k,sp,fd⟩:=j
  have h:0<=lv /\ lv<=2:=of_decide_eq_true h
  rcases (by omega:lv=0 \/ lv=1 \/ lv=2) with rfl | rfl | rfl
  ·exact⟨fD,bh 28 (ClimbM.wr ⟨pc,la,pv,cu,bd,0,nx,k,sp,fd⟩),rfl,aRp.enc x,rfl,fun _=>rfl,by
    rw [Mn];unfold iZ bF iZ;dsimp only;simp only [if_true]
    repeat' first | apply vI | exact vL⟩
  ·exact⟨fD,bh 28 (ClimbM.wr ⟨pc,la,pv,cu,bd,1,nx,k,sp,fd⟩),rfl,aRp.enc x,rfl,fun _=>rfl,by
    rw [Mm];unfold iZ bF iZ;dsimp only;simp only [show ¬(1:Int)=0 by decide,if_false]
    repeat' first | apply vI | exact vL⟩
  ·exact⟨fD,bh 28 (ClimbM.wr ⟨pc,la,pv,cu,bd,2,nx,k,sp,fd⟩),rfl,aRp.enc x,rfl,fun _=>rfl,by
    rw [Ml];unfold iZ bF iZ;dsimp only;simp only [show ¬(2:Int)=0 by decide,if_false]
    repeat' first | apply vI | exact vL⟩) fun x=>congrArg T.val (Mk σ x)
def aI:ArgK Int where
 enc x:=[.v (.c (.it .i64 x))]
 dec:=fun | [.v (.c c)]=>iOf c | _=>none
 ok:=fun l a h ρ=>by
  split at h
  ·simp only [List.map_cons,List.map_nil,SV.den,V1.den,aM h ρ];rfl
  ·cases h
 free:=fun _=>rfl
def eK (b:Int):ClimbM:=⟨0,bu,fc,aq,b,0,aq,0,⟨fc,aq,fc,aq,fc,aq⟩,aq⟩
theorem EY (σ:Sg) (b:Int):(eG σ aQ 216 noM (aI.enc b) []).map (Fp oClimb)=tL (eK b):=by kernel_rfl
theorem zP:FnOk Tryz.prog (NV σ) 216 (aL isS noM (zN aI oClimb (fun _=>none) eK)) :=
 yh au rfl fun x _=>⟨aI.enc x,rfl,fun _=>rfl,by rw [EY];rfl⟩
def vW:ValK W where
 enc w:=.v (.agg w.enc)
 dec:=fun | .v (.agg [.it .i64 a,.it .i64 b,.it .i64 c,.it .i64 d,.bt e])=>some ⟨a,b,c,d,e⟩ | _=>none
 ok:=fun v b h=>by split at h<;>cases h;rfl
def Kk:ValK (Ad×W) where
 enc x:=.tup [.agg [.it .i64 x.1.s,.it .i64 x.1.g,.it .i64 x.1.f],.agg x.2.enc]
 dec:=fun | .tup [.agg [.it .i64 a,.it .i64 b,.it .i64 c],.agg [.it .i64 d,.it .i64 e,.it .i64 f,.it .i64 g,.bt h]]=>some (⟨a,b,c⟩,⟨d,e,f,g,h⟩) | _=>none
 ok:=fun v b h=>by split at h<;>cases h;rfl
theorem Mr (σ:Sg) (c:ClimbM):(cM σ aQ 220 noM [] (jG c) fD (ClimbM.wr c) []).map (eO vW oClimb)=tL (c.found,c):=by kernel_rfl
theorem JE (σ:Sg):(eG σ aQ 220 noM [.v (.c .pnil)] []).map (iW vW)=.leaf (some aq):=by kernel_rfl
theorem FA:FnOk Tryz.prog (NV σ) 220 (aL isS noM (gK xy vW oClimb (fun _ _=>none) (fun c _=>(c.found,c)) aq)) :=
 iL au rfl (fun j x _=>⟨fD,ClimbM.wr j,rfl,[],rfl,fun _=>rfl,by rw [Mr];rfl⟩) fun x=>congrArg T.val (JE σ)
def eu (c:ClimbM) (l:Int):Ad×W:=if l=0 then(c.spots.p0,c.spots.c0) else if l=1 then(c.spots.p1,c.spots.c1) else if l=2 then(c.spots.p2,c.spots.c2) else(fc,aq)
def HN {α:Type} (l:Int) (f:Nat->T α):T α:=.ite (decide (l=0)) (f 0) (.ite (decide (l=1)) (f 1) (.need (decide (l=2)) (f 2)))
def S3.p (s:S3):Nat->Ad
 | 0=>s.p0
 | 1=>s.p1
 | _=>s.p2
def S3.c (s:S3):Nat->W
 | 0=>s.c0
 | 1=>s.c1
 | _=>s.c2
theorem Mf (σ:Sg) (c:ClimbM) (l:Int):(cM σ aQ 217 noM [.v (.c (.it .i64 l))] (jG c) fD (ClimbM.wr c) []).map (eO Kk oClimb) =
 tI (match decide (l < 0)==false with | true=>decide (l>=3) | false=>true) (tL ((fc,aq),c)) (HN l fun i=>HN l fun k=>tL ((S3.p c.spots i,S3.c c.spots k),c)):=by kernel_rfl
theorem Jt (σ:Sg) (l:Int):(eG σ aQ 217 noM (.v (.c .pnil)::aI.enc l) []).map (iW Kk)=.leaf (some (fc,aq)):=by kernel_rfl
theorem Ft:FnOk Tryz.prog (NV σ) 217 (aL isS noM (gK aI Kk oClimb (fun _ _=>none) (fun c l=>(eu c l,c)) (fc,aq))) :=
 iL au rfl (fun j l _=>by
  refine⟨fD,ClimbM.wr j,rfl,aI.enc l,rfl,fun _=>rfl,?_⟩
  show ((cM σ aQ _ noM [.v (.c (.it .i64 l))] (jG j) fD (ClimbM.wr j) []).map _).val=_
  rw [Mf]
  unfold eu HN
  by_cases h0:l=0
  ·subst h0;rfl
  by_cases h1:l=1
  ·subst h1;rfl
  by_cases h2:l=2
  ·subst h2;rfl
  rw [if_neg h0,if_neg h1,if_neg h2]
  by_cases hl:l < 0
  ·rw [decide_eq_true hl];rfl
  ·rw [decide_eq_false hl,decide_eq_true (show l>=3 by omega)];rfl) fun x=>congrArg T.val (Jt σ x)
noncomputable def sE:Tab:=aC 215 (aL isS noM (gK aRp u6 oClimb (fun c _=>some (kv c)) bF (bu,false))) (aC 216 (aL isS noM (zN aI oClimb (fun _=>none) eK))
 (aC 220 (aL isS noM (gK xy vW oClimb (fun _ _=>none) (fun c _=>(c.found,c)) aq)) (aC 217 (aL isS noM (gK aI Kk oClimb (fun _ _=>none) (fun c l=>(eu c l,c)) (fc,aq))) aQ)))
theorem Gl:bm Tryz.prog (NV σ) sE:=aj Jy (aj zP (aj FA (aj Ft au)))
def Rr (a b:W):Bool:=a.slot==b.slot&&a.gen==b.gen
def SR (a b:W):Bool:=a.slot==b.slot&&(a.gen==b.gen&&(a.tag==0&&(a.num==0&&a.mark==false)))
def C5 (j:SteM):List Cell:=cI AV.len (8+1) (bh 19 (SteM.wr j))
theorem fm (l:List Cell) (t:TypeId):gb l t l t=true:=@decide_eq_true _ (Classical.propDecidable _) ⟨rfl,rfl⟩
noncomputable def jP {β:Type} (I:Bool->β->β->β) (N:Bool->β->β) (L:Cl×SteM->β) (j:SteM) (x:Rp1):β :=
 let ask (n:Int) (c:Cl) (j:SteM):β:=L (c,{j with pc:=n})
 let done (j:SteM) (c v:Int):β:=L (kM c v,{j with pc:=-1,last:=kM c v})
 let same (j:SteM) (t:β):β:=N (gb (C5 j) lg (C5 j) lg) t
 let seek (j:SteM) (n b:Int):SteM:={j with climb:=some (eK b),pc:=n}
 let field (j:SteM) (n:Int):Ad:=aY j.node n
 let place (j:SteM) (l:Int):Ad×W:=match j.climb with | none=>(fc,aq) | some c=>eu c l
 let found (j:SteM):W:=match j.climb with | none=>aq | some c=>c.found
 let nil (j:SteM) (t e:β):β:=I ((found j).slot==0) t e
 let step (j:SteM) (k:SteM->β):β:=match j.climb with
  | none=>I false (L (bu,j)) (k j)
  | some c=>N (kv c) (I (bF c x).1.2 (L ((bF c x).1.1,{j with climb:=some (bF c x).2})) (k {j with climb:=some (bF c x).2}))
 let part (j:SteM) (n:Int):β:=ask 101 (aZ (field j 7)) {j with inc:=n}
 let link (j:SteM):β:=I (decide (j.level>=j.op.tall)) (part j 1) (ask 9 (aZ (field j (fA 2 j.level))) j)
 let look (j:SteM):β:=ask 4 (aZ (field j (fA 2 j.level))) j
 let ins7 (j:SteM):β:=I (decide (bp j.level < j.op.tall)) (ask 7 (cY (field j (fA 2 (bp j.level))) (ko (place j (bp j.level)).2)) {j with level:=bp j.level})
  (ask 8 (bG (place j 0).1 (place j 0).2 (wTo (place j 0).2 j.node)) {j with level:=bp j.level})
 let ins5 (j:SteM):β:=step j fun j=>I (!((found j).slot==0)) (ask 6 (qH j.node) j) (ins7 {j with level:=-1})
 let r12 (j:SteM):β:=step j fun j=>I (!SR (found j) j.node) (part j 1) (link j)
 let rem1 (j:SteM):β:=step j fun j=>nil j (done {j with node:=found j} 2 0) (ask 2 (aZ (aY (found j) 6)) {j with node:=found j})
 let rem6 (j:SteM):β:=step j fun j=>part j 2
 let get1 (j:SteM):β:=step j fun j=>nil j (done {j with node:=found j} 2 0) (ask 2 (aZ (aY (found j) 1)) {j with node:=found j})
 let tail (j:SteM):β:=step j fun j=>ask 104 (km j.node) j
 I (j.pc==-1) (L (j.last,j))
 (I (decide (j.pc>=101))
   (I (j.pc==101) (I (x.w.num==0) (same j (ask 102 (bG (field j 7) x.w (gQ x.w j.inc)) j)) (tail (seek j 103 (bp j.op.key))))
   (I (j.pc==102) (I x.ok (done j 1 j.val) (tail (seek j 103 (bp j.op.key))))
   (I (j.pc==104) (done j 1 j.val) (tail j))))
 (if j.op.kind=6 then
   I (decide (j.pc>=9))
     (I (j.pc==9) (I x.w.mark (part j 1) (I (!Rr x.w (place j j.level).2) (ask 10 (bG (field j (fA 2 j.level)) x.w (wTo x.w (place j j.level).2)) j) (ask 11 (bG (place j j.level).1 (place j j.level).2 (wTo (place j j.level).2 j.node)) j)))
     (I (j.pc==10) (I (!x.ok) (link j) (ask 11 (bG (place j j.level).1 (place j j.level).2 (wTo (place j j.level).2 j.node)) j))
     (I (j.pc==11) (I x.ok (link {j with level:=bp j.level}) (r12 (seek j 12 j.op.key)))
     (I (j.pc==12) (r12 j)
     (L (j.last,j))))))
     (I (j.pc==0) (ask 1 jy j)
     (I (j.pc==1) (I (!x.ok) (done j 4 0) (same {j with node:=x.w} (ask 2 (cY (aY x.w 0) (g9 j.op.key)) {j with node:=x.w})))
     (I (j.pc==2) (same j (ask 3 (cY (field j 1) (g9 j.op.val)) j))
     (I (j.pc==3) (same j (ask 4 (cY (field j 6) (g9 j.op.tall)) j))
     (I (j.pc==6) (done j 3 0)
     (I (j.pc==8) (I x.ok (link {j with level:=1}) (ins5 (seek j 5 j.op.key)))
     (I (j.pc==4) (ins5 (seek j 5 j.op.key))
     (I (j.pc==5) (ins5 j)
     (I (j.pc==7) (ins7 j)
     (L (j.last,j)))))))))))
 else if j.op.kind=7 then
  I (j.pc==0) (rem1 (seek j 1 j.op.key))
  (I (j.pc==1) (rem1 j)
  (I (j.pc==2) (I (orB (decide (x.w.num < 1)) (decide (x.w.num > 3))) (ask 3 (aZ (field j 1)) {j with level:=0}) (ask 3 (aZ (field j 1)) {j with level:=IntKind.wrap .i64 (x.w.num - 1)}))
  (I (j.pc==3) (look {j with val:=x.w.num})
  (I (j.pc==4) (I (!x.w.mark) (ask 5 (bG (field j (fA 2 j.level)) x.w (xC x.w)) j) (I (j.level==0) (done j 2 0) (look {j with level:=IntKind.wrap .i64 (j.level - 1)})))
  (I (j.pc==5) (I (!x.ok) (look j) (I (decide (j.level > 0)) (look {j with level:=IntKind.wrap .i64 (j.level - 1)}) (rem6 (seek j 6 (bp j.op.key)))))
  (I (j.pc==6) (rem6 j)
  (L (j.last,j))))))))
 else
  I (j.pc==0) (get1 (seek j 1 j.op.key))
  (I (j.pc==1) (get1 j)
  (I (j.pc==2) (done j 1 x.w.num)
  (L (j.last,j))))))
def tN {α:Type} (b:Bool) (t:T α):T α:=.need b t
theorem OK (σ:Sg) (pc:Int) (la:Cl) (key val tall:Int) (nd:W) (lv inc v:Int) (x:Rp1):(cM σ sE 204 noM (aRp.enc x) (sM ⟨pc,la,⟨6,key,val,tall⟩,none,nd,lv,inc,v⟩) lg (bh 19 (SteM.wr ⟨pc,la,⟨6,key,val,tall⟩,none,nd,lv,inc,v⟩)) []).map (eO vCl oSte)=jP tI tN tL ⟨pc,la,⟨6,key,val,tall⟩,none,nd,lv,inc,v⟩ x:=by kernel_rfl
theorem OJ (σ:Sg) (pc:Int) (la:Cl) (key val tall:Int) (w:ClimbM) (nd:W) (lv inc v:Int) (x:Rp1):(cM σ sE 204 noM (aRp.enc x) (sM ⟨pc,la,⟨6,key,val,tall⟩,some w,nd,lv,inc,v⟩) lg (bh 19 (SteM.wr ⟨pc,la,⟨6,key,val,tall⟩,some w,nd,lv,inc,v⟩)) []).map (eO vCl oSte)=jP tI tN tL ⟨pc,la,⟨6,key,val,tall⟩,some w,nd,lv,inc,v⟩ x:=by kernel_rfl
theorem OI (σ:Sg) (pc:Int) (la:Cl) (key val tall:Int) (nd:W) (lv inc v:Int) (x:Rp1):(cM σ sE 204 noM (aRp.enc x) (sM ⟨pc,la,⟨7,key,val,tall⟩,none,nd,lv,inc,v⟩) lg (bh 19 (SteM.wr ⟨pc,la,⟨7,key,val,tall⟩,none,nd,lv,inc,v⟩)) []).map (eO vCl oSte)=jP tI tN tL ⟨pc,la,⟨7,key,val,tall⟩,none,nd,lv,inc,v⟩ x:=by kernel_rfl
theorem OH (σ:Sg) (pc:Int) (la:Cl) (key val tall:Int) (w:ClimbM) (nd:W) (lv inc v:Int) (x:Rp1):(cM σ sE 204 noM (aRp.enc x) (sM ⟨pc,la,⟨7,key,val,tall⟩,some w,nd,lv,inc,v⟩) lg (bh 19 (SteM.wr ⟨pc,la,⟨7,key,val,tall⟩,some w,nd,lv,inc,v⟩)) []).map (eO vCl oSte)=jP tI tN tL ⟨pc,la,⟨7,key,val,tall⟩,some w,nd,lv,inc,v⟩ x:=by kernel_rfl
theorem OG (σ:Sg) (pc:Int) (la:Cl) (key val tall:Int) (nd:W) (lv inc v:Int) (x:Rp1):(cM σ sE 204 noM (aRp.enc x) (sM ⟨pc,la,⟨8,key,val,tall⟩,none,nd,lv,inc,v⟩) lg (bh 19 (SteM.wr ⟨pc,la,⟨8,key,val,tall⟩,none,nd,lv,inc,v⟩)) []).map (eO vCl oSte)=jP tI tN tL ⟨pc,la,⟨8,key,val,tall⟩,none,nd,lv,inc,v⟩ x:=by kernel_rfl
theorem OE (σ:Sg) (pc:Int) (la:Cl) (key val tall:Int) (w:ClimbM) (nd:W) (lv inc v:Int) (x:Rp1):(cM σ sE 204 noM (aRp.enc x) (sM ⟨pc,la,⟨8,key,val,tall⟩,some w,nd,lv,inc,v⟩) lg (bh 19 (SteM.wr ⟨pc,la,⟨8,key,val,tall⟩,some w,nd,lv,inc,v⟩)) []).map (eO vCl oSte)=jP tI tN tL ⟨pc,la,⟨8,key,val,tall⟩,some w,nd,lv,inc,v⟩ x:=by kernel_rfl
theorem vN {α:Type} {b:Bool} {t:T (Option α)} {x:α} (h:b=true) (h1:t.val=some (some x)):(tN b t).val=some (some x):=by subst h;exact h1
noncomputable def eU (j:SteM) (x:Rp1):Cl×SteM:=jP cond (fun _ t=>t) id j x
def zD (j:SteM):Bool:=match j.climb with
 | none=>decide (j.op.kind=6 \/ j.op.kind=7 \/ j.op.kind=8)
 | some c=>match kv c with | true=>decide (j.op.kind=6 \/ j.op.kind=7 \/ j.op.kind=8) | false=>false
theorem OC:FnOk Tryz.prog (NV σ) 204 (aL isS noM (cU aRp vCl oSte (fun j _=>some (zD j)) eU)) :=
 fK Gl rfl fun j x h=>by
  obtain⟨pc,la,⟨kd,key,val,tall⟩,w,nd,lv,inc,v⟩:=j
  cases w with
  | none =>
    have h:kd=6 \/ kd=7 \/ kd=8:=of_decide_eq_true h
    rcases h with rfl | rfl | rfl
    ·exact⟨lg,bh 19 (SteM.wr ⟨pc,la,⟨6,key,val,tall⟩,none,nd,lv,inc,v⟩),rfl,aRp.enc x,rfl,fun _=>rfl,by
      rw [OK];unfold jP eU jP;dsimp only;simp only [if_true]
      repeat' first | apply vI | exact vL | (refine vN (fm _ _) ?_) | (refine vN rfl ?_)⟩
    ·exact⟨lg,bh 19 (SteM.wr ⟨pc,la,⟨7,key,val,tall⟩,none,nd,lv,inc,v⟩),rfl,aRp.enc x,rfl,fun _=>rfl,by
      rw [OI];unfold jP eU jP;dsimp only;simp only [show ¬(7:Int)=6 by decide,if_false,if_true]
      repeat' first | apply vI | exact vL | (refine vN (fm _ _) ?_) | (refine vN rfl ?_)⟩
    ·exact⟨lg,bh 19 (SteM.wr ⟨pc,la,⟨8,key,val,tall⟩,none,nd,lv,inc,v⟩),rfl,aRp.enc x,rfl,fun _=>rfl,by
      rw [OG];unfold jP eU jP;dsimp only;simp only [show ¬(8:Int)=6 by decide,if_false,show ¬(8:Int)=7 by decide]
      repeat' first | apply vI | exact vL | (refine vN (fm _ _) ?_) | (refine vN rfl ?_)⟩
  | some w =>
    have h:(match kv w with | true=>decide (kd=6 \/ kd=7 \/ kd=8) | false=>false)=true:=h
    cases hw:kv w with
    | false=>rw [hw] at h;cases h
    | true =>
    rw [hw] at h
    have h:kd=6 \/ kd=7 \/ kd=8:=of_decide_eq_true h
    rcases h with rfl | rfl | rfl
    ·exact⟨lg,bh 19 (SteM.wr ⟨pc,la,⟨6,key,val,tall⟩,some w,nd,lv,inc,v⟩),rfl,aRp.enc x,rfl,fun _=>rfl,by
      rw [OJ];unfold jP eU jP;dsimp only;simp only [if_true]
      repeat' first | apply vI | exact vL | (refine vN (fm _ _) ?_) | (refine vN hw ?_) | (refine vN rfl ?_)⟩
    ·exact⟨lg,bh 19 (SteM.wr ⟨pc,la,⟨7,key,val,tall⟩,some w,nd,lv,inc,v⟩),rfl,aRp.enc x,rfl,fun _=>rfl,by
      rw [OH];unfold jP eU jP;dsimp only;simp only [show ¬(7:Int)=6 by decide,if_false,if_true]
      repeat' first | apply vI | exact vL | (refine vN (fm _ _) ?_) | (refine vN hw ?_) | (refine vN rfl ?_)⟩
    ·exact⟨lg,bh 19 (SteM.wr ⟨pc,la,⟨8,key,val,tall⟩,some w,nd,lv,inc,v⟩),rfl,aRp.enc x,rfl,fun _=>rfl,by
      rw [OE];unfold jP eU jP;dsimp only;simp only [show ¬(8:Int)=6 by decide,if_false,show ¬(8:Int)=7 by decide]
      repeat' first | apply vI | exact vL | (refine vN (fm _ _) ?_) | (refine vN hw ?_) | (refine vN rfl ?_)⟩
end Go.Proofs.YtcpdipfepeccgaaGreatDoor

namespace Go.Proofs.YtcpdipfepeccgaaGreatDoor
open Go Go.Sx Go.Proofs
set_option maxRecDepth 100000
variable {σ:Sg}
def aII:ArgK (Int×Int) where
 enc x:=[.v (.c (.it .i64 x.1)),.v (.c (.it .i64 x.2))]
 dec:=fun | [.v (.c c),.v (.c d)]=>(match iOf c,iOf d with | some a,some b=>some (a,b) | _,_=>none) | _=>none
 ok:=fun l a h ρ=>by
  split at h
  ·split at h
   ·rename_i h0 h1
    cases h
    simp only [List.map_cons,List.map_nil,SV.den,V1.den,aM h0 ρ,aM h1 ρ];rfl
   ·cases h
  ·cases h
 free:=fun _=>rfl
def D4:ValK Ad where
 enc x:=.tup [.agg [.it .i64 x.s,.it .i64 x.g,.it .i64 x.f],.c .inil]
 dec:=fun | .tup [.agg [.it .i64 a,.it .i64 b,.it .i64 c],.c .inil]=>some ⟨a,b,c⟩ | _=>none
 ok:=fun v b h=>by split at h<;>cases h;rfl
def DC (x:Int×Int):Ad:=⟨0,0,25+x.1 * 9+x.2⟩
def NB (t:Int):Ad:=⟨0,0,79+t⟩
def p7 (x:Int×Int):Bool:=decide (0<=x.1 /\ x.1 < 6 /\ 0<=x.2 /\ x.2 < 9)
def p5 (t:Int):Bool:=decide (0<=t /\ t < 6)
theorem SM (σ:Sg) (x:Int×Int):(eG σ aQ 114 noM (aII.enc x) []).map (iW D4)=.ite (orB (!(de (decide (0<=x.1)) (decide (x.1 < 6)))) (orB (decide (x.2 < 0)) (decide (x.2>=9)))) (.fail "load")
 (.leaf (some ⟨0,0,IntKind.wrap .i64 (IntKind.wrap .i64 (25+IntKind.wrap .i64 (x.1 * 9))+x.2)⟩)):=by kernel_rfl
theorem Rc (σ:Sg) (t:Int):(eG σ aQ 91 noM (aI.enc t) []).map (iW D4)=.ite (!(de (decide (0<=t)) (decide (t < 6)))) (.fail "load") (.leaf (some ⟨0,0,IntKind.wrap .i64 (79+t)⟩)):=by kernel_rfl
theorem fh {m:Int} (h:-9223372036854775808<=m /\ m<=9223372036854775807):IntKind.wrap .i64 m=m:=by
 unfold IntKind.wrap
 simp only [IntKind.bits,IntKind.signed]
 first | omega | (simp;omega)
theorem JU {a b:Bool} (ha:a=true) (hb:b=true):de a b=true:=by subst ha hb;rfl
theorem NP {a b:Bool} (ha:a=false) (hb:b=false):orB a b=false:=by subst ha hb;rfl
theorem LB:FnOk Tryz.prog (NV σ) 114 (aL isS noM (n7 aII D4 (fun x=>some (p7 x)) DC)) :=
 my au rfl fun x h=>⟨aII.enc x,rfl,fun _=>rfl,by
  obtain⟨t,n⟩:=x
  have h:0<=t /\ t < 6 /\ 0<=n /\ n < 9:=of_decide_eq_true h
  obtain⟨h1,h2,h3,h4⟩:=h
  rw [SM,NP (by rw [JU (decide_eq_true h1) (decide_eq_true h2)];rfl) (NP (decide_eq_false (by omega)) (decide_eq_false (by omega)))]
  show some (some (⟨0,0,_⟩:Ad))=_
  have e1:IntKind.wrap .i64 (t * 9)=t * 9:=fh (by omega)
  have e2:IntKind.wrap .i64 (25+t * 9)=25+t * 9:=fh (by omega)
  have e3:IntKind.wrap .i64 (25+t * 9+n)=25+t * 9+n:=fh (by omega)
  dsimp only
  rw [e1,e2,e3]
  rfl⟩
theorem KC:FnOk Tryz.prog (NV σ) 91 (aL isS noM (n7 aI D4 (fun x=>some (p5 x)) NB)) :=
 my au rfl fun t h=>⟨aI.enc t,rfl,fun _=>rfl,by
  have h:0<=t /\ t < 6:=of_decide_eq_true h
  obtain⟨h1,h2⟩:=h
  rw [Rc,JU (decide_eq_true h1) (decide_eq_true h2)]
  show some (some (⟨0,0,_⟩:Ad))=_
  have e1:IntKind.wrap .i64 (79+t)=79+t:=fh (by omega)
  rw [e1]
  rfl⟩
end Go.Proofs.YtcpdipfepeccgaaGreatDoor

namespace Go.Proofs.YtcpdipfepeccgaaGreatDoor
open Go Go.Sx Go.Proofs
set_option maxRecDepth 100000
variable {σ:Sg}
def H9.get (s:H9) (n:Int):W:=if n=0 then s.h0 else if n=1 then s.h1 else if n=2 then s.h2 else if n=3 then s.h3 else if n=4 then s.h4 else if n=5 then s.h5 else if n=6 then s.h6 else if n=7 then s.h7 else s.h8
def H9.put (s:H9) (n:Int) (w:W):H9:=if n=0 then {s with h0:=w} else if n=1 then {s with h1:=w} else if n=2 then {s with h2:=w} else if n=3 then {s with h3:=w} else if n=4 then {s with h4:=w}
 else if n=5 then {s with h5:=w} else if n=6 then {s with h6:=w} else if n=7 then {s with h7:=w} else {s with h8:=w}
structure RT where
 m:RiteM
 ls:Nat
 ld:Nat
 ln:Nat
def sg:ValK Unit where
 enc _:=.v (.c .inil)
 dec:=fun | .v (.c .inil)=>some () | _=>none
 ok:=fun v b h=>by split at h<;>cases h;rfl
def wD (r:RT):Bool:=match decide (r.ls=r.m.seen.length) with
 | true=>(match decide (r.ld=r.m.doomed.length) with
   | true=>(match decide (r.ln=r.m.notes.length) with | true=>true | false=>false)
   | false=>false)
 | false=>false
def tR (r:RT):T (Option (Unit×RiteM)):=.need (wD r) (.leaf (some ((),r.m)))
def wu:Acc:=⟨0,0,0,0,aq,aq⟩
def isZero (w:W):Bool:=w.slot==0&&(w.gen==0&&(w.tag==0&&(w.num==0&&w.mark==false)))
def eqW (a b:W):Bool:=a.slot==b.slot&&(a.gen==b.gen&&(a.tag==b.tag&&(a.num==b.num&&a.mark==b.mark)))
def OL (s:Sp):Bool:=s.is==false&&(s.low==0&&s.high==0)
def gf (s:Int) (a:Acc) (r:RT):RT:={r with m:={r.m with step:=s,acc:=a}}
def gG (s:Int) (a:Ad) (r:RT):RT:=gf s ⟨1,a.s,a.g,a.f,aq,aq⟩ r
def eA (x:Rp1) (r:RT):RT:={r with m:={r.m with call:=bu,step:=0,acc:=wu,word:=aq,clock:=aq,index:=0,seen:=[],doomed:=[],reply:=x},ls:=0,ld:=0}
def qy:Ad:=bH 24
section
variable {β:Type} (I:Bool->β->β->β) (N:Bool->β->β) (L:RT->β)
def iF (r:RT):β:=L (eA ⟨aq,true⟩ r)
def sW (s n:Int) (w:W) (r:RT):β:=N (p7 (r.m.me,n)) (L (gf s ⟨2,0,0,25+r.m.me * 9+n,aq,w⟩ {r with m:={r.m with holds:=H9.put r.m.holds n w}}))
def gg (s:Int) (sp:Sp) (w:W) (r:RT):β:=N (p5 r.m.me) (L (gf s ⟨2,0,0,79+r.m.me,aq,w⟩ {r with m:={r.m with span:=sp}}))
def mj (r:RT):Nat->Int->β
 | 0,_=>iF L r
 | k+1,n=>I (!isZero (H9.get r.m.holds n)) (sW N L 4 n aq {r with m:={r.m with index:=n}}) (mj r k (n+1))
def nH (n:Nat) (r:RT):β :=
 if r.m.engine=4 \/ r.m.engine=5 then I (!OL r.m.span) (gg N L 2 ⟨false,0,0⟩ aq r) (iF L r)
 else if r.m.engine=2 \/ r.m.engine=3 then mj I N L r (9 - n) n else iF L r
def gF (x:Rp1) (r:RT):β :=
 if r.m.step=7 then L (gG 5 r.m.call.adr r)
 else if r.m.step=5 then
  (if r.m.engine=3 \/ r.m.engine=5 then L (gG 6 qy {r with m:={r.m with word:=x.w}})
  else if r.m.engine=2 then
   I (de (!(x.w.slot==0)) (!eqW (H9.get r.m.holds r.m.call.i) (ko x.w))) (sW N L 7 r.m.call.i (ko x.w) {r with m:={r.m with word:=x.w}}) (L (eA ⟨x.w,true⟩ r))
  else L (eA ⟨x.w,true⟩ r))
 else if r.m.engine=3 then
  I (de (!isZero (H9.get r.m.holds r.m.call.i)) ((H9.get r.m.holds r.m.call.i).num==x.w.num)) (L (eA ⟨r.m.word,true⟩ r)) (sW N L 7 r.m.call.i (g9 x.w.num) r)
 else
  I (de r.m.span.is (r.m.span.high==x.w.num)) (L (eA ⟨r.m.word,true⟩ r))
    (I r.m.span.is (gg N L 7 ⟨true,r.m.span.low,x.w.num⟩ ⟨0,0,x.w.num,r.m.span.low,true⟩ r) (gg N L 7 ⟨true,x.w.num,x.w.num⟩ ⟨0,0,x.w.num,x.w.num,true⟩ r))
def jU (x:Rp1) (r:RT):β :=
 if r.m.step=1 then L (eA x r)
 else if r.m.step=2 then iF L r
 else if r.m.step=3 then gg N L 2 ⟨true,x.w.num,x.w.num⟩ ⟨0,0,x.w.num,x.w.num,true⟩ r
 else if r.m.step=4 then nH I N L (r.m.index+1).toNat r
 else if r.m.step=8 then L (gf 1 ⟨4,0,0,0,aq,g9 x.w.num⟩ r)
 else gF I N L x r
end
noncomputable def y5:Tab:=aC 114 (aL isS noM (n7 aII D4 (fun x=>some (p7 x)) DC)) (aC 91 (aL isS noM (n7 aI D4 (fun x=>some (p5 x)) NB)) aQ)
theorem sD:bm Tryz.prog (NV σ) y5:=aj LB (aj KC au)
noncomputable def G8 (σ:Sg) (ks:List Nat) (m:RiteM) (x:Rp1):T (Option (Unit×RiteM)):=(cM σ y5 39 noM (aRp.enc x) (dw m) b8 (ks.foldl (fun g k=>bh k g) (RiteM.wr m)) []).map (eO sg oRite)
end Go.Proofs.YtcpdipfepeccgaaGreatDoor

namespace Go.Proofs.YtcpdipfepeccgaaGreatDoor
open Go Go.Sx Go.Proofs
set_option maxRecDepth 100000
variable {σ:Sg}
section
variable {β:Type} (I:Bool->β->β->β) (N:Bool->β->β) (L:RT->β)
def vT (c:Cl) (r:RT):β :=
 if c.kind=1 then(if r.m.engine=4 \/ r.m.engine=5 then L (gG 3 qy r) else iF L r)
 else if c.kind=2 then nH I N L 0 r
 else if c.kind=3 then L (gG 1 c.adr r)
 else if c.kind=4 then L (gf 1 ⟨2,c.adr.s,c.adr.g,c.adr.f,c.old,c.new⟩ r)
 else if c.kind=5 then L (gf 1 ⟨3,c.adr.s,c.adr.g,c.adr.f,c.old,c.new⟩ r)
 else if c.kind=6 then L (gG 5 c.adr r)
 else if c.kind=7 then(if r.m.engine=2 \/ r.m.engine=3 then I (!eqW (H9.get r.m.holds c.i) (H9.get r.m.holds c.j)) (sW N L 2 c.i (H9.get r.m.holds c.j) r) (iF L r) else iF L r)
 else if c.kind=8 then(if r.m.engine=3 \/ r.m.engine=5 then L (gG 8 qy r) else L (gf 1 ⟨4,0,0,0,aq,aq⟩ r))
 else if c.kind=9 then L (gf 2 ⟨5,0,0,0,c.old,aq⟩ r)
 else if c.kind=10 then(if r.m.engine=4 then L (gG 10 qy r) else if r.m.engine=3 \/ r.m.engine=5 then L (gG 9 ⟨c.old.slot,c.old.gen,9⟩ r) else iF L r)
 else(if r.m.engine=4 then L (gG 12 qy r) else iF L r)
end
def aCl:ArgK Cl where
 enc c:=[.v (.agg (gsC (Cl.wr c)))]
 dec:=fun | [.v (.agg cs)]=>(match Cl.rd ((rD cs).map .p) with | some (c,[])=>some c | _=>none) | _=>none
 ok:=fun l a h ρ=>by
  split at h
  ·split at h
   ·rename_i hc
    cases h
    have:=Cl.rd_s hc
    rw [List.append_nil] at this
    rw [<- this,ju]
    simp only [List.map_cons,List.map_nil,SV.den,V1.den,lK]
   ·cases h
  ·cases h
 free:=fun _=>rfl
end Go.Proofs.YtcpdipfepeccgaaGreatDoor

namespace Go.Proofs.YtcpdipfepeccgaaGreatDoor
open Go Go.Sx Go.Proofs
set_option maxRecDepth 100000
variable {σ:Sg}
section
variable {β:Type} (I:Bool->β->β->β) (N:Bool->β->β) (L:RT->β)
def jV (n:Int) (r:RT) (k:β):β :=
 if r.m.engine=2 \/ r.m.engine=3 then I (decide (n>=IntKind.wrap .i64 (r.m.threads * 9))) k (N true (N true (N (p7 (IntKind.wrap .i64 (Int.tdiv n 9),Int.tmod n 9)) (L (gf 13 ⟨1,0,0,(DC (IntKind.wrap .i64 (Int.tdiv n 9),Int.tmod n 9)).f,aq,aq⟩ {r with m:={r.m with index:=n}})))))
 else I (decide (n>=r.m.threads)) k (N (p5 n) (L (gf 13 ⟨1,0,0,79+n,aq,aq⟩ {r with m:={r.m with index:=n}})))
def qW (r:RT):β :=
 if r.m.engine=1 then iF L r else if r.m.engine=4 then L (gG 12 qy r) else jV I N L 0 r (L r)
def vF (σ:Sg) (r:RT):Bool:=decide (r.ln=Intf.len (F6 σ) (AV.notes r.m.notes) /\ (r.ln+1) * (SI.bytes Da+1)<=lim)
def BS (birth death:Int) (r:RT):RT:={r with m:={r.m with notes:=r.m.notes++[⟨r.m.call.old.slot,r.m.call.old.gen,0,0,false,birth,death⟩]},ln:=r.ln+1}
def jB (r:RT):β:=I (decide ((r.ln:Int)>=r.m.most)) (qW I N L r) (iF L r)
def OT (σ:Sg) (x:Rp1) (r:RT):β :=
 if r.m.step=9 then L (gG 10 qy {r with m:={r.m with word:=x.w}})
 else if r.m.step=10 then N (vF σ r) (
  if r.m.engine=3 \/ r.m.engine=5 then L (gf 11 ⟨3,0,0,24,x.w,gQ x.w 1⟩ (BS r.m.word.num x.w.num {r with m:={r.m with clock:=x.w}}))
  else jB I N L (BS r.m.word.num x.w.num {r with m:={r.m with clock:=x.w}}))
 else if r.m.step=11 then jB I N L r
 else if r.m.step=12 then jV I N L 0 {r with m:={r.m with clock:=x.w}} (L {r with m:={r.m with clock:=x.w}})
 else L (gG 15 qy r)
end
def sX (c:Cl) (r:RT):RT:={r with m:={r.m with call:=c,step:=0,acc:=wu,word:=aq,clock:=aq,index:=0,seen:=[],doomed:=[]},ls:=0,ld:=0}
def N6 (σ:Sg) (m:RiteM) (c:Cl) (t:T (Option (Unit×RiteM))):Prop:=∃gs args,ia σ (dw m)=some (cD AV.len b8 (dz gs)) /\ cS args=true /\ (∀ρ:Nm,args.map (SV.den ρ)=(aCl.enc c).map (SV.den ρ)) /\
 (cM σ y5 57 noM args (dw m) b8 gs []).map (eO sg oRite)=t
theorem bgK {m:RiteM} {c:Cl} {t:T (Option (Unit×RiteM))} (ks kc:List Nat) (h1:ia σ (dw m)=some (cD AV.len b8 (dz (ks.foldl (fun g k=>bh k g) (RiteM.wr m))))) (h3:∀ρ:Nm,([.v (.agg (gsC (kc.foldl (fun g k=>bh k g) (Cl.wr c))))]:List SV).map (SV.den ρ)=(aCl.enc c).map (SV.den ρ))
 (h2:cS [.v (.agg (gsC (kc.foldl (fun g k=>bh k g) (Cl.wr c))))]=true) (h4:(cM σ y5 57 noM [.v (.agg (gsC (kc.foldl (fun g k=>bh k g) (Cl.wr c))))] (dw m) b8 (ks.foldl (fun g k=>bh k g) (RiteM.wr m)) []).map (eO sg oRite)=t):N6 σ m c t:=⟨_,_,h1,h2,h3,h4⟩
end Go.Proofs.YtcpdipfepeccgaaGreatDoor

namespace Go.Proofs.YtcpdipfepeccgaaGreatDoor
open Go Go.Sx Go.Proofs
set_option maxRecDepth 100000
variable {σ:Sg}
section
variable {β:Type} (I:Bool->β->β->β) (N:Bool->β->β) (L:RT->β)
def nG (sz:RT->Bool) (c:Cl) (r:RT):β :=
 if c.kind=10 /\ r.m.engine=2 then N (sz r) (jB I N L (BS 0 0 r))
 else if c.kind=11 /\ (r.m.engine=2 \/ r.m.engine=3 \/ r.m.engine=5) then qW I N L r
 else vT I N L c r
end
def rOf (m:RiteM):RT:=⟨m,m.seen.length,m.doomed.length,m.notes.length⟩
def db (m:RiteM) (c:Cl):RiteM:=nG cond (fun _ t=>t) RT.m (fun _=>true) c (sX c (rOf m))
def p6 (i j:Int):Prop:=(i=1 /\ j=0) \/ (i=2 /\ j=1) \/ (i=4 /\ j=3) \/ (i=5 /\ j=4) \/ (i=7 /\ j=6) \/ (i=8 /\ j=7) \/ (i=2 /\ j=5) \/ (i=5 /\ j=8)
instance (i j:Int):Decidable (p6 i j):=by unfold p6;infer_instance
def vf (c:Cl):Prop:=c.kind=1 \/ c.kind=2 \/ c.kind=3 \/ c.kind=4 \/ c.kind=5 \/ (c.kind=6 /\ 0<=c.i /\ c.i < 9 /\ c.j=0) \/ (c.kind=7 /\ p6 c.i c.j) \/ c.kind=8 \/ c.kind=9 \/ c.kind=10 \/ c.kind=11
instance (c:Cl):Decidable (vf c):=by unfold vf;infer_instance
def ER (m:RiteM):Prop:=1<=m.engine /\ m.engine<=5 /\ 0<=m.me /\ m.me < 6 /\ m.notes.length<=100000
instance (m:RiteM):Decidable (ER m):=by unfold ER;infer_instance
def zG (m:RiteM) (c:Cl):Bool:=decide (m.step=0 /\ ER m /\ vf c)
def UC (σ:Sg) (m:RiteM) (c:Cl):Prop:=N6 σ m c (nG tI tN tR (vF σ) c (sX c (rOf m)))
theorem OQ (σ:Sg) (m:RiteM) (c:Cl) (h:zG m c=true):UC σ m c:=by
 obtain⟨h0,h1,h2⟩:=of_decide_eq_true h
 obtain⟨cl,st,acc,wd,clk,ix,seen,doomed,e,me,thr,mst,holds,span,notes,freed,reply⟩:=m
 obtain⟨k,adr,old,new,i,j,ans⟩:=c
 dsimp only [ER,vf] at h0 h1 h2
 subst h0
 have he:e=1 \/ e=2 \/ e=3 \/ e=4 \/ e=5:=by omega
 clear h h1
 rcases h2 with rfl | rfl | rfl | rfl | rfl | ⟨rfl,h3,h4,rfl⟩ | ⟨rfl,h3⟩ | rfl | rfl | rfl | rfl
 ·rcases he with rfl | rfl | rfl | rfl | rfl<;>exact bgK [18,46] [0] (by kernel_rfl) (fun _=>by kernel_rfl) (by kernel_rfl) (by kernel_rfl)
 ·rcases he with rfl | rfl | rfl | rfl | rfl<;>exact bgK [18,46] [0] (by kernel_rfl) (fun _=>by kernel_rfl) (by kernel_rfl) (by kernel_rfl)
 ·exact bgK [18] [0] (by kernel_rfl) (fun _=>by kernel_rfl) (by kernel_rfl) (by kernel_rfl)
 ·exact bgK [18] [0] (by kernel_rfl) (fun _=>by kernel_rfl) (by kernel_rfl) (by kernel_rfl)
 ·exact bgK [18] [0] (by kernel_rfl) (fun _=>by kernel_rfl) (by kernel_rfl) (by kernel_rfl)
 ·rcases (by omega:i=0 \/ i=1 \/ i=2 \/ i=3 \/ i=4 \/ i=5 \/ i=6 \/ i=7 \/ i=8) with rfl | rfl | rfl | rfl | rfl | rfl | rfl | rfl | rfl<;>exact bgK [18] [0,14,15] (by kernel_rfl) (fun _=>by kernel_rfl) (by kernel_rfl) (by kernel_rfl)
 ·rcases h3 with⟨rfl,rfl⟩ | ⟨rfl,rfl⟩ | ⟨rfl,rfl⟩ | ⟨rfl,rfl⟩ | ⟨rfl,rfl⟩ | ⟨rfl,rfl⟩ | ⟨rfl,rfl⟩ | ⟨rfl,rfl⟩<;>rcases he with rfl | rfl | rfl | rfl | rfl<;>exact bgK [18,46] [0,14,15] (by kernel_rfl) (fun _=>by kernel_rfl) (by kernel_rfl) (by kernel_rfl)
 ·rcases he with rfl | rfl | rfl | rfl | rfl<;>exact bgK [18,46] [0] (by kernel_rfl) (fun _=>by kernel_rfl) (by kernel_rfl) (by kernel_rfl)
 ·exact bgK [18] [0] (by kernel_rfl) (fun _=>by kernel_rfl) (by kernel_rfl) (by kernel_rfl)
 ·rcases he with rfl | rfl | rfl | rfl | rfl<;>exact bgK [18,46] [0] (by kernel_rfl) (fun _=>by kernel_rfl) (by kernel_rfl) (by kernel_rfl)
 ·rcases he with rfl | rfl | rfl | rfl | rfl<;>exact bgK [18,46] [0] (by kernel_rfl) (fun _=>by kernel_rfl) (by kernel_rfl) (by kernel_rfl)
theorem rU {r:RT} (h1:r.ls=r.m.seen.length) (h2:r.ld=r.m.doomed.length) (h3:r.ln=r.m.notes.length):wD r=true:=by
 unfold wD
 rw [decide_eq_true h1,decide_eq_true h2,decide_eq_true h3]
theorem vR {r:RT} (h1:r.ls=r.m.seen.length) (h2:r.ld=r.m.doomed.length) (h3:r.ln=r.m.notes.length):(tR r).val=some (some ((),r.m)):=by
 unfold tR
 rw [rU h1 h2 h3]
 rfl
def du (r:RT):Prop:=r.ls=r.m.seen.length /\ r.ld=r.m.doomed.length /\ r.ln=r.m.notes.length
def cB (t:T (Option (Unit×RiteM))) (m:RiteM):Prop:=t.val=some (some ((),m))
theorem dG {r:RT} (h:du r):cB (tR r) r.m:=vR h.1 h.2.1 h.2.2
theorem su {b:Bool} {t e:T (Option (Unit×RiteM))} {x y:RiteM} (h1:cB t x) (h2:cB e y):cB (tI b t e) (cond b x y):=by cases b<;>assumption
theorem fS {b:Bool} {t:T (Option (Unit×RiteM))} {x:RiteM} (h:b=true) (h1:cB t x):cB (tN b t) x:=by subst h;exact h1
theorem bJ {c:Prop} [Decidable c] {t e:T (Option (Unit×RiteM))} {x y:RiteM} (h1:c->cB t x) (h2:¬c->cB e y):cB (if c then t else e) (if c then x else y):=by
 split
 ·exact h1 ‹_›
 ·exact h2 ‹_›
theorem iP {x:Rp1} {r:RT} (h:du r):du (eA x r):=⟨rfl,rfl,h.2.2⟩
theorem ua {b d:Int} {r:RT} (h:du r):du (BS b d r):=⟨h.1,h.2.1,by
 show r.ln+1=(r.m.notes++[_]).length
 rw [List.length_append,h.2.2];rfl⟩
theorem eT {r:RT} (h:du r):cB (iF tR r) (iF RT.m r):=dG (iP h)
theorem rL {s n:Int} {w:W} {r:RT} (h:du r) (hk:p7 (r.m.me,n)=true):cB (sW tN tR s n w r) (sW (fun _ t=>t) RT.m s n w r):=fS hk (dG h)
theorem xH {s:Int} {sp:Sp} {w:W} {r:RT} (h:du r) (hk:p5 r.m.me=true):cB (gg tN tR s sp w r) (gg (fun _ t=>t) RT.m s sp w r):=fS hk (dG h)
theorem jZ {t n:Int} (h1:0<=t) (h2:t < 6) (h3:0<=n) (h4:n < 9):p7 (t,n)=true:=decide_eq_true ⟨h1,h2,h3,h4⟩
theorem jY {t:Int} (h1:0<=t) (h2:t < 6):p5 t=true:=decide_eq_true ⟨h1,h2⟩
theorem vu {r:RT} (h:du r) (h1:0<=r.m.me) (h2:r.m.me < 6):∀(k:Nat) (n:Int),0<=n->n+k<=9->cB (mj tI tN tR r k n) (mj cond (fun _ t=>t) RT.m r k n)
 | 0,n,_,_=>eT h
 | k+1,n,hn,hk=>su (rL (r:={r with m:={r.m with index:=n}}) h (jZ h1 h2 hn (by omega))) (vu h h1 h2 k (n+1) (by omega) (by omega))
theorem yY {r:RT} (h:du r) (h1:0<=r.m.me) (h2:r.m.me < 6) (n:Nat) (hn:n<=9):cB (nH tI tN tR n r) (nH cond (fun _ t=>t) RT.m n r):=by
 unfold nH
 exact bJ (fun _=>su (xH h (jY h1 h2)) (eT h)) fun _=>bJ (fun _=>vu h h1 h2 _ _ (by omega) (by omega)) fun _=>eT h
theorem F8 {r:RT} (h:du r):cB (jV tI tN tR 0 r (tR r)) (jV cond (fun _ t=>t) RT.m 0 r r.m):=by
 unfold jV
 exact bJ (fun _=>su (dG h) (fS rfl (fS rfl (fS (by decide) (dG (r:=gf 13 _ {r with m:={r.m with index:=0}}) h))))) fun _=>su (dG h) (fS (by decide) (dG (r:=gf 13 _ {r with m:={r.m with index:=0}}) h))
theorem CU {r:RT} (h:du r):cB (qW tI tN tR r) (qW cond (fun _ t=>t) RT.m r):=by
 unfold qW
 exact bJ (fun _=>eT h) fun _=>bJ (fun _=>dG h) fun _=>F8 h
theorem ss {r:RT} (h:du r):cB (jB tI tN tR r) (jB cond (fun _ t=>t) RT.m r):=su (CU h) (eT h)
theorem C7 {r:RT} (h:du r) (hn:r.m.notes.length<=100000):vF σ r=true:=by
 unfold vF
 refine decide_eq_true ⟨h.2.2,?_⟩
 rw [h.2.2]
 exact Nat.le_trans (Nat.mul_le_mul_right _ (Nat.succ_le_succ hn)) (by decide)
theorem Kq {c:Cl} {r:RT} (h:du r) (h1:0<=r.m.me) (h2:r.m.me < 6) (hc:c.kind=7->0<=c.i /\ c.i < 9):cB (vT tI tN tR c r) (vT cond (fun _ t=>t) RT.m c r):=by
 unfold vT
 refine bJ (fun _=>bJ (fun _=>dG h) fun _=>eT h) fun _=>bJ (fun _=>yY h h1 h2 0 (by omega)) fun _=>bJ (fun _=>dG h) fun _=>bJ (fun _=>dG h) fun _=>bJ (fun _=>dG h) fun _=>bJ (fun _=>dG h) fun _ =>
  bJ (fun h7=>bJ (fun _=>su (rL h (jZ h1 h2 (hc h7).1 (hc h7).2)) (eT h)) fun _=>eT h) fun _=>bJ (fun _=>bJ (fun _=>dG h) fun _=>dG h) fun _=>bJ (fun _=>dG h) fun _ =>
  bJ (fun _=>bJ (fun _=>dG h) fun _=>bJ (fun _=>dG h) fun _=>eT h) fun _=>bJ (fun _=>dG h) fun _=>eT h
theorem F9 {c:Cl} {r:RT} (h:du r) (h1:0<=r.m.me) (h2:r.m.me < 6) (hn:r.m.notes.length<=100000) (hc:c.kind=7->0<=c.i /\ c.i < 9):cB (nG tI tN tR (vF σ) c r) (nG cond (fun _ t=>t) RT.m (fun _=>true) c r):=by
 unfold nG
 exact bJ (fun _=>fS (C7 h hn) (ss (ua h))) fun _=>bJ (fun _=>CU h) fun _=>Kq h h1 h2 hc
theorem AZ:FnOk Tryz.prog (NV σ) 57 (aL isS noM (cU aCl sg oRite (fun m c=>some (zG m c)) (fun m c=>((),db m c)))) :=
 fK sD rfl fun m c h=>by
  obtain⟨gs,args,e1,e2,e3,e4⟩:=OQ σ m c h
  obtain⟨h0,hm,hk⟩:=of_decide_eq_true (h:zG m c=true)
  refine⟨b8,gs,e1,args,e2,e3,?_⟩
  rw [e4]
  exact F9 (r:=sX c (rOf m)) ⟨rfl,rfl,rfl⟩ hm.2.2.1 hm.2.2.2.1 hm.2.2.2.2 (fun h7=>by
   unfold vf at hk
   rcases hk with h | h | h | h | h | h | h | h | h | h | h
   all_goals try omega
   obtain⟨_,h⟩:=h
   unfold p6 at h
   omega)
end Go.Proofs.YtcpdipfepeccgaaGreatDoor
