import Derived.Test.YtcpdipfepeccgaaGreatDoorSxOh
set_option linter.unusedVariables false
namespace Go.Proofs.YtcpdipfepeccgaaGreatDoor
open Go Go.Sx Go.Proofs
set_option maxRecDepth 100000
variable {σ:Sg}
def wRef (w:W):W:=⟨w.slot,w.gen,0,0,false⟩
def wTo (w r:W):W:=⟨r.slot,r.gen,wrap1 w.tag,0,false⟩
def wMarked (w:W):W:=⟨w.slot,w.gen,wrap1 w.tag,w.num,true⟩
def wCount (w:W) (n:Int):W:=⟨0,0,wrap1 w.tag,IntKind.wrap .i64 (w.num+n),false⟩
def fieldA (w:W) (n:Int):Ad:=⟨w.slot,w.gen,n⟩
def rootA (n:Int):Ad:=⟨0,0,n⟩
def noAd:Ad:=⟨0,0,0⟩
def clNone:Cl:=⟨0,noAd,wNil,wNil,0,0,⟨0,0⟩⟩
def clLoad (a:Ad):Cl:=⟨3,a,wNil,wNil,0,0,⟨0,0⟩⟩
def clStore (a:Ad) (w:W):Cl:=⟨4,a,wNil,w,0,0,⟨0,0⟩⟩
def clSwap (a:Ad) (o n:W):Cl:=⟨5,a,o,n,0,0,⟨0,0⟩⟩
def clProtect (a:Ad) (i:Int):Cl:=⟨6,a,wNil,wNil,i,0,⟨0,0⟩⟩
def clHold (i j:Int):Cl:=⟨7,noAd,wNil,wNil,i,j,⟨0,0⟩⟩
def clAlloc:Cl:=⟨8,noAd,wNil,wNil,0,0,⟨0,0⟩⟩
def clDrop (w:W):Cl:=⟨9,noAd,w,wNil,0,0,⟨0,0⟩⟩
def clRetire (w:W):Cl:=⟨10,noAd,w,wNil,0,0,⟨0,0⟩⟩
def clDone (code val:Int):Cl:=⟨12,noAd,wNil,wNil,0,0,⟨code,val⟩⟩
def pileF {β:Type} (I:Bool->β->β->β) (L:Cl×PileM->β) (j:PileM) (x:Rp1):β :=
 let ask (n:Int) (c:Cl) (j:PileM):β:=L (c,{j with pc:=n})
 let done (j:PileM) (c v:Int):β:=L (clDone c v,{j with pc:=-1,last:=clDone c v})
 I (j.op.kind==1)
   (I (j.pc==0) (ask 1 clAlloc j)
   (I (j.pc==1) (I (!x.ok) (done j 4 0) (ask 2 (clStore (fieldA x.w 1) (wNum j.op.val)) {j with node:=x.w}))
   (I (j.pc==5) (I x.ok (done j 1 0) (ask 3 (clLoad (rootA 0)) j))
   (I (j.pc==2) (ask 3 (clLoad (rootA 0)) j)
   (I (j.pc==3) (ask 4 (clStore (fieldA j.node 2) (wRef x.w)) {j with top:=x.w})
   (I (j.pc==4) (ask 5 (clSwap (rootA 0) j.top (wTo j.top j.node)) j)
   (L (j.last,j))))))))
   (I (j.pc==3) (I x.ok (ask 4 (clLoad (fieldA j.top 1)) j) (ask 1 (clProtect (rootA 0) 0) j))
   (I (j.pc==0) (ask 1 (clProtect (rootA 0) 0) j)
   (I (j.pc==1) (I (x.w.slot==0) (done {j with top:=x.w} 2 0) (I (j.op.kind==3) (ask 4 (clLoad (fieldA x.w 1)) {j with top:=x.w}) (ask 2 (clLoad (fieldA x.w 2)) {j with top:=x.w})))
   (I (j.pc==2) (ask 3 (clSwap (rootA 0) j.top (wTo j.top x.w)) j)
   (I (j.pc==4) (I (j.op.kind==3) (done {j with val:=x.w.num} 1 x.w.num) (ask 5 (clRetire j.top) {j with val:=x.w.num}))
   (I (j.pc==5) (done j 1 j.val)
   (L (j.last,j))))))))
def pileNext (j:PileM) (x:Rp1):Cl×PileM:=pileF cond id j x
theorem pileR (σ:Sg) (j:PileM) (x:Rp1):(runMe σ tab0 147 noM (aRp.enc x) (pileV j) tPile (PileM.wr j) []).map (decM vCl oPile)=pileF tI tL j x:=by kernel_rfl
theorem pile_ok:FnOk Tryz.prog (NV σ) 147 (sumG isS noM (methS aRp vCl oPile (fun _ _=>none) pileNext)) :=
 methS_ok tab0_ok rfl fun j x _=>⟨tPile,PileM.wr j,rfl,aRp.enc x,rfl,fun _=>rfl,by
  rw [pileR];unfold pileF pileNext pileF;dsimp only
  repeat' first | apply vI | exact vL⟩
def cortF {β:Type} (I:Bool->β->β->β) (L:Cl×CortM->β) (j:CortM) (x:Rp1):β :=
 let two (p q:Bool) (t e:β):β:=I p (I p t e) (I q t e)
 let ask (n:Int) (c:Cl) (j:CortM):β:=L (c,{j with pc:=n})
 let done (j:CortM) (c v:Int):β:=L (clDone c v,{j with pc:=-1,last:=clDone c v})
 I (j.op.kind==4)
   (I (j.pc==0) (ask 1 clAlloc j)
   (I (j.pc==1) (I (!x.ok) (done j 4 0) (ask 2 (clStore (fieldA x.w 1) (wNum j.op.val)) {j with node:=x.w}))
   (I (j.pc==3) (ask 4 (clLoad (fieldA x.w 2)) {j with t:=x.w})
   (I (j.pc==4) (ask 5 (clLoad (rootA 1)) {j with n:=x.w})
   (I (j.pc==5) (I (!sameW x.w j.t) (ask 3 (clProtect (rootA 1) 0) j) (I (!(j.n.slot==0)) (ask 6 (clSwap (rootA 1) j.t (wTo j.t j.n)) j) (ask 7 (clSwap (fieldA j.t 2) j.n (wTo j.n j.node)) j)))
   (I (j.pc==7) (I x.ok (ask 8 (clSwap (rootA 1) j.t (wTo j.t j.node)) j) (ask 3 (clProtect (rootA 1) 0) j))
   (two (j.pc==2) (j.pc==6) (ask 3 (clProtect (rootA 1) 0) j)
   (I (j.pc==8) (done j 1 0)
   (L (j.last,j))))))))))
   (I (j.pc==1) (ask 2 (clLoad (rootA 1)) {j with h:=x.w})
   (I (j.pc==2) (ask 3 (clProtect (fieldA j.h 2) 1) {j with t:=x.w})
   (I (j.pc==3) (ask 4 (clLoad (rootA 0)) {j with n:=x.w})
   (I (j.pc==4) (I (!sameW x.w j.h) (ask 1 (clProtect (rootA 0) 0) j) (I (j.n.slot==0) (done j 2 0) (I (j.h.slot==j.t.slot) (ask 5 (clSwap (rootA 1) j.t (wTo j.t j.n)) j) (ask 6 (clLoad (fieldA j.n 1)) j))))
   (I (j.pc==6) (ask 7 (clSwap (rootA 0) j.h (wTo j.h j.n)) {j with val:=x.w.num})
   (I (j.pc==7) (I x.ok (ask 8 (clRetire j.h) j) (ask 1 (clProtect (rootA 0) 0) j))
   (two (j.pc==0) (j.pc==5) (ask 1 (clProtect (rootA 0) 0) j)
   (I (j.pc==8) (done j 1 j.val)
   (L (j.last,j))))))))))
def cortNext (j:CortM) (x:Rp1):Cl×CortM:=cortF cond id j x
theorem cortR (σ:Sg) (j:CortM) (x:Rp1):(runMe σ tab0 156 noM (aRp.enc x) (cortV j) tCort (CortM.wr j) []).map (decM vCl oCort)=cortF tI tL j x:=by kernel_rfl
theorem cort_ok:FnOk Tryz.prog (NV σ) 156 (sumG isS noM (methS aRp vCl oCort (fun _ _=>none) cortNext)) :=
 methS_ok tab0_ok rfl fun j x _=>⟨tCort,CortM.wr j,rfl,aRp.enc x,rfl,fun _=>rfl,by
  rw [cortR];unfold cortF cortNext cortF;dsimp only
  repeat' first | apply vI | exact vL⟩
end Go.Proofs.YtcpdipfepeccgaaGreatDoor

namespace Go.Proofs.YtcpdipfepeccgaaGreatDoor
open Go Go.Sx Go.Proofs
set_option maxRecDepth 100000
variable {σ:Sg}
def vClB:ValK (Cl×Bool) where
 enc c:=.tup [.agg (gsC (Cl.wr c.1)),.c (.bt c.2)]
 dec:=fun | .tup [.agg cs,.c (.bt b)]=>(match Cl.rd (cs.map .p) with | some (c,[])=>some (c,b) | _=>none) | _=>none
 ok:=fun v b h=>by
  split at h
  ·split at h
   ·rename_i hc
    cases h
    have:=Cl.rd_s hc
    rw [List.append_nil] at this
    rw [<- this,gsC_map]
   ·cases h
  ·cases h
def walkF {β:Type} (I:Bool->β->β->β) (L:(Cl×Bool)×WalkM->β) (w:WalkM) (x:Rp1):β :=
 let ask (n:Int) (c:Cl) (w:WalkM):β:=L ((c,true),{w with pc:=n})
 let finish (f:Bool) (w:WalkM):β:=L ((clNone,false),{w with pc:=-1,found:=f})
 let again (w:WalkM):β:=ask 1 (clProtect w.start 1) {w with prev:=w.start}
 let behind (w:WalkM):β:=ask 2 (clProtect (fieldA w.cur 2) 0) w
 let on (w:WalkM):β:=I (w.cur.slot==0) (finish false w) (ask 8 (clHold 1 0) w)
 I (w.pc==1) (I x.w.mark (again w) (I (x.w.slot==0) (finish false {w with cur:=x.w}) (behind {w with cur:=x.w})))
 (I (w.pc==2) (ask 3 (clLoad (fieldA w.cur 0)) {w with next:=x.w})
 (I (w.pc==3) (ask 4 (clLoad w.prev) {w with k:=x.w.num})
 (I (w.pc==4) (I (!sameW x.w w.cur) (again w) (I w.next.mark (ask 5 (clSwap w.prev w.cur (wTo w.cur w.next)) w) (I (decide (w.k>=w.key)) (finish (w.k==w.key) w) (ask 7 (clHold 2 1) {w with prev:=fieldA w.cur 2}))))
 (I (w.pc==5) (I x.ok (ask 6 (clRetire w.cur) w) (again w))
 (I (w.pc==0) (again w)
 (I (w.pc==6) (on {w with cur:=wTo w.cur w.next})
 (I (w.pc==7) (on {w with cur:=w.next})
 (I (w.pc==8) (behind w)
 (L ((clNone,false),w))))))))))
def walkNext (w:WalkM) (x:Rp1):(Cl×Bool)×WalkM:=walkF cond id w x
theorem walkR (σ:Sg) (w:WalkM) (x:Rp1):(runMe σ tab0 173 noM (aRp.enc x) (walkV w) tWalk (WalkM.wr w) []).map (decM vClB oWalk)=walkF tI tL w x:=by kernel_rfl
theorem walkRz (σ:Sg) (x:Rp1):(runN σ tab0 173 noM (.v (.c .pnil)::aRp.enc x) []).map (decF vClB)=.leaf (some (clNone,false)):=by kernel_rfl
theorem walk_ok:FnOk Tryz.prog (NV σ) 173 (sumG isS noM (methZ aRp vClB oWalk (fun _ _=>none) walkNext (clNone,false))) :=
 methZ_ok tab0_ok rfl (fun j x _=>⟨tWalk,WalkM.wr j,rfl,aRp.enc x,rfl,fun _=>rfl,by
  rw [walkR];unfold walkF walkNext walkF;dsimp only
  repeat' first | apply vI | exact vL⟩) fun x=>congrArg T.val (walkRz σ x)
def aAdI:ArgK (Ad×Int) where
 enc x:=[.v (.agg [.it .i64 x.1.s,.it .i64 x.1.g,.it .i64 x.1.f]),.v (.c (.it .i64 x.2))]
 dec:=fun | [.v (.agg [c0,c1,c2]),.v (.c c3)]=>(match iOf c0,iOf c1,iOf c2,iOf c3 with | some a,some b,some c,some n=>some (⟨a,b,c⟩,n) | _,_,_,_=>none) | _=>none
 ok:=fun l a h ρ=>by
  split at h
  ·split at h
   ·rename_i h0 h1 h2 h3
    cases h
    simp only [List.map_cons,List.map_nil,SV.den,V1.den,denL,iOf_den h0 ρ,iOf_den h1 ρ,iOf_den h2 ρ,iOf_den h3 ρ]
    rfl
   ·cases h
  ·cases h
 free:=fun _=>rfl
def newWalk (x:Ad×Int):WalkM:=⟨0,clNone,x.1,x.2,x.1,wNil,wNil,0,false⟩
theorem newWalkR (σ:Sg) (x:Ad×Int):(runN σ tab0 177 noM (aAdI.enc x) []).map (decN oWalk)=tL (newWalk x):=by kernel_rfl
theorem newWalk_ok:FnOk Tryz.prog (NV σ) 177 (sumG isS noM (newS aAdI oWalk (fun _=>none) newWalk)) :=
 newS_ok tab0_ok rfl fun x _=>⟨aAdI.enc x,rfl,fun _=>rfl,by rw [newWalkR];rfl⟩
def aNone:ArgK Unit:=⟨fun _=>[],fun | []=>some () | _=>none,fun l a h ρ=>by split at h<;>cases h;rfl,fun _=>rfl⟩
def vBool:ValK Bool where
 enc b:=.v (.c (.bt b))
 dec:=fun | .v (.c (.bt b))=>some b | _=>none
 ok:=fun v b h=>by split at h<;>cases h;rfl
def vPlace:ValK (Ad×W×W) where
 enc x:=.tup [.agg [.it .i64 x.1.s,.it .i64 x.1.g,.it .i64 x.1.f],.agg x.2.1.enc,.agg x.2.2.enc]
 dec:=fun | .tup [.agg [.it .i64 a,.it .i64 b,.it .i64 c],.agg [.it .i64 d,.it .i64 e,.it .i64 f,.it .i64 g,.bt h],.agg [.it .i64 i,.it .i64 k,.it .i64 l,.it .i64 m,.bt n]]=>some (⟨a,b,c⟩,⟨d,e,f,g,h⟩,⟨i,k,l,m,n⟩) | _=>none
 ok:=fun v b h=>by split at h<;>cases h;rfl
theorem foundR (σ:Sg) (w:WalkM):(runMe σ tab0 174 noM [] (walkV w) tWalk (WalkM.wr w) []).map (decM vBool oWalk)=tL (w.found,w):=by kernel_rfl
theorem placeR (σ:Sg) (w:WalkM):(runMe σ tab0 175 noM [] (walkV w) tWalk (WalkM.wr w) []).map (decM vPlace oWalk)=tL ((w.prev,w.cur,w.next),w):=by kernel_rfl
theorem foundRz (σ:Sg):(runN σ tab0 174 noM [.v (.c .pnil)] []).map (decF vBool)=.leaf (some false):=by kernel_rfl
theorem found_ok:FnOk Tryz.prog (NV σ) 174 (sumG isS noM (methZ aNone vBool oWalk (fun _ _=>none) (fun w _=>(w.found,w)) false)) :=
 methZ_ok tab0_ok rfl (fun j x _=>⟨tWalk,WalkM.wr j,rfl,[],rfl,fun _=>rfl,by rw [foundR];rfl⟩) fun x=>congrArg T.val (foundRz σ)
theorem placeRz (σ:Sg):(runN σ tab0 175 noM [.v (.c .pnil)] []).map (decF vPlace)=.leaf (some (noAd,wNil,wNil)):=by kernel_rfl
theorem place_ok:FnOk Tryz.prog (NV σ) 175 (sumG isS noM (methZ aNone vPlace oWalk (fun _ _=>none) (fun w _=>((w.prev,w.cur,w.next),w)) (noAd,wNil,wNil))) :=
 methZ_ok tab0_ok rfl (fun j x _=>⟨tWalk,WalkM.wr j,rfl,[],rfl,fun _=>rfl,by rw [placeR];rfl⟩) fun x=>congrArg T.val (placeRz σ)
noncomputable def tabWk:Tab:=tabAdd 173 (sumG isS noM (methZ aRp vClB oWalk (fun _ _=>none) walkNext (clNone,false))) (tabAdd 177 (sumG isS noM (newS aAdI oWalk (fun _=>none) newWalk))
 (tabAdd 174 (sumG isS noM (methZ aNone vBool oWalk (fun _ _=>none) (fun w _=>(w.found,w)) false)) (tabAdd 175 (sumG isS noM (methZ aNone vPlace oWalk (fun _ _=>none) (fun w _=>((w.prev,w.cur,w.next),w)) (noAd,wNil,wNil))) tab0)))
theorem tabWk_ok:TabOk Tryz.prog (NV σ) tabWk:=tabAdd_ok walk_ok (tabAdd_ok newWalk_ok (tabAdd_ok found_ok (tabAdd_ok place_ok tab0_ok)))
def litF {β:Type} (I:Bool->β->β->β) (L:Cl×LitM->β) (j:LitM) (x:Rp1):β :=
 let ask (n:Int) (c:Cl) (j:LitM):β:=L (c,{j with pc:=n})
 let done (j:LitM) (c v:Int):β:=L (clDone c v,{j with pc:=-1,last:=clDone c v})
 let seek (j:LitM) (n:Int):LitM:={j with walk:=some (newWalk (j.start,j.key)),pc:=n}
 let found (j:LitM) (t e:β):β:=match j.walk with | none=>I false t e | some w=>I w.found t e
 let miss (j:LitM) (t e:β):β:=match j.walk with | none=>I (!false) t e | some w=>I (!w.found) t e
 let prev (j:LitM):Ad:=match j.walk with | none=>noAd | some w=>w.prev
 let cur (j:LitM):W:=match j.walk with | none=>wNil | some w=>w.cur
 let next (j:LitM):W:=match j.walk with | none=>wNil | some w=>w.next
 let step (j:LitM) (k:LitM->β):β:=match j.walk with
  | none=>I false (L (clNone,j)) (k j)
  | some w=>I (walkNext w x).1.2 (L ((walkNext w x).1.1,{j with walk:=some (walkNext w x).2})) (k {j with walk:=some (walkNext w x).2})
 let ins4 (j:LitM):β:=step j fun j=>found j (ask 5 (clDrop j.node) j) (ask 6 (clStore (fieldA j.node 2) (wRef (cur j))) j)
 let rem1 (j:LitM):β:=step j fun j=>miss j (done j 2 0) (ask 2 (clLoad (fieldA (cur j) 1)) j)
 I (j.op.kind==6)
   (I (j.pc==0) (ask 1 clAlloc j)
   (I (j.pc==1) (I (!x.ok) (done j 4 0) (ask 2 (clStore (fieldA x.w 0) (wNum j.key)) {j with node:=x.w}))
   (I (j.pc==2) (ask 3 (clStore (fieldA j.node 1) (wNum j.op.val)) j)
   (I (j.pc==7) (I x.ok (done j 1 0) (ins4 (seek j 4)))
   (I (j.pc==3) (ins4 (seek j 4))
   (I (j.pc==4) (ins4 j)
   (I (j.pc==5) (done j 3 0)
   (I (j.pc==6) (ask 7 (clSwap (prev j) (cur j) (wTo (cur j) j.node)) j)
   (L (j.last,j))))))))))
 (I (j.op.kind==7)
   (I (j.pc==3) (I x.ok (ask 4 (clSwap (prev j) (cur j) (wTo (cur j) (next j))) j) (rem1 (seek j 1)))
   (I (j.pc==0) (rem1 (seek j 1))
   (I (j.pc==1) (rem1 j)
   (I (j.pc==2) (ask 3 (clSwap (fieldA (cur j) 2) (next j) (wMarked (next j))) {j with val:=x.w.num})
   (I (j.pc==4) (I x.ok (ask 5 (clRetire (cur j)) j) (step (seek j 6) fun j=>done j 1 j.val))
   (I (j.pc==6) (step j fun j=>done j 1 j.val)
   (I (j.pc==5) (done j 1 j.val)
   (L (j.last,j)))))))))
   (I (j.pc==0) (rem1 (seek j 1))
   (I (j.pc==1) (rem1 j)
   (I (j.pc==2) (done j 1 x.w.num)
   (L (j.last,j))))))
def litNext (j:LitM) (x:Rp1):Cl×LitM:=litF cond id j x
theorem litR0 (σ:Sg) (pc:Int) (la:Cl) (st:Ad) (key:Int) (op:O) (nd:W) (v:Int) (x:Rp1):(runMe σ tabWk 165 noM (aRp.enc x) (litV ⟨pc,la,st,key,op,none,nd,v⟩) tLit (LitM.wr ⟨pc,la,st,key,op,none,nd,v⟩) []).map (decM vCl oLit)=litF tI tL ⟨pc,la,st,key,op,none,nd,v⟩ x:=by kernel_rfl
theorem litR1 (σ:Sg) (pc:Int) (la:Cl) (st:Ad) (key:Int) (op:O) (w:WalkM) (nd:W) (v:Int) (x:Rp1):(runMe σ tabWk 165 noM (aRp.enc x) (litV ⟨pc,la,st,key,op,some w,nd,v⟩) tLit (LitM.wr ⟨pc,la,st,key,op,some w,nd,v⟩) []).map (decM vCl oLit)=litF tI tL ⟨pc,la,st,key,op,some w,nd,v⟩ x:=by kernel_rfl
theorem litRz (σ:Sg) (x:Rp1):(runN σ tabWk 165 noM (.v (.c .pnil)::aRp.enc x) []).map (decF vCl)=.leaf (some clNone):=by kernel_rfl
theorem lit_ok:FnOk Tryz.prog (NV σ) 165 (sumG isS noM (methZ aRp vCl oLit (fun _ _=>none) litNext clNone)) :=
 methZ_ok tabWk_ok rfl (fun j x _=>by
  obtain⟨pc,la,st,key,op,w,nd,v⟩:=j
  cases w with
  | none=>exact⟨tLit,LitM.wr ⟨pc,la,st,key,op,none,nd,v⟩,rfl,aRp.enc x,rfl,fun _=>rfl,by
     rw [litR0];unfold litF litNext litF;dsimp only
     repeat' first | apply vI | exact vL⟩
  | some w=>exact⟨tLit,LitM.wr ⟨pc,la,st,key,op,some w,nd,v⟩,rfl,aRp.enc x,rfl,fun _=>rfl,by
     rw [litR1];unfold litF litNext litF;dsimp only
     repeat' first | apply vI | exact vL⟩) fun x=>congrArg T.val (litRz σ x)
end Go.Proofs.YtcpdipfepeccgaaGreatDoor

namespace Go.Proofs.YtcpdipfepeccgaaGreatDoor
open Go Go.Sx Go.Proofs
set_option maxRecDepth 100000
variable {σ:Sg}
def litAt:Nat->Gs->Gs
 | 0,.p (.it k v)::r=>.p (.il k v)::r
 | n+1,x::r=>x::litAt n r
 | _,gs=>gs
def andB (a b:Bool):Bool:=match a==true with | true=>b | false=>false
def orB (a b:Bool):Bool:=match a==false with | true=>b | false=>true
def wrapA (a b:Int):Int:=IntKind.wrap .i64 (a+b)
def S3.put (s:S3) (l:Int) (p:Ad) (c:W):S3:=if l=0 then {s with p0:=p,c0:=c} else if l=1 then {s with p1:=p,c1:=c} else {s with p2:=p,c2:=c}
def climbF {β:Type} (I:Bool->β->β->β) (L:(Cl×Bool)×ClimbM->β) (c:ClimbM) (x:Rp1):β :=
 let ask (n:Int) (a:Cl) (c:ClimbM):β:=L ((a,true),{c with pc:=n})
 let enter (c:ClimbM):β:=ask 2 (clProtect c.prev (3 * c.level+1)) c
 let again (c:ClimbM):β:=enter {c with level:=2,prev:=rootA 2}
 let behind (c:ClimbM):β:=ask 3 (clProtect (fieldA c.cur (2+c.level)) (3 * c.level)) c
 let lower (c:ClimbM):β :=
  if c.level=0 then
   I (andB (!(c.cur.slot==0)) (c.k==c.bound)) (L ((clNone,false),{c with spots:=S3.put c.spots c.level c.prev c.cur,pc:=-1,found:=wRef c.cur}))
     (L ((clNone,false),{c with spots:=S3.put c.spots c.level c.prev c.cur,pc:=-1}))
  else I (c.prev.s==0) (enter {c with spots:=S3.put c.spots c.level c.prev c.cur,level:=c.level - 1,prev:=rootA (c.level - 1)})
   (ask 9 (clHold (3 * (c.level - 1)+2) (3 * (c.level - 1)+5)) {c with spots:=S3.put c.spots c.level c.prev c.cur,level:=c.level - 1,prev:={c.prev with f:=2+(c.level - 1)}})
 let on (c:ClimbM):β:=I (c.cur.slot==0) (lower c) (ask 8 (clHold (3 * c.level+1) (3 * c.level)) c)
 I (c.pc==2) (I x.w.mark (again c) (I (x.w.slot==0) (lower {c with cur:=x.w}) (behind {c with cur:=x.w})))
 (I (c.pc==3) (ask 4 (clLoad (fieldA c.cur 0)) {c with next:=x.w})
 (I (c.pc==4) (ask 5 (clLoad c.prev) {c with k:=x.w.num})
 (I (c.pc==5) (I (!sameW x.w c.cur) (again c) (I c.next.mark (ask 6 (clSwap c.prev c.cur (wTo c.cur c.next)) c) (I (decide (c.k>=c.bound)) (lower c) (ask 7 (clHold (3 * c.level+2) (3 * c.level+1)) {c with prev:=fieldA c.cur (2+c.level)}))))
 (I (c.pc==6) (I x.ok (on {c with cur:=wTo c.cur c.next}) (again c))
 (I (c.pc==0) (again c)
 (I (c.pc==7) (on {c with cur:=c.next})
 (I (c.pc==8) (behind c)
 (I (c.pc==9) (enter c)
 (L ((clNone,false),c))))))))))
def climbNext (c:ClimbM) (x:Rp1):(Cl×Bool)×ClimbM:=climbF cond id c x
theorem climbR0 (σ:Sg) (pc:Int) (la:Cl) (pv:Ad) (cu:W) (bd:Int) (nx:W) (k:Int) (sp:S3) (fd:W) (x:Rp1):(runMe σ tab0 215 noM (aRp.enc x) (climbV ⟨pc,la,pv,cu,bd,0,nx,k,sp,fd⟩) tClimb (litAt 28 (ClimbM.wr ⟨pc,la,pv,cu,bd,0,nx,k,sp,fd⟩)) []).map (decM vClB oClimb)=climbF tI tL ⟨pc,la,pv,cu,bd,0,nx,k,sp,fd⟩ x:=by kernel_rfl
theorem climbR1 (σ:Sg) (pc:Int) (la:Cl) (pv:Ad) (cu:W) (bd:Int) (nx:W) (k:Int) (sp:S3) (fd:W) (x:Rp1):(runMe σ tab0 215 noM (aRp.enc x) (climbV ⟨pc,la,pv,cu,bd,1,nx,k,sp,fd⟩) tClimb (litAt 28 (ClimbM.wr ⟨pc,la,pv,cu,bd,1,nx,k,sp,fd⟩)) []).map (decM vClB oClimb)=climbF tI tL ⟨pc,la,pv,cu,bd,1,nx,k,sp,fd⟩ x:=by kernel_rfl
theorem climbR2 (σ:Sg) (pc:Int) (la:Cl) (pv:Ad) (cu:W) (bd:Int) (nx:W) (k:Int) (sp:S3) (fd:W) (x:Rp1):(runMe σ tab0 215 noM (aRp.enc x) (climbV ⟨pc,la,pv,cu,bd,2,nx,k,sp,fd⟩) tClimb (litAt 28 (ClimbM.wr ⟨pc,la,pv,cu,bd,2,nx,k,sp,fd⟩)) []).map (decM vClB oClimb)=climbF tI tL ⟨pc,la,pv,cu,bd,2,nx,k,sp,fd⟩ x:=by kernel_rfl
def okClimb (c:ClimbM):Bool:=decide (0<=c.level /\ c.level<=2)
theorem climbRz (σ:Sg) (x:Rp1):(runN σ tab0 215 noM (.v (.c .pnil)::aRp.enc x) []).map (decF vClB)=.leaf (some (clNone,false)):=by kernel_rfl
theorem climb_ok:FnOk Tryz.prog (NV σ) 215 (sumG isS noM (methZ aRp vClB oClimb (fun c _=>some (okClimb c)) climbNext (clNone,false))) :=
 methZ_ok tab0_ok rfl (fun j x h=>by
  obtain⟨pc,la,pv,cu,bd,lv,nx,k,sp,fd⟩:=j
  have h:0<=lv /\ lv<=2:=of_decide_eq_true h
  rcases (by omega:lv=0 \/ lv=1 \/ lv=2) with rfl | rfl | rfl
  ·exact⟨tClimb,litAt 28 (ClimbM.wr ⟨pc,la,pv,cu,bd,0,nx,k,sp,fd⟩),rfl,aRp.enc x,rfl,fun _=>rfl,by
    rw [climbR0];unfold climbF climbNext climbF;dsimp only;simp only [if_true]
    repeat' first | apply vI | exact vL⟩
  ·exact⟨tClimb,litAt 28 (ClimbM.wr ⟨pc,la,pv,cu,bd,1,nx,k,sp,fd⟩),rfl,aRp.enc x,rfl,fun _=>rfl,by
    rw [climbR1];unfold climbF climbNext climbF;dsimp only;simp only [show ¬(1:Int)=0 by decide,if_false]
    repeat' first | apply vI | exact vL⟩
  ·exact⟨tClimb,litAt 28 (ClimbM.wr ⟨pc,la,pv,cu,bd,2,nx,k,sp,fd⟩),rfl,aRp.enc x,rfl,fun _=>rfl,by
    rw [climbR2];unfold climbF climbNext climbF;dsimp only;simp only [show ¬(2:Int)=0 by decide,if_false]
    repeat' first | apply vI | exact vL⟩) fun x=>congrArg T.val (climbRz σ x)
def aI:ArgK Int where
 enc x:=[.v (.c (.it .i64 x))]
 dec:=fun | [.v (.c c)]=>iOf c | _=>none
 ok:=fun l a h ρ=>by
  split at h
  ·simp only [List.map_cons,List.map_nil,SV.den,V1.den,iOf_den h ρ];rfl
  ·cases h
 free:=fun _=>rfl
def newClimb (b:Int):ClimbM:=⟨0,clNone,noAd,wNil,b,0,wNil,0,⟨noAd,wNil,noAd,wNil,noAd,wNil⟩,wNil⟩
theorem newClimbR (σ:Sg) (b:Int):(runN σ tab0 216 noM (aI.enc b) []).map (decN oClimb)=tL (newClimb b):=by kernel_rfl
theorem newClimb_ok:FnOk Tryz.prog (NV σ) 216 (sumG isS noM (newS aI oClimb (fun _=>none) newClimb)) :=
 newS_ok tab0_ok rfl fun x _=>⟨aI.enc x,rfl,fun _=>rfl,by rw [newClimbR];rfl⟩
def vW:ValK W where
 enc w:=.v (.agg w.enc)
 dec:=fun | .v (.agg [.it .i64 a,.it .i64 b,.it .i64 c,.it .i64 d,.bt e])=>some ⟨a,b,c,d,e⟩ | _=>none
 ok:=fun v b h=>by split at h<;>cases h;rfl
def vAdW:ValK (Ad×W) where
 enc x:=.tup [.agg [.it .i64 x.1.s,.it .i64 x.1.g,.it .i64 x.1.f],.agg x.2.enc]
 dec:=fun | .tup [.agg [.it .i64 a,.it .i64 b,.it .i64 c],.agg [.it .i64 d,.it .i64 e,.it .i64 f,.it .i64 g,.bt h]]=>some (⟨a,b,c⟩,⟨d,e,f,g,h⟩) | _=>none
 ok:=fun v b h=>by split at h<;>cases h;rfl
theorem cfoundR (σ:Sg) (c:ClimbM):(runMe σ tab0 220 noM [] (climbV c) tClimb (ClimbM.wr c) []).map (decM vW oClimb)=tL (c.found,c):=by kernel_rfl
theorem cfoundRz (σ:Sg):(runN σ tab0 220 noM [.v (.c .pnil)] []).map (decF vW)=.leaf (some wNil):=by kernel_rfl
theorem cfound_ok:FnOk Tryz.prog (NV σ) 220 (sumG isS noM (methZ aNone vW oClimb (fun _ _=>none) (fun c _=>(c.found,c)) wNil)) :=
 methZ_ok tab0_ok rfl (fun j x _=>⟨tClimb,ClimbM.wr j,rfl,[],rfl,fun _=>rfl,by rw [cfoundR];rfl⟩) fun x=>congrArg T.val (cfoundRz σ)
def climbPlace (c:ClimbM) (l:Int):Ad×W:=if l=0 then(c.spots.p0,c.spots.c0) else if l=1 then(c.spots.p1,c.spots.c1) else if l=2 then(c.spots.p2,c.spots.c2) else(noAd,wNil)
def pick3 {α:Type} (l:Int) (f:Nat->T α):T α:=.ite (decide (l=0)) (f 0) (.ite (decide (l=1)) (f 1) (.need (decide (l=2)) (f 2)))
def S3.p (s:S3):Nat->Ad
 | 0=>s.p0
 | 1=>s.p1
 | _=>s.p2
def S3.c (s:S3):Nat->W
 | 0=>s.c0
 | 1=>s.c1
 | _=>s.c2
theorem cplaceR (σ:Sg) (c:ClimbM) (l:Int):(runMe σ tab0 217 noM [.v (.c (.it .i64 l))] (climbV c) tClimb (ClimbM.wr c) []).map (decM vAdW oClimb) =
 tI (match decide (l < 0)==false with | true=>decide (l>=3) | false=>true) (tL ((noAd,wNil),c)) (pick3 l fun i=>pick3 l fun k=>tL ((S3.p c.spots i,S3.c c.spots k),c)):=by kernel_rfl
theorem cplaceRz (σ:Sg) (l:Int):(runN σ tab0 217 noM (.v (.c .pnil)::aI.enc l) []).map (decF vAdW)=.leaf (some (noAd,wNil)):=by kernel_rfl
theorem cplace_ok:FnOk Tryz.prog (NV σ) 217 (sumG isS noM (methZ aI vAdW oClimb (fun _ _=>none) (fun c l=>(climbPlace c l,c)) (noAd,wNil))) :=
 methZ_ok tab0_ok rfl (fun j l _=>by
  refine⟨tClimb,ClimbM.wr j,rfl,aI.enc l,rfl,fun _=>rfl,?_⟩
  show ((runMe σ tab0 _ noM [.v (.c (.it .i64 l))] (climbV j) tClimb (ClimbM.wr j) []).map _).val=_
  rw [cplaceR]
  unfold climbPlace pick3
  by_cases h0:l=0
  ·subst h0;rfl
  by_cases h1:l=1
  ·subst h1;rfl
  by_cases h2:l=2
  ·subst h2;rfl
  rw [if_neg h0,if_neg h1,if_neg h2]
  by_cases hl:l < 0
  ·rw [decide_eq_true hl];rfl
  ·rw [decide_eq_false hl,decide_eq_true (show l>=3 by omega)];rfl) fun x=>congrArg T.val (cplaceRz σ x)
noncomputable def tabCb:Tab:=tabAdd 215 (sumG isS noM (methZ aRp vClB oClimb (fun c _=>some (okClimb c)) climbNext (clNone,false))) (tabAdd 216 (sumG isS noM (newS aI oClimb (fun _=>none) newClimb))
 (tabAdd 220 (sumG isS noM (methZ aNone vW oClimb (fun _ _=>none) (fun c _=>(c.found,c)) wNil)) (tabAdd 217 (sumG isS noM (methZ aI vAdW oClimb (fun _ _=>none) (fun c l=>(climbPlace c l,c)) (noAd,wNil))) tab0)))
theorem tabCb_ok:TabOk Tryz.prog (NV σ) tabCb:=tabAdd_ok climb_ok (tabAdd_ok newClimb_ok (tabAdd_ok cfound_ok (tabAdd_ok cplace_ok tab0_ok)))
def refEq (a b:W):Bool:=a.slot==b.slot&&a.gen==b.gen
def isRef (a b:W):Bool:=a.slot==b.slot&&(a.gen==b.gen&&(a.tag==0&&(a.num==0&&a.mark==false)))
def stCells (j:SteM):List Cell:=cellsG AV.len (8+1) (litAt 19 (SteM.wr j))
theorem same_self (l:List Cell) (t:TypeId):sameCells l t l t=true:=@decide_eq_true _ (Classical.propDecidable _) ⟨rfl,rfl⟩
noncomputable def steF {β:Type} (I:Bool->β->β->β) (N:Bool->β->β) (L:Cl×SteM->β) (j:SteM) (x:Rp1):β :=
 let ask (n:Int) (c:Cl) (j:SteM):β:=L (c,{j with pc:=n})
 let done (j:SteM) (c v:Int):β:=L (clDone c v,{j with pc:=-1,last:=clDone c v})
 let same (j:SteM) (t:β):β:=N (sameCells (stCells j) tSte (stCells j) tSte) t
 let seek (j:SteM) (n b:Int):SteM:={j with climb:=some (newClimb b),pc:=n}
 let field (j:SteM) (n:Int):Ad:=fieldA j.node n
 let place (j:SteM) (l:Int):Ad×W:=match j.climb with | none=>(noAd,wNil) | some c=>climbPlace c l
 let found (j:SteM):W:=match j.climb with | none=>wNil | some c=>c.found
 let nil (j:SteM) (t e:β):β:=I ((found j).slot==0) t e
 let step (j:SteM) (k:SteM->β):β:=match j.climb with
  | none=>I false (L (clNone,j)) (k j)
  | some c=>N (okClimb c) (I (climbNext c x).1.2 (L ((climbNext c x).1.1,{j with climb:=some (climbNext c x).2})) (k {j with climb:=some (climbNext c x).2}))
 let part (j:SteM) (n:Int):β:=ask 101 (clLoad (field j 7)) {j with inc:=n}
 let link (j:SteM):β:=I (decide (j.level>=j.op.tall)) (part j 1) (ask 9 (clLoad (field j (wrapA 2 j.level))) j)
 let look (j:SteM):β:=ask 4 (clLoad (field j (wrapA 2 j.level))) j
 let ins7 (j:SteM):β:=I (decide (wrap1 j.level < j.op.tall)) (ask 7 (clStore (field j (wrapA 2 (wrap1 j.level))) (wRef (place j (wrap1 j.level)).2)) {j with level:=wrap1 j.level})
  (ask 8 (clSwap (place j 0).1 (place j 0).2 (wTo (place j 0).2 j.node)) {j with level:=wrap1 j.level})
 let ins5 (j:SteM):β:=step j fun j=>I (!((found j).slot==0)) (ask 6 (clDrop j.node) j) (ins7 {j with level:=-1})
 let r12 (j:SteM):β:=step j fun j=>I (!isRef (found j) j.node) (part j 1) (link j)
 let rem1 (j:SteM):β:=step j fun j=>nil j (done {j with node:=found j} 2 0) (ask 2 (clLoad (fieldA (found j) 6)) {j with node:=found j})
 let rem6 (j:SteM):β:=step j fun j=>part j 2
 let get1 (j:SteM):β:=step j fun j=>nil j (done {j with node:=found j} 2 0) (ask 2 (clLoad (fieldA (found j) 1)) {j with node:=found j})
 let tail (j:SteM):β:=step j fun j=>ask 104 (clRetire j.node) j
 I (j.pc==-1) (L (j.last,j))
 (I (decide (j.pc>=101))
   (I (j.pc==101) (I (x.w.num==0) (same j (ask 102 (clSwap (field j 7) x.w (wCount x.w j.inc)) j)) (tail (seek j 103 (wrap1 j.op.key))))
   (I (j.pc==102) (I x.ok (done j 1 j.val) (tail (seek j 103 (wrap1 j.op.key))))
   (I (j.pc==104) (done j 1 j.val) (tail j))))
 (if j.op.kind=6 then
   I (decide (j.pc>=9))
     (I (j.pc==9) (I x.w.mark (part j 1) (I (!refEq x.w (place j j.level).2) (ask 10 (clSwap (field j (wrapA 2 j.level)) x.w (wTo x.w (place j j.level).2)) j) (ask 11 (clSwap (place j j.level).1 (place j j.level).2 (wTo (place j j.level).2 j.node)) j)))
     (I (j.pc==10) (I (!x.ok) (link j) (ask 11 (clSwap (place j j.level).1 (place j j.level).2 (wTo (place j j.level).2 j.node)) j))
     (I (j.pc==11) (I x.ok (link {j with level:=wrap1 j.level}) (r12 (seek j 12 j.op.key)))
     (I (j.pc==12) (r12 j)
     (L (j.last,j))))))
     (I (j.pc==0) (ask 1 clAlloc j)
     (I (j.pc==1) (I (!x.ok) (done j 4 0) (same {j with node:=x.w} (ask 2 (clStore (fieldA x.w 0) (wNum j.op.key)) {j with node:=x.w})))
     (I (j.pc==2) (same j (ask 3 (clStore (field j 1) (wNum j.op.val)) j))
     (I (j.pc==3) (same j (ask 4 (clStore (field j 6) (wNum j.op.tall)) j))
     (I (j.pc==6) (done j 3 0)
     (I (j.pc==8) (I x.ok (link {j with level:=1}) (ins5 (seek j 5 j.op.key)))
     (I (j.pc==4) (ins5 (seek j 5 j.op.key))
     (I (j.pc==5) (ins5 j)
     (I (j.pc==7) (ins7 j)
     (L (j.last,j)))))))))))
 else if j.op.kind=7 then
  I (j.pc==0) (rem1 (seek j 1 j.op.key))
  (I (j.pc==1) (rem1 j)
  (I (j.pc==2) (I (orB (decide (x.w.num < 1)) (decide (x.w.num > 3))) (ask 3 (clLoad (field j 1)) {j with level:=0}) (ask 3 (clLoad (field j 1)) {j with level:=IntKind.wrap .i64 (x.w.num - 1)}))
  (I (j.pc==3) (look {j with val:=x.w.num})
  (I (j.pc==4) (I (!x.w.mark) (ask 5 (clSwap (field j (wrapA 2 j.level)) x.w (wMarked x.w)) j) (I (j.level==0) (done j 2 0) (look {j with level:=IntKind.wrap .i64 (j.level - 1)})))
  (I (j.pc==5) (I (!x.ok) (look j) (I (decide (j.level > 0)) (look {j with level:=IntKind.wrap .i64 (j.level - 1)}) (rem6 (seek j 6 (wrap1 j.op.key)))))
  (I (j.pc==6) (rem6 j)
  (L (j.last,j))))))))
 else
  I (j.pc==0) (get1 (seek j 1 j.op.key))
  (I (j.pc==1) (get1 j)
  (I (j.pc==2) (done j 1 x.w.num)
  (L (j.last,j))))))
def tN {α:Type} (b:Bool) (t:T α):T α:=.need b t
theorem steR6n (σ:Sg) (pc:Int) (la:Cl) (key val tall:Int) (nd:W) (lv inc v:Int) (x:Rp1):(runMe σ tabCb 204 noM (aRp.enc x) (steV ⟨pc,la,⟨6,key,val,tall⟩,none,nd,lv,inc,v⟩) tSte (litAt 19 (SteM.wr ⟨pc,la,⟨6,key,val,tall⟩,none,nd,lv,inc,v⟩)) []).map (decM vCl oSte)=steF tI tN tL ⟨pc,la,⟨6,key,val,tall⟩,none,nd,lv,inc,v⟩ x:=by kernel_rfl
theorem steR6s (σ:Sg) (pc:Int) (la:Cl) (key val tall:Int) (w:ClimbM) (nd:W) (lv inc v:Int) (x:Rp1):(runMe σ tabCb 204 noM (aRp.enc x) (steV ⟨pc,la,⟨6,key,val,tall⟩,some w,nd,lv,inc,v⟩) tSte (litAt 19 (SteM.wr ⟨pc,la,⟨6,key,val,tall⟩,some w,nd,lv,inc,v⟩)) []).map (decM vCl oSte)=steF tI tN tL ⟨pc,la,⟨6,key,val,tall⟩,some w,nd,lv,inc,v⟩ x:=by kernel_rfl
theorem steR7n (σ:Sg) (pc:Int) (la:Cl) (key val tall:Int) (nd:W) (lv inc v:Int) (x:Rp1):(runMe σ tabCb 204 noM (aRp.enc x) (steV ⟨pc,la,⟨7,key,val,tall⟩,none,nd,lv,inc,v⟩) tSte (litAt 19 (SteM.wr ⟨pc,la,⟨7,key,val,tall⟩,none,nd,lv,inc,v⟩)) []).map (decM vCl oSte)=steF tI tN tL ⟨pc,la,⟨7,key,val,tall⟩,none,nd,lv,inc,v⟩ x:=by kernel_rfl
theorem steR7s (σ:Sg) (pc:Int) (la:Cl) (key val tall:Int) (w:ClimbM) (nd:W) (lv inc v:Int) (x:Rp1):(runMe σ tabCb 204 noM (aRp.enc x) (steV ⟨pc,la,⟨7,key,val,tall⟩,some w,nd,lv,inc,v⟩) tSte (litAt 19 (SteM.wr ⟨pc,la,⟨7,key,val,tall⟩,some w,nd,lv,inc,v⟩)) []).map (decM vCl oSte)=steF tI tN tL ⟨pc,la,⟨7,key,val,tall⟩,some w,nd,lv,inc,v⟩ x:=by kernel_rfl
theorem steR8n (σ:Sg) (pc:Int) (la:Cl) (key val tall:Int) (nd:W) (lv inc v:Int) (x:Rp1):(runMe σ tabCb 204 noM (aRp.enc x) (steV ⟨pc,la,⟨8,key,val,tall⟩,none,nd,lv,inc,v⟩) tSte (litAt 19 (SteM.wr ⟨pc,la,⟨8,key,val,tall⟩,none,nd,lv,inc,v⟩)) []).map (decM vCl oSte)=steF tI tN tL ⟨pc,la,⟨8,key,val,tall⟩,none,nd,lv,inc,v⟩ x:=by kernel_rfl
theorem steR8s (σ:Sg) (pc:Int) (la:Cl) (key val tall:Int) (w:ClimbM) (nd:W) (lv inc v:Int) (x:Rp1):(runMe σ tabCb 204 noM (aRp.enc x) (steV ⟨pc,la,⟨8,key,val,tall⟩,some w,nd,lv,inc,v⟩) tSte (litAt 19 (SteM.wr ⟨pc,la,⟨8,key,val,tall⟩,some w,nd,lv,inc,v⟩)) []).map (decM vCl oSte)=steF tI tN tL ⟨pc,la,⟨8,key,val,tall⟩,some w,nd,lv,inc,v⟩ x:=by kernel_rfl
theorem vN {α:Type} {b:Bool} {t:T (Option α)} {x:α} (h:b=true) (h1:t.val=some (some x)):(tN b t).val=some (some x):=by subst h;exact h1
noncomputable def steNext (j:SteM) (x:Rp1):Cl×SteM:=steF cond (fun _ t=>t) id j x
def okSte (j:SteM):Bool:=match j.climb with
 | none=>decide (j.op.kind=6 \/ j.op.kind=7 \/ j.op.kind=8)
 | some c=>match okClimb c with | true=>decide (j.op.kind=6 \/ j.op.kind=7 \/ j.op.kind=8) | false=>false
theorem ste_ok:FnOk Tryz.prog (NV σ) 204 (sumG isS noM (methS aRp vCl oSte (fun j _=>some (okSte j)) steNext)) :=
 methS_ok tabCb_ok rfl fun j x h=>by
  obtain⟨pc,la,⟨kd,key,val,tall⟩,w,nd,lv,inc,v⟩:=j
  cases w with
  | none =>
    have h:kd=6 \/ kd=7 \/ kd=8:=of_decide_eq_true h
    rcases h with rfl | rfl | rfl
    ·exact⟨tSte,litAt 19 (SteM.wr ⟨pc,la,⟨6,key,val,tall⟩,none,nd,lv,inc,v⟩),rfl,aRp.enc x,rfl,fun _=>rfl,by
      rw [steR6n];unfold steF steNext steF;dsimp only;simp only [if_true]
      repeat' first | apply vI | exact vL | (refine vN (same_self _ _) ?_) | (refine vN rfl ?_)⟩
    ·exact⟨tSte,litAt 19 (SteM.wr ⟨pc,la,⟨7,key,val,tall⟩,none,nd,lv,inc,v⟩),rfl,aRp.enc x,rfl,fun _=>rfl,by
      rw [steR7n];unfold steF steNext steF;dsimp only;simp only [show ¬(7:Int)=6 by decide,if_false,if_true]
      repeat' first | apply vI | exact vL | (refine vN (same_self _ _) ?_) | (refine vN rfl ?_)⟩
    ·exact⟨tSte,litAt 19 (SteM.wr ⟨pc,la,⟨8,key,val,tall⟩,none,nd,lv,inc,v⟩),rfl,aRp.enc x,rfl,fun _=>rfl,by
      rw [steR8n];unfold steF steNext steF;dsimp only;simp only [show ¬(8:Int)=6 by decide,if_false,show ¬(8:Int)=7 by decide]
      repeat' first | apply vI | exact vL | (refine vN (same_self _ _) ?_) | (refine vN rfl ?_)⟩
  | some w =>
    have h:(match okClimb w with | true=>decide (kd=6 \/ kd=7 \/ kd=8) | false=>false)=true:=h
    cases hw:okClimb w with
    | false=>rw [hw] at h;cases h
    | true =>
    rw [hw] at h
    have h:kd=6 \/ kd=7 \/ kd=8:=of_decide_eq_true h
    rcases h with rfl | rfl | rfl
    ·exact⟨tSte,litAt 19 (SteM.wr ⟨pc,la,⟨6,key,val,tall⟩,some w,nd,lv,inc,v⟩),rfl,aRp.enc x,rfl,fun _=>rfl,by
      rw [steR6s];unfold steF steNext steF;dsimp only;simp only [if_true]
      repeat' first | apply vI | exact vL | (refine vN (same_self _ _) ?_) | (refine vN hw ?_) | (refine vN rfl ?_)⟩
    ·exact⟨tSte,litAt 19 (SteM.wr ⟨pc,la,⟨7,key,val,tall⟩,some w,nd,lv,inc,v⟩),rfl,aRp.enc x,rfl,fun _=>rfl,by
      rw [steR7s];unfold steF steNext steF;dsimp only;simp only [show ¬(7:Int)=6 by decide,if_false,if_true]
      repeat' first | apply vI | exact vL | (refine vN (same_self _ _) ?_) | (refine vN hw ?_) | (refine vN rfl ?_)⟩
    ·exact⟨tSte,litAt 19 (SteM.wr ⟨pc,la,⟨8,key,val,tall⟩,some w,nd,lv,inc,v⟩),rfl,aRp.enc x,rfl,fun _=>rfl,by
      rw [steR8s];unfold steF steNext steF;dsimp only;simp only [show ¬(8:Int)=6 by decide,if_false,show ¬(8:Int)=7 by decide]
      repeat' first | apply vI | exact vL | (refine vN (same_self _ _) ?_) | (refine vN hw ?_) | (refine vN rfl ?_)⟩
end Go.Proofs.YtcpdipfepeccgaaGreatDoor

namespace Go.Proofs.YtcpdipfepeccgaaGreatDoor
open Go Go.Sx Go.Proofs
set_option maxRecDepth 100000
variable {σ:Sg}
def aII:ArgK (Int×Int) where
 enc x:=[.v (.c (.it .i64 x.1)),.v (.c (.it .i64 x.2))]
 dec:=fun | [.v (.c c),.v (.c d)]=>(match iOf c,iOf d with | some a,some b=>some (a,b) | _,_=>none) | _=>none
 ok:=fun l a h ρ=>by
  split at h
  ·split at h
   ·rename_i h0 h1
    cases h
    simp only [List.map_cons,List.map_nil,SV.den,V1.den,iOf_den h0 ρ,iOf_den h1 ρ];rfl
   ·cases h
  ·cases h
 free:=fun _=>rfl
def vAdE:ValK Ad where
 enc x:=.tup [.agg [.it .i64 x.s,.it .i64 x.g,.it .i64 x.f],.c .inil]
 dec:=fun | .tup [.agg [.it .i64 a,.it .i64 b,.it .i64 c],.c .inil]=>some ⟨a,b,c⟩ | _=>none
 ok:=fun v b h=>by split at h<;>cases h;rfl
def keepA (x:Int×Int):Ad:=⟨0,0,25+x.1 * 9+x.2⟩
def spanA (t:Int):Ad:=⟨0,0,79+t⟩
def okKeep (x:Int×Int):Bool:=decide (0<=x.1 /\ x.1 < 6 /\ 0<=x.2 /\ x.2 < 9)
def okSpan (t:Int):Bool:=decide (0<=t /\ t < 6)
theorem keepR (σ:Sg) (x:Int×Int):(runN σ tab0 114 noM (aII.enc x) []).map (decF vAdE)=.ite (orB (!(andB (decide (0<=x.1)) (decide (x.1 < 6)))) (orB (decide (x.2 < 0)) (decide (x.2>=9)))) (.fail "load")
 (.leaf (some ⟨0,0,IntKind.wrap .i64 (IntKind.wrap .i64 (25+IntKind.wrap .i64 (x.1 * 9))+x.2)⟩)):=by kernel_rfl
theorem spanR (σ:Sg) (t:Int):(runN σ tab0 91 noM (aI.enc t) []).map (decF vAdE)=.ite (!(andB (decide (0<=t)) (decide (t < 6)))) (.fail "load") (.leaf (some ⟨0,0,IntKind.wrap .i64 (79+t)⟩)):=by kernel_rfl
theorem wrapQ {m:Int} (h:-9223372036854775808<=m /\ m<=9223372036854775807):IntKind.wrap .i64 m=m:=by
 unfold IntKind.wrap
 simp only [IntKind.bits,IntKind.signed]
 first | omega | (simp;omega)
theorem andB_t {a b:Bool} (ha:a=true) (hb:b=true):andB a b=true:=by subst ha hb;rfl
theorem orB_f {a b:Bool} (ha:a=false) (hb:b=false):orB a b=false:=by subst ha hb;rfl
theorem keep_ok:FnOk Tryz.prog (NV σ) 114 (sumG isS noM (funS aII vAdE (fun x=>some (okKeep x)) keepA)) :=
 funS_ok tab0_ok rfl fun x h=>⟨aII.enc x,rfl,fun _=>rfl,by
  obtain⟨t,n⟩:=x
  have h:0<=t /\ t < 6 /\ 0<=n /\ n < 9:=of_decide_eq_true h
  obtain⟨h1,h2,h3,h4⟩:=h
  rw [keepR,orB_f (by rw [andB_t (decide_eq_true h1) (decide_eq_true h2)];rfl) (orB_f (decide_eq_false (by omega)) (decide_eq_false (by omega)))]
  show some (some (⟨0,0,_⟩:Ad))=_
  have e1:IntKind.wrap .i64 (t * 9)=t * 9:=wrapQ (by omega)
  have e2:IntKind.wrap .i64 (25+t * 9)=25+t * 9:=wrapQ (by omega)
  have e3:IntKind.wrap .i64 (25+t * 9+n)=25+t * 9+n:=wrapQ (by omega)
  dsimp only
  rw [e1,e2,e3]
  rfl⟩
theorem span_ok:FnOk Tryz.prog (NV σ) 91 (sumG isS noM (funS aI vAdE (fun x=>some (okSpan x)) spanA)) :=
 funS_ok tab0_ok rfl fun t h=>⟨aI.enc t,rfl,fun _=>rfl,by
  have h:0<=t /\ t < 6:=of_decide_eq_true h
  obtain⟨h1,h2⟩:=h
  rw [spanR,andB_t (decide_eq_true h1) (decide_eq_true h2)]
  show some (some (⟨0,0,_⟩:Ad))=_
  have e1:IntKind.wrap .i64 (79+t)=79+t:=wrapQ (by omega)
  rw [e1]
  rfl⟩
end Go.Proofs.YtcpdipfepeccgaaGreatDoor

namespace Go.Proofs.YtcpdipfepeccgaaGreatDoor
open Go Go.Sx Go.Proofs
set_option maxRecDepth 100000
variable {σ:Sg}
def H9.get (s:H9) (n:Int):W:=if n=0 then s.h0 else if n=1 then s.h1 else if n=2 then s.h2 else if n=3 then s.h3 else if n=4 then s.h4 else if n=5 then s.h5 else if n=6 then s.h6 else if n=7 then s.h7 else s.h8
def H9.put (s:H9) (n:Int) (w:W):H9:=if n=0 then {s with h0:=w} else if n=1 then {s with h1:=w} else if n=2 then {s with h2:=w} else if n=3 then {s with h3:=w} else if n=4 then {s with h4:=w}
 else if n=5 then {s with h5:=w} else if n=6 then {s with h6:=w} else if n=7 then {s with h7:=w} else {s with h8:=w}
structure RT where
 m:RiteM
 ls:Nat
 ld:Nat
 ln:Nat
def vNil:ValK Unit where
 enc _:=.v (.c .inil)
 dec:=fun | .v (.c .inil)=>some () | _=>none
 ok:=fun v b h=>by split at h<;>cases h;rfl
def lensB (r:RT):Bool:=match decide (r.ls=r.m.seen.length) with
 | true=>(match decide (r.ld=r.m.doomed.length) with
   | true=>(match decide (r.ln=r.m.notes.length) with | true=>true | false=>false)
   | false=>false)
 | false=>false
def tR (r:RT):T (Option (Unit×RiteM)):=.need (lensB r) (.leaf (some ((),r.m)))
def noAcc:Acc:=⟨0,0,0,0,wNil,wNil⟩
def isZero (w:W):Bool:=w.slot==0&&(w.gen==0&&(w.tag==0&&(w.num==0&&w.mark==false)))
def eqW (a b:W):Bool:=a.slot==b.slot&&(a.gen==b.gen&&(a.tag==b.tag&&(a.num==b.num&&a.mark==b.mark)))
def spZero (s:Sp):Bool:=s.is==false&&(s.low==0&&s.high==0)
def rAsk (s:Int) (a:Acc) (r:RT):RT:={r with m:={r.m with step:=s,acc:=a}}
def rLoad (s:Int) (a:Ad) (r:RT):RT:=rAsk s ⟨1,a.s,a.g,a.f,wNil,wNil⟩ r
def rFinish (x:Rp1) (r:RT):RT:={r with m:={r.m with call:=clNone,step:=0,acc:=noAcc,word:=wNil,clock:=wNil,index:=0,seen:=[],doomed:=[],reply:=x},ls:=0,ld:=0}
def eraA:Ad:=rootA 24
section
variable {β:Type} (I:Bool->β->β->β) (N:Bool->β->β) (L:RT->β)
def rDone (r:RT):β:=L (rFinish ⟨wNil,true⟩ r)
def rPost (s n:Int) (w:W) (r:RT):β:=N (okKeep (r.m.me,n)) (L (rAsk s ⟨2,0,0,25+r.m.me * 9+n,wNil,w⟩ {r with m:={r.m with holds:=H9.put r.m.holds n w}}))
def rAnnounce (s:Int) (sp:Sp) (w:W) (r:RT):β:=N (okSpan r.m.me) (L (rAsk s ⟨2,0,0,79+r.m.me,wNil,w⟩ {r with m:={r.m with span:=sp}}))
def rLeaveK (r:RT):Nat->Int->β
 | 0,_=>rDone L r
 | k+1,n=>I (!isZero (H9.get r.m.holds n)) (rPost N L 4 n wNil {r with m:={r.m with index:=n}}) (rLeaveK r k (n+1))
def rLeave (n:Nat) (r:RT):β :=
 if r.m.engine=4 \/ r.m.engine=5 then I (!spZero r.m.span) (rAnnounce N L 2 ⟨false,0,0⟩ wNil r) (rDone L r)
 else if r.m.engine=2 \/ r.m.engine=3 then rLeaveK I N L r (9 - n) n else rDone L r
def rProtect (x:Rp1) (r:RT):β :=
 if r.m.step=7 then L (rLoad 5 r.m.call.adr r)
 else if r.m.step=5 then
  (if r.m.engine=3 \/ r.m.engine=5 then L (rLoad 6 eraA {r with m:={r.m with word:=x.w}})
  else if r.m.engine=2 then
   I (andB (!(x.w.slot==0)) (!eqW (H9.get r.m.holds r.m.call.i) (wRef x.w))) (rPost N L 7 r.m.call.i (wRef x.w) {r with m:={r.m with word:=x.w}}) (L (rFinish ⟨x.w,true⟩ r))
  else L (rFinish ⟨x.w,true⟩ r))
 else if r.m.engine=3 then
  I (andB (!isZero (H9.get r.m.holds r.m.call.i)) ((H9.get r.m.holds r.m.call.i).num==x.w.num)) (L (rFinish ⟨r.m.word,true⟩ r)) (rPost N L 7 r.m.call.i (wNum x.w.num) r)
 else
  I (andB r.m.span.is (r.m.span.high==x.w.num)) (L (rFinish ⟨r.m.word,true⟩ r))
    (I r.m.span.is (rAnnounce N L 7 ⟨true,r.m.span.low,x.w.num⟩ ⟨0,0,x.w.num,r.m.span.low,true⟩ r) (rAnnounce N L 7 ⟨true,x.w.num,x.w.num⟩ ⟨0,0,x.w.num,x.w.num,true⟩ r))
def rTook (x:Rp1) (r:RT):β :=
 if r.m.step=1 then L (rFinish x r)
 else if r.m.step=2 then rDone L r
 else if r.m.step=3 then rAnnounce N L 2 ⟨true,x.w.num,x.w.num⟩ ⟨0,0,x.w.num,x.w.num,true⟩ r
 else if r.m.step=4 then rLeave I N L (r.m.index+1).toNat r
 else if r.m.step=8 then L (rAsk 1 ⟨4,0,0,0,wNil,wNum x.w.num⟩ r)
 else rProtect I N L x r
end
noncomputable def tabRi:Tab:=tabAdd 114 (sumG isS noM (funS aII vAdE (fun x=>some (okKeep x)) keepA)) (tabAdd 91 (sumG isS noM (funS aI vAdE (fun x=>some (okSpan x)) spanA)) tab0)
theorem tabRi_ok:TabOk Tryz.prog (NV σ) tabRi:=tabAdd_ok keep_ok (tabAdd_ok span_ok tab0_ok)
noncomputable def runTk (σ:Sg) (ks:List Nat) (m:RiteM) (x:Rp1):T (Option (Unit×RiteM)):=(runMe σ tabRi 39 noM (aRp.enc x) (riteV m) tRite (ks.foldl (fun g k=>litAt k g) (RiteM.wr m)) []).map (decM vNil oRite)
end Go.Proofs.YtcpdipfepeccgaaGreatDoor

namespace Go.Proofs.YtcpdipfepeccgaaGreatDoor
open Go Go.Sx Go.Proofs
set_option maxRecDepth 100000
variable {σ:Sg}
section
variable {β:Type} (I:Bool->β->β->β) (N:Bool->β->β) (L:RT->β)
def rOpen (c:Cl) (r:RT):β :=
 if c.kind=1 then(if r.m.engine=4 \/ r.m.engine=5 then L (rLoad 3 eraA r) else rDone L r)
 else if c.kind=2 then rLeave I N L 0 r
 else if c.kind=3 then L (rLoad 1 c.adr r)
 else if c.kind=4 then L (rAsk 1 ⟨2,c.adr.s,c.adr.g,c.adr.f,c.old,c.new⟩ r)
 else if c.kind=5 then L (rAsk 1 ⟨3,c.adr.s,c.adr.g,c.adr.f,c.old,c.new⟩ r)
 else if c.kind=6 then L (rLoad 5 c.adr r)
 else if c.kind=7 then(if r.m.engine=2 \/ r.m.engine=3 then I (!eqW (H9.get r.m.holds c.i) (H9.get r.m.holds c.j)) (rPost N L 2 c.i (H9.get r.m.holds c.j) r) (rDone L r) else rDone L r)
 else if c.kind=8 then(if r.m.engine=3 \/ r.m.engine=5 then L (rLoad 8 eraA r) else L (rAsk 1 ⟨4,0,0,0,wNil,wNil⟩ r))
 else if c.kind=9 then L (rAsk 2 ⟨5,0,0,0,c.old,wNil⟩ r)
 else if c.kind=10 then(if r.m.engine=4 then L (rLoad 10 eraA r) else if r.m.engine=3 \/ r.m.engine=5 then L (rLoad 9 ⟨c.old.slot,c.old.gen,9⟩ r) else rDone L r)
 else(if r.m.engine=4 then L (rLoad 12 eraA r) else rDone L r)
end
def aCl:ArgK Cl where
 enc c:=[.v (.agg (gsC (Cl.wr c)))]
 dec:=fun | [.v (.agg cs)]=>(match Cl.rd ((nrmL cs).map .p) with | some (c,[])=>some c | _=>none) | _=>none
 ok:=fun l a h ρ=>by
  split at h
  ·split at h
   ·rename_i hc
    cases h
    have:=Cl.rd_s hc
    rw [List.append_nil] at this
    rw [<- this,gsC_map]
    simp only [List.map_cons,List.map_nil,SV.den,V1.den,nrmL_den]
   ·cases h
  ·cases h
 free:=fun _=>rfl
end Go.Proofs.YtcpdipfepeccgaaGreatDoor

namespace Go.Proofs.YtcpdipfepeccgaaGreatDoor
open Go Go.Sx Go.Proofs
set_option maxRecDepth 100000
variable {σ:Sg}
section
variable {β:Type} (I:Bool->β->β->β) (N:Bool->β->β) (L:RT->β)
def rLook (n:Int) (r:RT) (k:β):β :=
 if r.m.engine=2 \/ r.m.engine=3 then I (decide (n>=IntKind.wrap .i64 (r.m.threads * 9))) k (N true (N true (N (okKeep (IntKind.wrap .i64 (Int.tdiv n 9),Int.tmod n 9)) (L (rAsk 13 ⟨1,0,0,(keepA (IntKind.wrap .i64 (Int.tdiv n 9),Int.tmod n 9)).f,wNil,wNil⟩ {r with m:={r.m with index:=n}})))))
 else I (decide (n>=r.m.threads)) k (N (okSpan n) (L (rAsk 13 ⟨1,0,0,79+n,wNil,wNil⟩ {r with m:={r.m with index:=n}})))
def rScan (r:RT):β :=
 if r.m.engine=1 then rDone L r else if r.m.engine=4 then L (rLoad 12 eraA r) else rLook I N L 0 r (L r)
def sizeN (σ:Sg) (r:RT):Bool:=decide (r.ln=Intf.len (F6 σ) (AV.notes r.m.notes) /\ (r.ln+1) * (SI.bytes si179+1)<=lim)
def rAdd (birth death:Int) (r:RT):RT:={r with m:={r.m with notes:=r.m.notes++[⟨r.m.call.old.slot,r.m.call.old.gen,0,0,false,birth,death⟩]},ln:=r.ln+1}
def rNoted (r:RT):β:=I (decide ((r.ln:Int)>=r.m.most)) (rScan I N L r) (rDone L r)
def rTookR (σ:Sg) (x:Rp1) (r:RT):β :=
 if r.m.step=9 then L (rLoad 10 eraA {r with m:={r.m with word:=x.w}})
 else if r.m.step=10 then N (sizeN σ r) (
  if r.m.engine=3 \/ r.m.engine=5 then L (rAsk 11 ⟨3,0,0,24,x.w,wCount x.w 1⟩ (rAdd r.m.word.num x.w.num {r with m:={r.m with clock:=x.w}}))
  else rNoted I N L (rAdd r.m.word.num x.w.num {r with m:={r.m with clock:=x.w}}))
 else if r.m.step=11 then rNoted I N L r
 else if r.m.step=12 then rLook I N L 0 {r with m:={r.m with clock:=x.w}} (L {r with m:={r.m with clock:=x.w}})
 else L (rLoad 15 eraA r)
end
def rClear (c:Cl) (r:RT):RT:={r with m:={r.m with call:=c,step:=0,acc:=noAcc,word:=wNil,clock:=wNil,index:=0,seen:=[],doomed:=[]},ls:=0,ld:=0}
def RunBs (σ:Sg) (m:RiteM) (c:Cl) (t:T (Option (Unit×RiteM))):Prop:=∃gs args,layV σ (riteV m)=some (layG AV.len tRite (nrmG gs)) /\ svsFree args=true /\ (∀ρ:Nm,args.map (SV.den ρ)=(aCl.enc c).map (SV.den ρ)) /\
 (runMe σ tabRi 57 noM args (riteV m) tRite gs []).map (decM vNil oRite)=t
theorem bgK {m:RiteM} {c:Cl} {t:T (Option (Unit×RiteM))} (ks kc:List Nat) (h1:layV σ (riteV m)=some (layG AV.len tRite (nrmG (ks.foldl (fun g k=>litAt k g) (RiteM.wr m))))) (h3:∀ρ:Nm,([.v (.agg (gsC (kc.foldl (fun g k=>litAt k g) (Cl.wr c))))]:List SV).map (SV.den ρ)=(aCl.enc c).map (SV.den ρ))
 (h2:svsFree [.v (.agg (gsC (kc.foldl (fun g k=>litAt k g) (Cl.wr c))))]=true) (h4:(runMe σ tabRi 57 noM [.v (.agg (gsC (kc.foldl (fun g k=>litAt k g) (Cl.wr c))))] (riteV m) tRite (ks.foldl (fun g k=>litAt k g) (RiteM.wr m)) []).map (decM vNil oRite)=t):RunBs σ m c t:=⟨_,_,h1,h2,h3,h4⟩
end Go.Proofs.YtcpdipfepeccgaaGreatDoor

namespace Go.Proofs.YtcpdipfepeccgaaGreatDoor
open Go Go.Sx Go.Proofs
set_option maxRecDepth 100000
variable {σ:Sg}
section
variable {β:Type} (I:Bool->β->β->β) (N:Bool->β->β) (L:RT->β)
def rOpenA (sz:RT->Bool) (c:Cl) (r:RT):β :=
 if c.kind=10 /\ r.m.engine=2 then N (sz r) (rNoted I N L (rAdd 0 0 r))
 else if c.kind=11 /\ (r.m.engine=2 \/ r.m.engine=3 \/ r.m.engine=5) then rScan I N L r
 else rOpen I N L c r
end
def rOf (m:RiteM):RT:=⟨m,m.seen.length,m.doomed.length,m.notes.length⟩
def beginM (m:RiteM) (c:Cl):RiteM:=rOpenA cond (fun _ t=>t) RT.m (fun _=>true) c (rClear c (rOf m))
def okPair (i j:Int):Prop:=(i=1 /\ j=0) \/ (i=2 /\ j=1) \/ (i=4 /\ j=3) \/ (i=5 /\ j=4) \/ (i=7 /\ j=6) \/ (i=8 /\ j=7) \/ (i=2 /\ j=5) \/ (i=5 /\ j=8)
instance (i j:Int):Decidable (okPair i j):=by unfold okPair;infer_instance
def okKd (c:Cl):Prop:=c.kind=1 \/ c.kind=2 \/ c.kind=3 \/ c.kind=4 \/ c.kind=5 \/ (c.kind=6 /\ 0<=c.i /\ c.i < 9 /\ c.j=0) \/ (c.kind=7 /\ okPair c.i c.j) \/ c.kind=8 \/ c.kind=9 \/ c.kind=10 \/ c.kind=11
instance (c:Cl):Decidable (okKd c):=by unfold okKd;infer_instance
def okRi (m:RiteM):Prop:=1<=m.engine /\ m.engine<=5 /\ 0<=m.me /\ m.me < 6 /\ m.notes.length<=100000
instance (m:RiteM):Decidable (okRi m):=by unfold okRi;infer_instance
def okBg (m:RiteM) (c:Cl):Bool:=decide (m.step=0 /\ okRi m /\ okKd c)
def RunB (σ:Sg) (m:RiteM) (c:Cl):Prop:=RunBs σ m c (rOpenA tI tN tR (sizeN σ) c (rClear c (rOf m)))
theorem run_bg (σ:Sg) (m:RiteM) (c:Cl) (h:okBg m c=true):RunB σ m c:=by
 obtain⟨h0,h1,h2⟩:=of_decide_eq_true h
 obtain⟨cl,st,acc,wd,clk,ix,seen,doomed,e,me,thr,mst,holds,span,notes,freed,reply⟩:=m
 obtain⟨k,adr,old,new,i,j,ans⟩:=c
 dsimp only [okRi,okKd] at h0 h1 h2
 subst h0
 have he:e=1 \/ e=2 \/ e=3 \/ e=4 \/ e=5:=by omega
 clear h h1
 rcases h2 with rfl | rfl | rfl | rfl | rfl | ⟨rfl,h3,h4,rfl⟩ | ⟨rfl,h3⟩ | rfl | rfl | rfl | rfl
 ·rcases he with rfl | rfl | rfl | rfl | rfl<;>exact bgK [18,46] [0] (by kernel_rfl) (fun _=>by kernel_rfl) (by kernel_rfl) (by kernel_rfl)
 ·rcases he with rfl | rfl | rfl | rfl | rfl<;>exact bgK [18,46] [0] (by kernel_rfl) (fun _=>by kernel_rfl) (by kernel_rfl) (by kernel_rfl)
 ·exact bgK [18] [0] (by kernel_rfl) (fun _=>by kernel_rfl) (by kernel_rfl) (by kernel_rfl)
 ·exact bgK [18] [0] (by kernel_rfl) (fun _=>by kernel_rfl) (by kernel_rfl) (by kernel_rfl)
 ·exact bgK [18] [0] (by kernel_rfl) (fun _=>by kernel_rfl) (by kernel_rfl) (by kernel_rfl)
 ·rcases (by omega:i=0 \/ i=1 \/ i=2 \/ i=3 \/ i=4 \/ i=5 \/ i=6 \/ i=7 \/ i=8) with rfl | rfl | rfl | rfl | rfl | rfl | rfl | rfl | rfl<;>exact bgK [18] [0,14,15] (by kernel_rfl) (fun _=>by kernel_rfl) (by kernel_rfl) (by kernel_rfl)
 ·rcases h3 with⟨rfl,rfl⟩ | ⟨rfl,rfl⟩ | ⟨rfl,rfl⟩ | ⟨rfl,rfl⟩ | ⟨rfl,rfl⟩ | ⟨rfl,rfl⟩ | ⟨rfl,rfl⟩ | ⟨rfl,rfl⟩<;>rcases he with rfl | rfl | rfl | rfl | rfl<;>exact bgK [18,46] [0,14,15] (by kernel_rfl) (fun _=>by kernel_rfl) (by kernel_rfl) (by kernel_rfl)
 ·rcases he with rfl | rfl | rfl | rfl | rfl<;>exact bgK [18,46] [0] (by kernel_rfl) (fun _=>by kernel_rfl) (by kernel_rfl) (by kernel_rfl)
 ·exact bgK [18] [0] (by kernel_rfl) (fun _=>by kernel_rfl) (by kernel_rfl) (by kernel_rfl)
 ·rcases he with rfl | rfl | rfl | rfl | rfl<;>exact bgK [18,46] [0] (by kernel_rfl) (fun _=>by kernel_rfl) (by kernel_rfl) (by kernel_rfl)
 ·rcases he with rfl | rfl | rfl | rfl | rfl<;>exact bgK [18,46] [0] (by kernel_rfl) (fun _=>by kernel_rfl) (by kernel_rfl) (by kernel_rfl)
theorem lens_of {r:RT} (h1:r.ls=r.m.seen.length) (h2:r.ld=r.m.doomed.length) (h3:r.ln=r.m.notes.length):lensB r=true:=by
 unfold lensB
 rw [decide_eq_true h1,decide_eq_true h2,decide_eq_true h3]
theorem vR {r:RT} (h1:r.ls=r.m.seen.length) (h2:r.ld=r.m.doomed.length) (h3:r.ln=r.m.notes.length):(tR r).val=some (some ((),r.m)):=by
 unfold tR
 rw [lens_of h1 h2 h3]
 rfl
def LensR (r:RT):Prop:=r.ls=r.m.seen.length /\ r.ld=r.m.doomed.length /\ r.ln=r.m.notes.length
def TreeV (t:T (Option (Unit×RiteM))) (m:RiteM):Prop:=t.val=some (some ((),m))
theorem tv_L {r:RT} (h:LensR r):TreeV (tR r) r.m:=vR h.1 h.2.1 h.2.2
theorem tv_I {b:Bool} {t e:T (Option (Unit×RiteM))} {x y:RiteM} (h1:TreeV t x) (h2:TreeV e y):TreeV (tI b t e) (cond b x y):=by cases b<;>assumption
theorem tv_N {b:Bool} {t:T (Option (Unit×RiteM))} {x:RiteM} (h:b=true) (h1:TreeV t x):TreeV (tN b t) x:=by subst h;exact h1
theorem tv_if {c:Prop} [Decidable c] {t e:T (Option (Unit×RiteM))} {x y:RiteM} (h1:c->TreeV t x) (h2:¬c->TreeV e y):TreeV (if c then t else e) (if c then x else y):=by
 split
 ·exact h1 ‹_›
 ·exact h2 ‹_›
theorem lens_fin {x:Rp1} {r:RT} (h:LensR r):LensR (rFinish x r):=⟨rfl,rfl,h.2.2⟩
theorem lens_add {b d:Int} {r:RT} (h:LensR r):LensR (rAdd b d r):=⟨h.1,h.2.1,by
 show r.ln+1=(r.m.notes++[_]).length
 rw [List.length_append,h.2.2];rfl⟩
theorem tv_done {r:RT} (h:LensR r):TreeV (rDone tR r) (rDone RT.m r):=tv_L (lens_fin h)
theorem tv_post {s n:Int} {w:W} {r:RT} (h:LensR r) (hk:okKeep (r.m.me,n)=true):TreeV (rPost tN tR s n w r) (rPost (fun _ t=>t) RT.m s n w r):=tv_N hk (tv_L h)
theorem tv_ann {s:Int} {sp:Sp} {w:W} {r:RT} (h:LensR r) (hk:okSpan r.m.me=true):TreeV (rAnnounce tN tR s sp w r) (rAnnounce (fun _ t=>t) RT.m s sp w r):=tv_N hk (tv_L h)
theorem okKeep_of {t n:Int} (h1:0<=t) (h2:t < 6) (h3:0<=n) (h4:n < 9):okKeep (t,n)=true:=decide_eq_true ⟨h1,h2,h3,h4⟩
theorem okSpan_of {t:Int} (h1:0<=t) (h2:t < 6):okSpan t=true:=decide_eq_true ⟨h1,h2⟩
theorem tv_leaveK {r:RT} (h:LensR r) (h1:0<=r.m.me) (h2:r.m.me < 6):∀(k:Nat) (n:Int),0<=n->n+k<=9->TreeV (rLeaveK tI tN tR r k n) (rLeaveK cond (fun _ t=>t) RT.m r k n)
 | 0,n,_,_=>tv_done h
 | k+1,n,hn,hk=>tv_I (tv_post (r:={r with m:={r.m with index:=n}}) h (okKeep_of h1 h2 hn (by omega))) (tv_leaveK h h1 h2 k (n+1) (by omega) (by omega))
theorem tv_leave {r:RT} (h:LensR r) (h1:0<=r.m.me) (h2:r.m.me < 6) (n:Nat) (hn:n<=9):TreeV (rLeave tI tN tR n r) (rLeave cond (fun _ t=>t) RT.m n r):=by
 unfold rLeave
 exact tv_if (fun _=>tv_I (tv_ann h (okSpan_of h1 h2)) (tv_done h)) fun _=>tv_if (fun _=>tv_leaveK h h1 h2 _ _ (by omega) (by omega)) fun _=>tv_done h
theorem tv_look0 {r:RT} (h:LensR r):TreeV (rLook tI tN tR 0 r (tR r)) (rLook cond (fun _ t=>t) RT.m 0 r r.m):=by
 unfold rLook
 exact tv_if (fun _=>tv_I (tv_L h) (tv_N rfl (tv_N rfl (tv_N (by decide) (tv_L (r:=rAsk 13 _ {r with m:={r.m with index:=0}}) h))))) fun _=>tv_I (tv_L h) (tv_N (by decide) (tv_L (r:=rAsk 13 _ {r with m:={r.m with index:=0}}) h))
theorem tv_scan {r:RT} (h:LensR r):TreeV (rScan tI tN tR r) (rScan cond (fun _ t=>t) RT.m r):=by
 unfold rScan
 exact tv_if (fun _=>tv_done h) fun _=>tv_if (fun _=>tv_L h) fun _=>tv_look0 h
theorem tv_noted {r:RT} (h:LensR r):TreeV (rNoted tI tN tR r) (rNoted cond (fun _ t=>t) RT.m r):=tv_I (tv_scan h) (tv_done h)
theorem size_of {r:RT} (h:LensR r) (hn:r.m.notes.length<=100000):sizeN σ r=true:=by
 unfold sizeN
 refine decide_eq_true ⟨h.2.2,?_⟩
 rw [h.2.2]
 exact Nat.le_trans (Nat.mul_le_mul_right _ (Nat.succ_le_succ hn)) (by decide)
theorem tv_open {c:Cl} {r:RT} (h:LensR r) (h1:0<=r.m.me) (h2:r.m.me < 6) (hc:c.kind=7->0<=c.i /\ c.i < 9):TreeV (rOpen tI tN tR c r) (rOpen cond (fun _ t=>t) RT.m c r):=by
 unfold rOpen
 refine tv_if (fun _=>tv_if (fun _=>tv_L h) fun _=>tv_done h) fun _=>tv_if (fun _=>tv_leave h h1 h2 0 (by omega)) fun _=>tv_if (fun _=>tv_L h) fun _=>tv_if (fun _=>tv_L h) fun _=>tv_if (fun _=>tv_L h) fun _=>tv_if (fun _=>tv_L h) fun _ =>
  tv_if (fun h7=>tv_if (fun _=>tv_I (tv_post h (okKeep_of h1 h2 (hc h7).1 (hc h7).2)) (tv_done h)) fun _=>tv_done h) fun _=>tv_if (fun _=>tv_if (fun _=>tv_L h) fun _=>tv_L h) fun _=>tv_if (fun _=>tv_L h) fun _ =>
  tv_if (fun _=>tv_if (fun _=>tv_L h) fun _=>tv_if (fun _=>tv_L h) fun _=>tv_done h) fun _=>tv_if (fun _=>tv_L h) fun _=>tv_done h
theorem tv_begin {c:Cl} {r:RT} (h:LensR r) (h1:0<=r.m.me) (h2:r.m.me < 6) (hn:r.m.notes.length<=100000) (hc:c.kind=7->0<=c.i /\ c.i < 9):TreeV (rOpenA tI tN tR (sizeN σ) c r) (rOpenA cond (fun _ t=>t) RT.m (fun _=>true) c r):=by
 unfold rOpenA
 exact tv_if (fun _=>tv_N (size_of h hn) (tv_noted (lens_add h))) fun _=>tv_if (fun _=>tv_scan h) fun _=>tv_open h h1 h2 hc
theorem begin_ok:FnOk Tryz.prog (NV σ) 57 (sumG isS noM (methS aCl vNil oRite (fun m c=>some (okBg m c)) (fun m c=>((),beginM m c)))) :=
 methS_ok tabRi_ok rfl fun m c h=>by
  obtain⟨gs,args,e1,e2,e3,e4⟩:=run_bg σ m c h
  obtain⟨h0,hm,hk⟩:=of_decide_eq_true (h:okBg m c=true)
  refine⟨tRite,gs,e1,args,e2,e3,?_⟩
  rw [e4]
  exact tv_begin (r:=rClear c (rOf m)) ⟨rfl,rfl,rfl⟩ hm.2.2.1 hm.2.2.2.1 hm.2.2.2.2 (fun h7=>by
   unfold okKd at hk
   rcases hk with h | h | h | h | h | h | h | h | h | h | h
   all_goals try omega
   obtain⟨_,h⟩:=h
   unfold okPair at h
   omega)
end Go.Proofs.YtcpdipfepeccgaaGreatDoor
