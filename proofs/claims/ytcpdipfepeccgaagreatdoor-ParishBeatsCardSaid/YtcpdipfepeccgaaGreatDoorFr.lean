import Derived.Test.YtcpdipfepeccgaaGreatDoorFq
import Derived.Test.YtcpdipfepeccgaaGreatDoorSxM
import Derived.Test.YtcpdipfepeccgaaGreatDoorMd
import Derived.Test.YtcpdipfepeccgaaGreatDoorOa
import Derived.Test.YtcpdipfepeccgaaGreatDoorSxOf
set_option linter.unusedVariables false
set_option linter.unusedSimpArgs false
set_option maxHeartbeats 4000000
namespace Go.Sx.Q
open Go Go.Sx
variable {AV:Type}
theorem bind_eq {α β:Type} (t:T α) (f:α->T β):Q.bind t f=t.bind f:=by
 induction t with
 | leaf a=>rfl
 | ite b t e h1 h2=>show T.ite b (Q.bind t f) (Q.bind e f)=_;rw [h1,h2];rfl
 | need b t h=>show T.need b (Q.bind t f)=_;rw [h];rfl
 | fail w=>rfl
theorem map_eq {α β:Type} (f:α->β) (t:T α):Q.map f t=t.map f:=by
 induction t with
 | leaf a=>rfl
 | ite b t e h1 h2=>show T.ite b (Q.map f t) (Q.map f e)=_;rw [h1,h2];rfl
 | need b t h=>show T.need b (Q.map f t)=_;rw [h];rfl
 | fail w=>rfl
theorem hget_eq:∀(H:Hp AV) (n:Nat),Q.hget H n=Sx.hget H n
 | [],n=>by cases n<;>rfl
 | x::r,0=>rfl
 | x::r,n+1=>hget_eq r n
theorem nth_eq {α:Type}:∀(l:List α) (n:Nat),Q.nth l n=Sx.nth l n
 | [],n=>by cases n<;>rfl
 | x::r,0=>rfl
 | x::r,n+1=>nth_eq r n
theorem lset_eq {α:Type} (y:α):∀(l:List α) (n:Nat),Q.lset l n y=Sx.lset l n y
 | [],n=>by cases n<;>rfl
 | x::r,0=>rfl
 | x::r,n+1=>congrArg (x::·) (lset_eq y r n)
theorem look_eq (n:Nat):∀(E:Ev),Q.look E n=Sx.look E n
 | []=>rfl
 | (k,v)::r=>by
   show @Bool.rec (fun _=>SV) (Q.look r n) v (Nat.beq k n)=_
   rw [look_eq n r]
   simp only [Sx.look]
   cases Nat.beq k n<;>rfl
theorem ltake_eq:∀(l:List Cell) (n:Nat),Q.ltake l n=Sx.ltake l n
 | [],0=>rfl
 | [],n+1=>rfl
 | x::r,0=>rfl
 | x::r,n+1=>by
   show (match Q.ltake r n with | some r=>some (x::r) | none=>none)=_
   rw [ltake_eq r n];rfl
theorem lsub_eq (n:Nat):∀(l:List Cell) (k:Nat),Q.lsub l k n=Sx.lsub l k n
 | [],0=>ltake_eq [] n
 | [],k+1=>rfl
 | x::r,0=>ltake_eq (x::r) n
 | x::r,k+1=>lsub_eq n r k
theorem lput0_eq:∀(l ys:List Cell),Q.lput0 l ys=Sx.lput l 0 ys
 | [],[]=>rfl
 | [],y::ys=>rfl
 | x::r,[]=>rfl
 | x::r,y::ys=>by
   show (match Q.lput0 r ys with | some q=>some (y::q) | none=>none)=_
   rw [lput0_eq r ys];rfl
theorem lput_eq (ys:List Cell):∀(l:List Cell) (n:Nat),Q.lput l n ys=Sx.lput l n ys
 | [],0=>lput0_eq [] ys
 | [],n+1=>rfl
 | x::r,0=>lput0_eq (x::r) ys
 | x::r,n+1=>by
   show (match Q.lput r n ys with | some q=>some (x::q) | none=>none)=_
   rw [lput_eq ys r n];rfl
theorem evl_eq (G:Nat) (H:Hp AV) (E:Ev) (o:Operand):Q.evl G H E o=Sx.evl G H E o:=by
 cases o<;>simp only [Q.evl,Sx.evl,look_eq,hget_eq]<;>rfl
theorem To (G:Nat) (H:Hp AV) (E:Ev):Q.evl G H E=Sx.evl G H E:=funext fun o=>evl_eq G H E o
theorem evls_eq (ev:Operand->Option SV):∀(l:List Operand),Q.evls ev l=Sx.evls ev l
 | []=>rfl
 | x::r=>by
   simp only [Sx.evls,<- evls_eq ev r];rfl
theorem evlP_eq (ev:Operand->Option SV):∀(l:List (Nat×Operand)),Q.evlP ev l=Sx.evlP ev l
 | []=>rfl
 | (i,x)::r=>by
   simp only [Sx.evlP,<- evlP_eq ev r];rfl
theorem name_eq (c:Cell):Q.name c=c.name:=by
 induction c with
 | ifc t c ih=>exact ih
 | _=>rfl
theorem namesL_eq:∀(l:List Cell),Q.namesL l=Sx.namesL l
 | []=>rfl
 | c::r=>by
   show @Option.rec Nat (fun _=>List Nat) (Q.namesL r) (fun n=>n::Q.namesL r) (Q.name c)=_
   rw [namesL_eq r,name_eq]
   simp only [Sx.namesL]
   cases c.name<;>rfl
theorem clC_eq (H:Hp AV) (c:Cell):Q.clC H c=Sx.clC H c:=by
 unfold Q.clC Sx.clC
 simp only [name_eq,hget_eq];rfl
theorem clNs_eq (H:Hp AV):∀(l:List Nat),Q.clNs H l=Sx.clNs H l
 | []=>rfl
 | n::r=>by
   show (match isS (Q.hget H n) with | true=>Q.clNs H r | false=>false)=_
   rw [clNs_eq H r,hget_eq];rfl
theorem clL_eq (H:Hp AV) (l:List Cell):Q.clL H l=Sx.clL H l:=by
 unfold Q.clL Sx.clL
 rw [clNs_eq,namesL_eq]
theorem clV1_eq (H:Hp AV) (x:V1):Q.clV1 H x=Sx.clV1 H x:=by
 cases x
 ·exact clC_eq H _
 ·exact clL_eq H _
theorem clV1s_eq (H:Hp AV):∀(l:List V1),Q.clV1s H l=Sx.clV1s H l
 | []=>rfl
 | x::r=>by
   show (match Q.clV1 H x with | true=>Q.clV1s H r | false=>false)=_
   rw [clV1s_eq H r,clV1_eq];rfl
theorem clV_eq (H:Hp AV) (x:SV):Q.clV H x=Sx.clV H x:=by
 cases x
 ·exact clV1_eq H _
 ·exact clV1s_eq H _
 ·rfl
 ·exact clL_eq H _
theorem clVs_eq (H:Hp AV):∀(l:List SV),Q.clVs H l=Sx.clVs H l
 | []=>rfl
 | x::r=>by
   show (match Q.clV H x with | true=>Q.clVs H r | false=>false)=_
   rw [clVs_eq H r,clV_eq];rfl
theorem clCk_eq (H:Hp AV) (x:Chunk AV):Q.clCk H x=Sx.clCk H x:=by
 cases x
 ·exact clL_eq H _
 ·exact clL_eq H _
 ·rfl
 ·rfl
theorem clHs_eq (H:Hp AV):∀(l:Hp AV),Q.clHs H l=Sx.clHs H l
 | []=>rfl
 | none::r=>clHs_eq H r
 | some c::r=>by
   show (match Q.clCk H c with | true=>Q.clHs H r | false=>false)=_
   rw [clHs_eq H r,clCk_eq];rfl
theorem repsL_eq (z:List Cell):∀n,Q.repsL z n=Sx.repsL z n
 | 0=>rfl
 | n+1=>by
   show z++Q.repsL z n=_
   rw [repsL_eq z n];rfl
theorem get_eq {α:Type}:∀(t:Tr α) (n:Nat),Q.get t n=t.get n
 | .lf,n=>rfl
 | .nd x l r,0=>rfl
 | .nd x l r,m+1=>by
   show @Bool.rec (fun _=>Option α) (Q.get r (Nat.div m 2)) (Q.get l (Nat.div m 2)) (Nat.beq (Nat.mod m 2) 0)=_
   rw [get_eq l,get_eq r]
   have e1:(m+1 - 1) / 2=Nat.div m 2:=rfl
   have e0:Nat.beq (m+1) 0=false:=rfl
   simp only [Tr.get,e0]
   rcases Nat.mod_two_eq_zero_or_one m with h | h
   ·have h1:Nat.mod m 2=0:=h
    have h2:(m+1) % 2=1:=by omega
    have h3:(m+1) / 2=Nat.div m 2:=by show (m+1) / 2=m / 2;omega
    rw [h1,h2,h3];rfl
   ·have h1:Nat.mod m 2=1:=h
    have h2:(m+1) % 2=0:=by omega
    rw [h1,h2,e1];rfl
theorem fieldsT_eq (N:Env AV) (t:TypeId):Q.fieldsT N t=Sx.fieldsT N t:=by
 unfold Q.fieldsT Sx.fieldsT
 rw [get_eq];rfl
theorem gnames_eq (N:Env AV) (t:Tgt):Q.gnames N t=Sx.gnames N t:=by
 unfold Q.gnames Sx.gnames
 simp only [get_eq];rfl
theorem part1_eq (agg:Bool) (n:Nat) (l:List Cell) (off:Nat):Q.part1 agg n l off=Sx.part1 agg n l off:=by
 cases agg<;>simp only [Q.part1,Sx.part1,lsub_eq,nth_eq]<;>rfl
theorem partV_eq (N:Env AV) (t:TypeId) (l:List Cell) (off:Nat):Q.partV N t l off=Sx.partV N t l off:=by
 unfold Q.partV Sx.partV
 simp only [part1_eq,get_eq];rfl
theorem eqL_eq:∀(l m:List Cell),Q.eqL l m=Sx.eqL l m
 | [],[]=>rfl
 | [],y::ys=>rfl
 | x::xs,[]=>rfl
 | x::xs,y::ys=>by
   simp only [Sx.eqL,<- eqL_eq xs ys]
   rfl
theorem kindsB_eq:∀(l:List FK) (m:List Cell),Q.kindsB l m=Sx.kindsB l m
 | [],[]=>rfl
 | [],y::ys=>rfl
 | x::xs,[]=>rfl
 | x::xs,y::ys=>by
   simp only [Sx.kindsB,<- kindsB_eq xs ys]
   rfl
theorem eqV_eq (N:Env AV) (t:TypeId) (cst:Bool) (x y:V1):Q.eqV N t cst x y=Sx.eqV N t cst x y:=by
 cases x<;>cases y<;>simp only [Q.eqV,Sx.eqV,kindsB_eq,eqL_eq,get_eq]<;>rfl
theorem bin_eq (N:Env AV) (op:BinOp) (t:TypeId) (cst:Bool) (x y:V1):Q.bin N op t cst x y=Sx.bin N op t cst x y:=by
 unfold Q.bin Sx.bin
 simp only [eqV_eq];rfl
theorem fillP_eq (fs:List FdI):∀(ps:List (Nat×V1)) (l:List Cell),Q.fillP fs l ps=Sx.fillP fs l ps
 | [],l=>by simp only [Sx.fillP];rfl
 | (i,x)::r,l=>by
   simp only [Sx.fillP,<- fillP_eq fs r,<- nth_eq,<- lput_eq]
   rfl
theorem fillA_eq (esz:Nat):∀(ps:List (Nat×V1)) (l:List Cell),Q.fillA esz l ps=Sx.fillA esz l ps
 | [],l=>by simp only [Sx.fillA];rfl
 | (i,x)::r,l=>by
   simp only [Sx.fillA,<- fillA_eq esz r,<- lput_eq]
   rfl
theorem pBuild_eq (N:Env AV) (ev:Operand->Option SV) (t:TypeId) (parts:Array (Nat×Operand)):some (Q.pBuild N ev t parts)=Sx.pureOp N ev (.build t parts):=by
 simp only [Q.pBuild,Sx.pureOp,get_eq,evlP_eq,fillP_eq,fillA_eq];rfl
theorem cellsV_eq:∀(l:List SV),Q.cellsV l=Sx.cellsV l
 | []=>rfl
 | .v (.c c)::r=>by
   show (match Q.cellsV r with | some l=>some (c::l) | none=>none)=_
   rw [cellsV_eq r];rfl
 | .v (.agg _)::_=>rfl
 | .tup _::_=>rfl
 | .unk::_=>rfl
 | .clo _ _::_=>rfl
theorem svs_eq:∀(l:List Cell),Q.svs l=Sx.svs l
 | []=>rfl
 | c::r=>congrArg (SV.v (.c c)::·) (svs_eq r)
theorem pureOp_eq (N:Env AV) (ev:Operand->Option SV) (o:Op):Q.pureOp N ev o=Sx.pureOp N ev o:=by
 cases o with
 | build t parts=>exact pBuild_eq N ev t parts
 | fieldAddr t x i=>simp only [Q.pureOp,Q.pFieldAddr,Sx.pureOp,nth_eq,fieldsT_eq];rfl
 | field t x i=>simp only [Q.pureOp,Q.pField,Sx.pureOp,nth_eq,part1_eq,fieldsT_eq];rfl
 | binOp op t x y y'=>simp only [Q.pureOp,Q.pBin,Sx.pureOp,map_eq,bin_eq];rfl
 | unOp u t x=>cases u<;>rfl
 | slice t x lo hi mx=>rfl
 | extract x i=>simp only [Q.pureOp,Q.pExtract,Sx.pureOp,nth_eq];rfl
 | indexAddr t x i=>simp only [Q.pureOp,Q.pIndexAddr,Sx.pureOp,map_eq,get_eq];rfl
 | index t x i=>simp only [Q.pureOp,Q.pIndex,Sx.pureOp,map_eq,get_eq,part1_eq];rfl
 | makeInterface t x=>simp only [Q.pureOp,Q.pIfc,Sx.pureOp,get_eq];rfl
 | convert s t x=>simp only [Q.pureOp,Q.pConvert,Sx.pureOp,get_eq];rfl
 | makeFunc fn a b=>simp only [Q.pureOp,Q.pMkF,Sx.pureOp,evls_eq,cellsV_eq];rfl
 | call c =>
   simp only [Q.pureOp,Q.pCall,Sx.pureOp,Q.pLens,Q.pLen,get_eq]
   cases c.callee<;>rfl
 | _=>rfl
theorem loadV_eq (N:Env AV) (t:TypeId) (H:Hp AV) (x:SV):Q.loadV N t H x=Sx.loadV N t H x:=by
 have hp:∀a i e o,Q.prtV N t a i e o=Sx.prtV N t a i e o:=fun a i e o=>by
  unfold Q.prtV Sx.prtV
  simp only [get_eq,part1_eq];rfl
 unfold Q.loadV Sx.loadV
 simp only [hget_eq,partV_eq,hp];rfl
theorem updH_eq (H:Hp AV) (x:Option (Nat×Chunk AV)):Q.updH H x=Sx.updH H x:=by
 cases x with
 | none=>rfl
 | some p=>exact lset_eq _ _ _
theorem namesV1s_eq:∀(l:List V1),Q.namesV1s l=Sx.namesV1s l
 | []=>rfl
 | x::r=>by
   show Q.namesL x.cells++Q.namesV1s r=_
   rw [namesV1s_eq r,namesL_eq];rfl
theorem namesV_eq (x:SV):Q.namesV x=Sx.namesV x:=by
 cases x
 ·exact namesL_eq _
 ·exact namesV1s_eq _
 ·rfl
 ·exact namesL_eq _
theorem namesVs_eq:∀(l:List SV),Q.namesVs l=Sx.namesVs l
 | []=>rfl
 | x::r=>by
   show Q.namesV x++Q.namesVs r=_
   rw [namesVs_eq r,namesV_eq];rfl
theorem hasN_eq (n:Nat):∀(l:List Nat),Q.hasN l n=Sx.hasN l n
 | []=>rfl
 | x::r=>by
   show @Bool.rec (fun _=>Bool) (Q.hasN r n) true (Nat.beq x n)=_
   rw [hasN_eq n r]
   simp only [Sx.hasN]
   cases Nat.beq x n<;>rfl
theorem reach_eq (H:Hp AV):∀(f:Nat) (l acc:List Nat),Q.reach H f l acc=Sx.reach H f l acc
 | 0,l,acc=>by cases l<;>rfl
 | f+1,[],acc=>rfl
 | f+1,n::r,acc=>by
   show Q.rch1 H (Q.reach H f) n r acc=_
   have e:Q.reach H f=Sx.reach H f:=funext fun l=>funext fun acc=>reach_eq H f l acc
   unfold Q.rch1
   simp only [e,Sx.reach,hasN_eq,hget_eq,namesL_eq];rfl
theorem bitsOf_eq:∀(l:List Nat),Q.bitsOf l=Sx.bitsOf l
 | []=>rfl
 | n::r=>by
   show Nat.lor (Nat.shiftLeft 1 n) (Q.bitsOf r)=_
   rw [bitsOf_eq r];rfl
theorem sees_eq (R:List Nat) (n:Nat):Q.seeB (Q.bitsOf R) n=Sx.sees R n:=by
 unfold Q.seeB Sx.sees
 rw [bitsOf_eq];rfl
theorem maskB_eq (R:List Nat):∀(l:Hp AV) (i:Nat),Q.maskB (Q.bitsOf R) i l=Sx.maskH R i l
 | [],i=>rfl
 | x::r,i=>by
   show (match Q.seeB (Q.bitsOf R) i with | true=>x | false=>none)::Q.maskB (Q.bitsOf R) (i+1) r=_
   rw [maskB_eq R r,sees_eq];rfl
theorem mergeB_eq (R:List Nat):∀(l b:Hp AV) (i:Nat),Q.mergeB (Q.bitsOf R) i l b=Sx.mergeH R i l b
 | [],b,i=>by cases b<;>rfl
 | x::r,[],i=>by cases x<;>rfl
 | none::r,y::q,i=>by
   show none::Q.mergeB (Q.bitsOf R) (i+1) r q=_
   rw [mergeB_eq R r];rfl
 | some x::r,y::q,i=>by
   show (match Q.seeB (Q.bitsOf R) i with | true=>y | false=>some x)::Q.mergeB (Q.bitsOf R) (i+1) r q=_
   rw [mergeB_eq R r,sees_eq];rfl
theorem persB_eq:∀(l m:Hp AV),Q.persB l m=Sx.persB l m
 | [],m=>rfl
 | none::r,[]=>rfl
 | some x::r,[]=>rfl
 | none::r,none::q=>persB_eq r q
 | none::r,some y::q=>rfl
 | some x::r,none::q=>rfl
 | some x::r,some y::q=>persB_eq r q
theorem callB_eq (cal:Callee AV) (f:Tgt) (args:List SV) (H:Hp AV) (B:Nat):Q.callB cal f args H B=Q.callW cal f args H B (Q.maskB B 0 H):=by
 cases B<;>rfl
theorem callV_eq (cal:Callee AV) (gn:List Nat) (f:Tgt) (args:List SV) (H:Hp AV):Q.callV cal gn f args H=Sx.callV cal gn f args H:=by
 unfold Q.callV Sx.callV
 rw [callB_eq]
 unfold Q.callW
 simp only [clVs_eq,clHs_eq,bind_eq,persB_eq,mergeB_eq,maskB_eq,reach_eq,namesVs_eq];rfl
theorem mkBuild_eq (N:Env AV) (t:TypeId) (len:Nat) (ps:Option (List (Nat×V1))):Q.mkBuild N t len ps=Sx.mkBuild N t len ps:=by
 unfold Q.mkBuild Sx.mkBuild
 simp only [fillA_eq,repsL_eq,get_eq];rfl
theorem mkMake_eq (N:Env AV) (t:TypeId) (a b:Option SV):Q.mkMake N t a b=Sx.mkMake N t a b:=by
 unfold Q.mkMake Sx.mkMake
 simp only [repsL_eq,get_eq];rfl
theorem len_eq {α:Type}:∀(l:List α),Q.len l=l.length
 | []=>rfl
 | x::r=>congrArg (·+1) (len_eq r)
theorem lightArr_eq (N:Env AV) (nm:Nat) (H:Hp AV) (x:Option Arr):Q.lightArr N nm H x=Sx.lightArr N nm H x:=by
 unfold Q.lightArr Sx.lightArr
 simp only [hget_eq,len_eq];rfl
theorem lightMk_eq (N:Env AV) (nm:Nat) (H:Hp AV) (k:Option Arr) (z:Option (Bool×AV×Nat×Nat)):Q.lightMk N nm H k z=Sx.lightMk N nm H k z:=by
 unfold Q.lightMk Sx.lightMk
 simp only [lightArr_eq];rfl
theorem light_eq (N:Env AV) (nm:Nat) (ev:Operand->Option SV) (H:Hp AV) (o:Op):Q.light N nm ev H o=Sx.light N nm ev H o:=by
 unfold Q.light Sx.light
 simp only [pureOp_eq,map_eq]
 cases Sx.pureOp N ev o with
 | some t=>rfl
 | none =>
   cases o with
   | alloc t=>simp only [Q.lMem,Q.lAlloc,hget_eq,len_eq,get_eq];rfl
   | box t x=>simp only [Q.lMem,Q.lBox,hget_eq,len_eq];rfl
   | load t x=>simp only [Q.lMem,Q.lLoad,map_eq,loadV_eq];rfl
   | store t a x=>simp only [Q.lMem,Q.lStore,Q.lStore1,Q.lStore2,hget_eq,lput_eq,get_eq];rfl
   | makeSlice t x y=>simp only [Q.lMem,lightMk_eq,mkMake_eq]
   | buildSlice t n ps=>simp only [Q.lMem,lightArr_eq,mkBuild_eq,evlP_eq]
   | slice a b c d e=>simp only [Q.lMem,Q.lightSl,Sx.lightSl,hget_eq,len_eq,get_eq];rfl
   | _=>rfl
theorem callee_eq (N:Env AV) (ev:Operand->Option SV) (o:Op):Q.callee? N ev o=Sx.callee? N ev o:=by
 have hh:∀o,Sx.heavyE ev o=true->Q.cHeavy ev o=Sx.callee? N ev o:=fun o h=>by
  unfold Q.cHeavy Sx.callee?
  rw [h,evls_eq];rfl
 cases o with
 | slice a b c d e =>
   simp only [Q.callee?]
   cases hp:kT ev (.slice a b c d e) with
   | some p=>simp only [Sx.callee?,Sx.heavyE,Sx.heavy,hp]
   | none =>
     cases ht:txO ev (.slice a b c d e) with
     | true=>simp only [Sx.callee?,Sx.heavyE,Sx.heavy,hp,ht]
     | false=>exact hh _ (by simp only [Sx.heavyE,Sx.heavy,hp,ht])
 | makeMap a b=>exact hh _ rfl
 | lookup a b c d=>exact hh _ rfl
 | mapUpdate a b c d=>exact hh _ rfl
 | convert a b x =>
   simp only [Q.callee?]
   cases hs:xp slC (ev x) with
   | true=>exact hh _ (by simp only [Sx.heavyE,Sx.heavy,hs])
   | false=>simp only [Sx.callee?,Sx.heavyE,Sx.heavy,hs]
 | call c =>
   simp only [Q.callee?,Q.cCall]
   cases hc:c.callee with
   | value f=>simp only [Sx.callee?,Sx.heavyE,Sx.heavy,hc,Q.cValue,evls_eq,get_eq,svs_eq];rfl
   | invoke r m=>simp only [Sx.callee?,Sx.heavyE,Sx.heavy,hc,Q.cInvoke,evls_eq,get_eq];rfl
   | builtin b =>
     cases b<;>first
      | (simp only [Q.cBuiltin];exact hh _ (by simp only [Sx.heavyE,Sx.heavy,hc]<;>rfl))
      | (simp only [Q.cBuiltin,Sx.callee?,Sx.heavyE,Sx.heavy,hc];done)
      | (simp only [Q.cBuiltin]
         split
         ·rename_i x hx
          cases hs:xp mpC (ev x) with
          | true=>exact hh _ (by simp only [Sx.heavyE,Sx.heavy,hc,hx,hs])
          | false=>simp only [Sx.callee?,Sx.heavyE,Sx.heavy,hc,hx,hs]
         ·rename_i hx
          simp only [Sx.callee?,Sx.heavyE,Sx.heavy,hc])
 | _=>rfl
theorem keptU_eq (N:Env AV) (R:List Nat) (H H':Hp AV) (n:Nat):Q.keptU N R H H' n=Sx.keptU N R H H' n:=by
 unfold Q.keptU Sx.keptU Q.sees
 simp only [sees_eq,hget_eq];rfl
theorem entOf_eq (N:Env AV) (nm:Nat) (ev:Operand->Option SV) (H H':Hp AV) (o:Op):Q.entOf N nm ev H H' o=Sx.entOf N nm ev H H' o:=by
 have e:∀R,Q.keptU N R H H'=Sx.keptU N R H H':=fun R=>funext fun n=>keptU_eq N R H H' n
 unfold Q.entOf Sx.entOf
 simp only [callee_eq,reach_eq,namesVs_eq,e,gnames_eq]
 cases Sx.callee? N ev o with
 | none=>cases o<;>rfl
 | some x=>cases x<;>rfl
theorem stepOp_eq (N:Env AV) (cal:Callee AV) (nm:Nat) (o:Oper) (s:St AV):Q.stepOp N cal nm o s=Sx.stepOp N cal nm o s:=by
 unfold Q.stepOp Sx.stepOp
 simp only [To,callee_eq,bind_eq,callV_eq,light_eq,updH_eq,gnames_eq];rfl
theorem countMk_eq:∀(l:List Oper),Q.countMk l=Sx.countMk l
 | []=>rfl
 | o::r=>by
   show (match lP o.op with | true=>Q.countMk r+1 | false=>Q.countMk r)=_
   rw [countMk_eq r];rfl
theorem nmOf_eq:∀(l:List Oper) (b i:Nat),Q.nmOf l b i=Sx.nmOf l b i
 | [],b,i=>by cases i<;>rfl
 | o::r,b,0=>rfl
 | o::r,b,i+1=>by
   show (match lP o.op with | true=>Q.nmOf r (b+1) i | false=>Q.nmOf r b i)=_
   rw [nmOf_eq r,nmOf_eq r];rfl
theorem nones_eq:∀n,Q.nones (AV:=AV) n=Sx.nones AV n
 | 0=>rfl
 | n+1=>congrArg (none::·) (nones_eq n)
theorem app_eq {α:Type} (m:List α):∀(l:List α),Q.app l m=l++m
 | []=>rfl
 | x::r=>congrArg (x::·) (app_eq m r)
theorem growH_eq (H:Hp AV) (k:Nat):Q.growH H k=Sx.growH H k:=by
 cases k with
 | zero=>rfl
 | succ k=>show Q.app H (Q.nones (k+1))=_;rw [app_eq,nones_eq];rfl
theorem wantedS_eq (all:List Oper) (o:Oper) (E:Ev):Q.wantedS all o E=Sx.wantedS all o E:=by
 unfold Q.wantedS Sx.wantedS Q.wantedG
 simp only [nth_eq,look_eq];rfl
theorem hasEdge_eq (i:Nat):∀(l:List Edge),Q.hasEdge l i=Sx.hasEdge l i
 | []=>rfl
 | e::r=>by
   simp only [Sx.hasEdge,<- hasEdge_eq i r];rfl
theorem anyE_eq (rec:Nat->Bool):∀(l:List Edge),Q.anyE rec l=Sx.anyE rec l
 | []=>rfl
 | e::r=>by
   simp only [Sx.anyE,<- anyE_eq rec r];rfl
theorem isAnc_eq (all:List Oper):∀(f j i:Nat),Q.isAnc all f j i=Sx.isAnc all f j i
 | 0,j,i=>rfl
 | f+1,j,i=>by
   simp only [Sx.isAnc,<- isAnc_eq all f,<- hasEdge_eq,<- anyE_eq,<- nth_eq];rfl
theorem compatE_eq (x y:Ent):Q.compatE x y=Sx.compatE x y:=by
 cases x<;>cases y<;>simp only [Q.compatE,Sx.compatE,Q.sees,sees_eq]<;>rfl
theorem compatC_eq (x y:Ent):Q.compatC x y=Sx.compatC x y:=by
 cases x<;>cases y<;>simp only [Q.compatC,Sx.compatC,Q.sees,sees_eq,compatE_eq]<;>rfl
theorem logC_eq (all:List Oper) (j:Nat) (en:Ent):∀(l:List (Nat×Ent)),Q.logC all j en l=Sx.logC all j en l
 | []=>rfl
 | (i,x)::r=>by
   simp only [Sx.logC,<- logC_eq all j en r,<- compatC_eq,<- isAnc_eq];rfl
theorem needs_eq {α:Type} (t:T α):∀(l:List Bool),Q.needs l t=Sx.needs l t
 | []=>rfl
 | b::r=>congrArg (T.need b) (needs_eq t r)
theorem edgesBelow_eq (i:Nat):∀(l:List Edge),Q.edgesBelow i l=Sx.edgesBelow i l
 | []=>rfl
 | e::r=>by
   simp only [Sx.edgesBelow,<- edgesBelow_eq i r];rfl
theorem lookA_eq (n:Nat):∀(l:Asm),Q.lookA l n=Sx.lookA l n
 | []=>rfl
 | (k,b)::r=>by
   simp only [Sx.lookA,<- lookA_eq n r];rfl
theorem dropA_eq (n:Nat):∀(l:Asm),Q.dropA l n=Sx.dropA l n
 | []=>rfl
 | (k,b)::r=>by
   simp only [Sx.dropA,<- dropA_eq n r];rfl
theorem dropD_eq (A:Asm) (d:Option Nat):Q.dropD A d=Sx.dropD A d:=by
 cases d
 ·rfl
 ·exact dropA_eq _ _
theorem gTmp_eq (all:List Oper) (o:Oper):Q.gTmp all o=Sx.gTmp all o:=by
 unfold Q.gTmp Sx.gTmp
 simp only [nth_eq];rfl
theorem pickK_eq (A:Asm) (ev:Operand->Option SV) (o:Op):Q.pickK A ev o=Sx.pickK A ev o:=by
 cases o with
 | pick c a b =>
   cases c<;>simp only [Q.pickK,Sx.pickK,Q.pickK1,lookA_eq]<;>rfl
 | _=>rfl
theorem execA_eq (N:Env AV) (cal:Callee AV) (base:Nat) (all:List Oper) (i:Nat) (o:Oper) (A B:Asm) (s:St AV):Q.execA N cal base all i o A B s=Sx.execA N cal base all i o A B s:=by
 unfold Q.execA Sx.execA
 simp only [To,pickK_eq,map_eq,dropD_eq,entOf_eq,nmOf_eq,stepOp_eq];rfl
theorem step1A_eq (N:Env AV) (cal:Callee AV) (base:Nat) (all:List Oper) (i:Nat) (o:Oper) (A:Asm) (s:St AV):Q.step1A N cal base all i o A s=Sx.step1A N cal base all i o A s:=by
 unfold Q.step1A Sx.step1A Q.step1F
 simp only [wantedS_eq,execA_eq,dropD_eq,gTmp_eq,lookA_eq];rfl
theorem quietS_eq (q:Bool) (en:Ent) (H H':Hp AV):Q.quietS q en H H'=Sx.quietS q en H H':=by
 unfold Q.quietS Sx.quietS
 simp only [len_eq];rfl
theorem stepOpsA_eq (N:Env AV) (cal:Callee AV) (base:Nat) (all:List Oper):∀(l:List Oper) (i:Nat) (A:Asm) (q:Bool) (s:St AV),Q.stepOpsA N cal base all i l A q s=Sx.stepOpsA N cal base all i l A q s
 | [],i,A,q,s=>rfl
 | o::r,i,A,q,s=>by
   show Q.bind (Q.step1A N cal base all i o A s) (fun x=>Q.stepOpsA N cal base all (i+1) r x.2.2 (Q.quietS q x.2.1 s.H x.1.H) x.1)=_
   simp only [bind_eq,step1A_eq,quietS_eq,stepOpsA_eq N cal base all r];rfl
theorem stepOpsDA_eq (N:Env AV) (cal:Callee AV) (base:Nat) (all:List Oper):∀(l:List Oper) (i:Nat) (log:List (Nat×Ent)) (A:Asm) (q:Bool) (s:St AV),Q.stepOpsDA N cal base all i l log A q s=Sx.stepOpsDA N cal base all i l log A q s
 | [],i,log,A,q,s=>rfl
 | o::r,i,log,A,q,s=>by
   show (match Q.edgesBelow i o.after.toList with
    | false=>T.fail "an edge upwards"
    | true=>Q.bind (Q.step1A N cal base all i o A s) fun x=>match Q.logC all i x.2.1 log with
      | some l=>Q.needs l (Q.stepOpsDA N cal base all (i+1) r ((i,x.2.1)::log) x.2.2 (Q.quietS q x.2.1 s.H x.1.H) x.1)
      | none=>.fail "the order matters")=_
   simp only [bind_eq,step1A_eq,quietS_eq,edgesBelow_eq,logC_eq,needs_eq,stepOpsDA_eq N cal base all r];rfl
theorem joinL_eq (b:Bool):∀(l m:List Cell),Q.joinL b l m=Sx.joinL b l m
 | [],[]=>rfl
 | [],y::ys=>rfl
 | x::xs,[]=>rfl
 | x::xs,y::ys=>by
   simp only [Sx.joinL,<- joinL_eq b xs ys];rfl
theorem joinV_eq (b:Bool) (x y:SV):Q.joinV b x y=Sx.joinV b x y:=by
 unfold Q.joinV Sx.joinV
 simp only [joinL_eq];rfl
theorem joinZ_eq (b:Bool):∀(l m:Ev),Q.joinZ b l m=Sx.joinZ b l m
 | [],[]=>rfl
 | [],y::ys=>rfl
 | x::xs,[]=>rfl
 | (k,v)::xs,(k',u)::ys=>by
   simp only [Sx.joinZ,<- joinZ_eq b xs ys,<- joinV_eq];rfl
theorem firstN_eq:∀(n:Nat) (l:Ev),Q.firstN n l=Sx.firstN n l
 | 0,l=>by cases l<;>rfl
 | n+1,[]=>rfl
 | n+1,x::r=>congrArg (x::·) (firstN_eq n r)
theorem joinT_eq (E:Ev):∀(t:T (St AV×Bool)),Q.joinT E t=Sx.joinT E t
 | .leaf s=>by
   show (match s.2 with | true=>some (none,Q.firstN (Q.len s.1.E - Q.len E) s.1.E) | false=>none)=_
   rw [firstN_eq,len_eq,len_eq];rfl
 | .ite b t e=>by
   show Q.joinI b (Q.joinT E t) (Q.joinT E e)=_
   rw [joinT_eq E t,joinT_eq E e]
   unfold Q.joinI
   simp only [joinZ_eq];rfl
 | .need b t=>by
   simp only [Sx.joinT,<- joinT_eq E t];rfl
 | .fail w=>rfl
theorem joinR_eq (s:St AV) (t:T (St AV×Bool)):Q.joinR s t=Sx.joinR s t:=by
 have h2:∀t,Q.joinR2 s t=(match Sx.joinT s.E t with
  | some (none,W)=>.leaf {s with E:=W++s.E}
  | some (some n,W)=>.need n (.leaf {s with E:=W++s.E})
  | none=>t.map fun r=>r.1):=fun t=>by
  unfold Q.joinR2
  simp only [joinT_eq,app_eq,map_eq];rfl
 cases t with
 | leaf r=>rfl
 | ite b t e=>exact h2 (.ite b t e)
 | need b t=>exact h2 (.need b t)
 | fail w=>exact h2 (.fail w)
theorem dstsOk_eq (nt:Nat):∀(l:List Oper),Q.dstsOk nt l=Sx.dstsOk nt l
 | []=>rfl
 | o::r=>by
   simp only [Sx.dstsOk,<- dstsOk_eq nt r];rfl
theorem tidy_eq (E:Ev):∀n,Q.tidy E n=Sx.tidy E n
 | 0=>rfl
 | n+1=>by
   show (n,Q.look E n)::Q.tidy E n=_
   rw [tidy_eq E n,look_eq];rfl
theorem rounds_eq (nt:Nat) (body:St AV->T (Ex×St AV)):∀(n:Nat) (s:St AV),Q.rounds nt body n s=Sx.rounds nt body n s
 | 0,s=>rfl
 | n+1,s=>by
   show Q.bind (body s) (fun r=>match r.1 with
    | .normal=>Q.rounds nt body n {r.2 with E:=Q.tidy r.2.E nt}
    | e=>.leaf (e,r.2))=_
   simp only [bind_eq,tidy_eq,rounds_eq nt body n];rfl
theorem FF {α β:Type} (f:α->β) (t:T α):t.bind (fun a=>.leaf (f a))=t.map f:=by
 induction t with
 | leaf a=>rfl
 | ite b t e h1 h2=>simp only [T.bind,T.map,h1,h2]
 | need b t h=>simp only [T.bind,T.map,h]
 | fail w=>rfl
theorem xRegion_eq (N:Env AV) (cal:Callee AV) (lp:Nat->Option (St AV->T (Ex×St AV))) (nt id:Nat) (ops:Array Oper) (d:Bool) (s:St AV):Q.xRegion N cal nt ops d s=Sx.xc N cal lp nt (.region id ops d) s:=by
 unfold Q.xRegion Q.xReg Q.xRegD
 simp only [Sx.xc,FF,dstsOk_eq,map_eq,joinR_eq,stepOpsA_eq,stepOpsDA_eq,len_eq,growH_eq,countMk_eq];rfl
theorem xc_eq (N:Env AV) (cal:Callee AV) (lp:Nat->Option (St AV->T (Ex×St AV))) (nt:Nat):∀(c:Code) (s:St AV),Q.xc N cal lp nt c s=Sx.xc N cal lp nt c s
 | .skip,s=>rfl
 | .label _,s=>rfl
 | .region id ops d,s=>xRegion_eq N cal lp nt id ops d s
 | .seq a b,s=>by
   simp only [Q.xc,Sx.xc,bind_eq,xc_eq N cal lp nt a,xc_eq N cal lp nt b]
   rfl
 | .cond c a b,s=>by
   simp only [Q.xc,Q.xCond,Sx.xc,evl_eq,xc_eq N cal lp nt a,xc_eq N cal lp nt b]
   rfl
 | .block id c,s=>by
   simp only [Q.xc,Sx.xc,bind_eq,xc_eq N cal lp nt c]
   rfl
 | .loop c,s=>by
   have e:Q.xc N cal lp nt c=Sx.xc N cal lp nt c:=funext fun s=>xc_eq N cal lp nt c s
   simp only [Q.xc,Sx.xc,e,rounds_eq]
   rfl
 | .exit id,s=>rfl
 | .ret,s=>rfl
 | .rangeFunc _ _ _ _,s=>rfl
 | .scope _,s=>rfl
 | .goto _,s=>rfl
 | .refuse _,s=>rfl
theorem resV_eq (N:Env AV) (s:St AV):∀(l:List ResultVar),Q.resV N s l=Sx.resV N s l
 | []=>rfl
 | .tmp t::r=>by
   simp only [Sx.resV,<- resV_eq N s r,<- map_eq,<- look_eq];rfl
 | .cell a t::r=>by
   simp only [Sx.resV,<- resV_eq N s r,<- map_eq,<- look_eq,<- hget_eq,<- partV_eq];rfl
theorem sweep_eq (len:Nat) (R:List Nat):∀(l:Hp AV) (i:Nat),Q.sweep len R i l=Sx.sweep len R i l
 | [],i=>rfl
 | x::r,i=>by
   simp only [Sx.sweep,<- sweep_eq len R r,<- hasN_eq];rfl
theorem trim0_eq:∀(l:Hp AV),Q.trim0 l=Sx.trim 0 l
 | []=>rfl
 | none::r=>by
   simp only [Sx.trim,<- trim0_eq r]
   show (match Q.trim0 r with | []=>[] | y::q=>none::y::q)=_
   cases Q.trim0 r<;>rfl
 | some c::r=>by
   simp only [Sx.trim,<- trim0_eq r];rfl
theorem trim_eq:∀(n:Nat) (l:Hp AV),Q.trim n l=Sx.trim n l
 | 0,l=>trim0_eq l
 | n+1,[]=>rfl
 | n+1,x::r=>congrArg (x::·) (trim_eq n r)
theorem namesH_eq:∀(n:Nat) (l:Hp AV),Q.namesH n l=Sx.namesH n l
 | 0,l=>by cases l<;>rfl
 | n+1,[]=>rfl
 | n+1,none::r=>namesH_eq n r
 | n+1,some (.cells l _)::r=>by
   show Q.app (Q.namesL l) (Q.namesH n r)=_
   rw [app_eq,namesL_eq,namesH_eq n r];rfl
 | n+1,some (.vec l _ _)::r=>by
   show Q.app (Q.namesL l) (Q.namesH n r)=_
   rw [app_eq,namesL_eq,namesH_eq n r];rfl
 | n+1,some .dead::r=>namesH_eq n r
 | n+1,some (.abs _)::r=>namesH_eq n r
theorem gcH_eq (len:Nat) (v:SV) (H:Hp AV):Q.gcH len v H=Sx.gcH len v H:=by
 unfold Q.gcH Sx.gcH
 rw [trim_eq,sweep_eq,reach_eq,namesV_eq,namesH_eq]
theorem pad_eq:∀(l:List SV) (n:Nat),Q.pad n l=Sx.pad n l
 | [],n=>rfl
 | x::r,n=>congrArg ((n,x)::·) (pad_eq r (n+1))
theorem runF_eq (N:Env AV) (cal:Callee AV) (f:FuncId) (args:List SV) (H:Hp AV):Q.runF N cal f args H=Sx.runF N cal f args H:=by
 unfold Q.runF Sx.runF
 simp only [get_eq,Q.runC,Q.rRet,Q.rEnd,bind_eq,xc_eq,resV_eq,gcH_eq,clV_eq,clHs_eq,pad_eq,len_eq];rfl
theorem allNone_eq:∀(l:Hp AV),Q.allNone l=Sx.allNone l
 | []=>rfl
 | none::r=>allNone_eq r
 | some _::r=>rfl
theorem joinCT_eq (n:Nat):∀(t:T (SV×Hp AV)),Q.joinCT n t=Sx.joinCT n t
 | .leaf s=>by
   show (match Nat.beq (Q.len s.2) n with | true=>some (none,s.1) | false=>none)=_
   rw [len_eq];rfl
 | .ite b t e=>by
   show Q.joinCI b (Q.joinCT n t) (Q.joinCT n e)=_
   rw [joinCT_eq n t,joinCT_eq n e]
   unfold Q.joinCI
   simp only [joinV_eq];rfl
 | .need b t=>by
   simp only [Sx.joinCT,<- joinCT_eq n t];rfl
 | .fail w=>rfl
theorem joinCal_eq (cal:Callee AV):Q.joinCal cal=Sx.joinCal cal:=by
 funext f args A
 unfold Q.joinCal Sx.joinCal Q.joinC2
 simp only [allNone_eq,joinCT_eq,len_eq,clV_eq,persB_eq];rfl
theorem lv_eq (N:Env AV) (tab:FuncId->Option (List SV->Hp AV->T (SV×Hp AV))):∀(n:Nat),Q.lv N tab n=Sx.lv N tab n
 | 0=>by
   funext g args H
   cases g with
   | op o=>rfl
   | fn f =>
     show Q.lvF tab f args H _=_
     unfold Q.lvF
     simp only [Sx.lv];rfl
 | n+1=>by
   funext g args H
   cases g with
   | op o=>rfl
   | fn f =>
     show Q.lvF tab f args H (Q.runF N (Q.joinCal (Q.lv N tab n)) f args H)=_
     unfold Q.lvF
     simp only [Sx.lv,lv_eq N tab n,joinCal_eq,runF_eq];rfl
end Go.Sx.Q

namespace Go.Proofs.YtcpdipfepeccgaaGreatDoor
open Go Go.Sx Go.Proofs
def y8:Nat:=78
def Kx:Nat:=217
def Nx:Nat:=215
def C2:Nat:=252
def yw:Option (Int×Nat)->Cell
 | none=>.inil
 | some _=>.ifc Nx (.ptr 4 0)
def oc (σ:Sg):Option (Int×Nat)->Hp AV
 | none=>[]
 | some (k,i)=>[some (.cells [.it .i64 k,.ifc C2 (.op i (σ i))] Kx)]
def lQ (σ:Sg) (m:PlotM):Hp AV:=some (.cells [.vs 1 0 m.board.length 5 false,.vs 2 0 m.slots.length 52 false,.vs 3 0 m.free.length 1 false,.it .i64 m.steps,.it .i64 m.made,yw m.fault] y8) ::
 some (.abs (.words m.board))::some (.abs (.slots m.slots))::some (.abs (.ints m.free))::oc σ m.fault
def AV.dep:AV->Nat
 | .plot _=>1
 | .obj d _ _=>d
 | .oba d _ _ _=>d
 | a=>match a.ob with | some (d,_,_)=>d | none=>0
def ia (σ:Sg):AV->Option (Hp AV)
 | .plot m=>some (lQ σ m)
 | .obj _ ty cs=>some (cD AV.len ty cs)
 | .oba _ es ty cs=>some (Ln AV.len es ty cs)
 | a=>match a.ob with | some (_,ty,gs)=>some (cD AV.len ty gs) | none=>none
def uB (d:Nat):List AV->Bool
 | []=>true
 | a::r=>match Nat.blt a.dep d with | true=>uB d r | false=>false
def AV.okD:AV->Bool
 | .obj d _ cs=>match Nat.blt 0 d,Nat.ble d 6,uB d (bP cs) with | true,true,true=>true | _,_,_=>false
 | .oba d _ _ cs=>match Nat.blt 0 d,Nat.ble d 6,uB d (bP cs) with | true,true,true=>true | _,_,_=>false
 | _=>true
theorem oq {d:Nat}:∀{l:List AV},uB d l=true->∀a∈l,a.dep < d
 | [],_,a,h=>by cases h
 | b::r,h,a,ha=>by
   simp only [uB] at h
   split at h
   ·rename_i hb
    rcases List.mem_cons.1 ha with rfl | ha
    ·exact(b4 _ _).1 hb
    ·exact oq h a ha
   ·cases h
def ji (k:Nat) (σ:Sg) (a:AV):Option (Hp AV):=match Nat.beq a.dep k with
 | true=>ia σ a
 | false=>none
theorem aP {k:Nat} {σ:Sg} {a:AV} (h:a.dep≠k):ji k σ a=none:=by
 unfold ji;rw [(aD _ _).2 h]
theorem layK_eq {k:Nat} {σ:Sg} {a:AV} (h:a.dep=k):ji k σ a=ia σ a:=by
 unfold ji;rw [(af _ _).2 h]
theorem eR {a:AV} {i e o:Nat} {cs:List Cell} {b:Bool} {a':AV} (h:a.upd i e o cs=some (b,a')):a.dep=0 /\ a'.dep=0:=by
 unfold AV.upd at h
 split at h
 all_goals first
  | (cases h;done)
  | (split at h
     ·simp only [Option.some.injEq,Prod.mk.injEq] at h
      have h:=h.2
      subst h
      exact⟨rfl,rfl⟩
     ·cases h)
  | (split at h
     ·simp only [Option.some.injEq,Prod.mk.injEq] at h
      have h:=h.2
      subst h
      exact⟨rfl,rfl⟩
     ·split at h
      ·simp only [Option.some.injEq,Prod.mk.injEq] at h
       have h:=h.2
       subst h
       exact⟨rfl,rfl⟩
      ·cases h)
theorem mL {a:AV} {x:Nat×TypeId×List Value} (h:a.arr=some x):a.dep=0:=by cases a<;>first | rfl | cases h
theorem mi {a:AV} {i e:Nat} {x:Bool×List Cell} (h:a.row i e=some x):a.dep=0:=by cases a<;>first | rfl | cases h
theorem mm {a:AV} {i e o n:Nat} {x:Bool×List Cell} (h:a.prt i e o n=some x):a.dep=0:=by cases a<;>first | rfl | cases h
theorem jJ {σ:Sg} {a:AV} {cs:List Cell} (h:a.word σ=some cs):a.dep=0:=by cases a<;>first | rfl | cases h
theorem Lv (σ:Sg):LayOk (avF σ) (ji 1 σ) where
 arr:=fun a x h=>aP (by rw [mL h];decide)
 row:=fun a i e x h=>aP (by rw [mi h];decide)
 prt:=fun a i e o n x h=>aP (by rw [mm h];decide)
 upd:=fun a i e o cs b a' h=>⟨aP (by rw [(eR h).1];decide),aP (by rw [(eR h).2];decide)⟩
 word:=fun a cs h=>aP (by rw [jJ h];decide)
def F1 (σ:Sg):Intf AV:=(avF σ).obj (ji 1 σ) (Lv σ)
theorem Lu (σ:Sg):LayOk (F1 σ) (ji 2 σ) where
 arr:=fun a x h=>aP (by rw [mL h];decide)
 row:=fun a i e x h=>aP (by rw [mi h];decide)
 prt:=fun a i e o n x h=>aP (by rw [mm h];decide)
 upd:=fun a i e o cs b a' h=>⟨aP (by rw [(eR h).1];decide),aP (by rw [(eR h).2];decide)⟩
 word:=fun a cs h=>aP (by rw [jJ h];decide)
def F2 (σ:Sg):Intf AV:=(F1 σ).obj (ji 2 σ) (Lu σ)
theorem Lt (σ:Sg):LayOk (F2 σ) (ji 3 σ) where
 arr:=fun a x h=>aP (by rw [mL h];decide)
 row:=fun a i e x h=>aP (by rw [mi h];decide)
 prt:=fun a i e o n x h=>aP (by rw [mm h];decide)
 upd:=fun a i e o cs b a' h=>⟨aP (by rw [(eR h).1];decide),aP (by rw [(eR h).2];decide)⟩
 word:=fun a cs h=>aP (by rw [jJ h];decide)
def F3 (σ:Sg):Intf AV:=(F2 σ).obj (ji 3 σ) (Lt σ)
theorem Lr (σ:Sg):LayOk (F3 σ) (ji 4 σ) where
 arr:=fun a x h=>aP (by rw [mL h];decide)
 row:=fun a i e x h=>aP (by rw [mi h];decide)
 prt:=fun a i e o n x h=>aP (by rw [mm h];decide)
 upd:=fun a i e o cs b a' h=>⟨aP (by rw [(eR h).1];decide),aP (by rw [(eR h).2];decide)⟩
 word:=fun a cs h=>aP (by rw [jJ h];decide)
def F4 (σ:Sg):Intf AV:=(F3 σ).obj (ji 4 σ) (Lr σ)
theorem Lq (σ:Sg):LayOk (F4 σ) (ji 5 σ) where
 arr:=fun a x h=>aP (by rw [mL h];decide)
 row:=fun a i e x h=>aP (by rw [mi h];decide)
 prt:=fun a i e o n x h=>aP (by rw [mm h];decide)
 upd:=fun a i e o cs b a' h=>⟨aP (by rw [(eR h).1];decide),aP (by rw [(eR h).2];decide)⟩
 word:=fun a cs h=>aP (by rw [jJ h];decide)
def F5 (σ:Sg):Intf AV:=(F4 σ).obj (ji 5 σ) (Lq σ)
theorem Lo (σ:Sg):LayOk (F5 σ) (ji 6 σ) where
 arr:=fun a x h=>aP (by rw [mL h];decide)
 row:=fun a i e x h=>aP (by rw [mi h];decide)
 prt:=fun a i e o n x h=>aP (by rw [mm h];decide)
 upd:=fun a i e o cs b a' h=>⟨aP (by rw [(eR h).1];decide),aP (by rw [(eR h).2];decide)⟩
 word:=fun a cs h=>aP (by rw [jJ h];decide)
def F6 (σ:Sg):Intf AV:=(F5 σ).obj (ji 6 σ) (Lo σ)
section
variable {σ:Sg} {a:AV} (l:Sx.Loc) (S:Nat->Prop) (w:World)
theorem rA (h:a.dep≠6):(F6 σ).q a l S w↔(F5 σ).q a l S w:=ca (aP h) l S w
theorem vb (h:a.dep≠5):(F5 σ).q a l S w↔(F4 σ).q a l S w:=ca (aP h) l S w
theorem zx (h:a.dep≠4):(F4 σ).q a l S w↔(F3 σ).q a l S w:=ca (aP h) l S w
theorem EG (h:a.dep≠3):(F3 σ).q a l S w↔(F2 σ).q a l S w:=ca (aP h) l S w
theorem K0 (h:a.dep≠2):(F2 σ).q a l S w↔(F1 σ).q a l S w:=ca (aP h) l S w
theorem Rz (h:a.dep≠1):(F1 σ).q a l S w↔AV.q σ a l S w:=ca (aP h) l S w
theorem T6 (h:a.dep=0):(F6 σ).q a l S w↔AV.q σ a l S w:=(rA l S w (by omega)).trans ((vb l S w (by omega)).trans ((zx l S w (by omega)).trans ((EG l S w (by omega)).trans ((K0 l S w (by omega)).trans (Rz l S w (by omega))))))
end
theorem Cc {σ:Sg} {m:PlotM} {i:Nat} {a:AV} (h:hget (lQ σ m) i=some (.abs a)):a.dep=0:=by
 match i,h with
 | 0,h=>simp [lQ,hget] at h
 | 1,h=>simp only [lQ,hget,Option.some.injEq,Chunk.abs.injEq] at h;subst h;rfl
 | 2,h=>simp only [lQ,hget,Option.some.injEq,Chunk.abs.injEq] at h;subst h;rfl
 | 3,h=>simp only [lQ,hget,Option.some.injEq,Chunk.abs.injEq] at h;subst h;rfl
 | i+4,h =>
   simp only [lQ,hget] at h
   cases hf:m.fault with
   | none=>rw [hf] at h;cases i<;>simp [hget,oc] at h
   | some x=>rw [hf] at h;cases i with
     | zero=>simp [hget,oc] at h
     | succ i=>cases i<;>simp [hget,oc] at h
theorem dK {a:AV} {d:Nat} {ty:TypeId} {gs:Gs} (h:a.ob=some (d,ty,gs)):0 < d /\ d<=6 /\ uB d (bP gs)=true:=by
 cases a<;>first | (cases h;done) | skip
 all_goals cases h
 ·exact⟨by decide,by decide,rfl⟩
 ·exact⟨by decide,by decide,rfl⟩
 ·exact⟨by decide,by decide,rfl⟩
 ·exact⟨by decide,by decide,rfl⟩
 ·rename_i m
  refine⟨by decide,by decide,?_⟩
  obtain⟨_,_,_,_,_,w,_,_⟩:=m
  cases w<;>rfl
 ·exact⟨by decide,by decide,rfl⟩
 ·rename_i m
  refine⟨by decide,by decide,?_⟩
  obtain⟨_,_,_,w,_,_,_,_⟩:=m
  cases w<;>rfl
 ·rename_i m
  refine⟨by decide,by decide,?_⟩
  obtain⟨_,_,_,_,_,_,_,_,_,_,w,l,_,_⟩:=m
  cases w<;>cases l<;>rfl
 ·rename_i m
  refine⟨by decide,by decide,?_⟩
  obtain⟨_,_,_,_,_,_,j,_⟩:=m
  cases j with
  | none=>rfl
  | some j=>cases j<;>rfl
 ·exact⟨by decide,by decide,rfl⟩
theorem ee {d:Nat} {ty:TypeId} {gs:Gs} (hd:uB d (bP gs)=true) {i:Nat} {b:AV} (h:hget (cD AV.len ty gs) i=some (.abs b)):b.dep < d:=by
 cases i with
 | zero=>simp [cD,hget] at h
 | succ i =>
   obtain⟨c,hc,e⟩:=(aW _ _ _).1 (show hget (bq (bP gs)) i=some (.abs b) from h)
   cases e
   exact oq hd b (List.mem_of_getElem? hc)
theorem Cb {σ:Sg} {a:AV} {K:Hp AV} (hK:ia σ a=some K) (ho:a.okD=true) {i:Nat} {b:AV} (h:hget K i=some (.abs b)):b.dep < a.dep:=by
 cases a with
 | plot m =>
   cases hK
   rw [Cc h];show 0 < 1;decide
 | obj d ty cs =>
   cases hK
   simp only [AV.okD] at ho
   split at ho
   ·rename_i h3
    exact ee h3 h
   ·cases ho
 | oba d es ty cs =>
   cases hK
   simp only [AV.okD] at ho
   split at ho
   ·rename_i h3
    cases i with
    | zero=>simp [Ln,hget] at h
    | succ i =>
      obtain⟨c,hc,e⟩:=(aW _ _ _).1 (show hget (bq (bP cs)) i=some (.abs b) from h)
      cases e
      exact oq h3 b (List.mem_of_getElem? hc)
   ·cases ho
 | rite m=>cases hK;exact ee (dK (a:=.rite m) rfl).2.2 h
 | pile m=>cases hK;exact ee (dK (a:=.pile m) rfl).2.2 h
 | cort m=>cases hK;exact ee (dK (a:=.cort m) rfl).2.2 h
 | walk m=>cases hK;exact ee (dK (a:=.walk m) rfl).2.2 h
 | lit m=>cases hK;exact ee (dK (a:=.lit m) rfl).2.2 h
 | climb m=>cases hK;exact ee (dK (a:=.climb m) rfl).2.2 h
 | ste m=>cases hK;exact ee (dK (a:=.ste m) rfl).2.2 h
 | vau m=>cases hK;exact ee (dK (a:=.vau m) rfl).2.2 h
 | ver m=>cases hK;exact ee (dK (a:=.ver m) rfl).2.2 h
 | par m=>cases hK;exact ee (dK (a:=.par m) rfl).2.2 h
 | _=>cases hK
theorem IB {σ:Sg} {a:AV} {K:Hp AV} (hK:ia σ a=some K) (ho:a.okD=true):a.dep=1 \/ a.dep=2 \/ a.dep=3 \/ a.dep=4 \/ a.dep=5 \/ a.dep=6:=by
 have key:0 < a.dep /\ a.dep<=6:=by
  cases a with
  | plot m=>show 0 < 1 /\ 1<=6;decide
  | obj d ty cs =>
    simp only [AV.okD] at ho
    split at ho
    ·rename_i h1 h2 _
     exact⟨(b4 _ _).1 h1,Nat.le_of_ble_eq_true h2⟩
    ·cases ho
  | oba d es ty cs =>
    simp only [AV.okD] at ho
    split at ho
    ·rename_i h1 h2 _
     exact⟨(b4 _ _).1 h1,Nat.le_of_ble_eq_true h2⟩
    ·cases ho
  | rite m=>show 0 < 1 /\ 1<=6;decide
  | pile m=>show 0 < 1 /\ 1<=6;decide
  | cort m=>show 0 < 1 /\ 1<=6;decide
  | walk m=>show 0 < 1 /\ 1<=6;decide
  | lit m=>show 0 < 2 /\ 2<=6;decide
  | climb m=>show 0 < 1 /\ 1<=6;decide
  | ste m=>show 0 < 2 /\ 2<=6;decide
  | vau m=>show 0 < 3 /\ 3<=6;decide
  | ver m=>show 0 < 4 /\ 4<=6;decide
  | par m=>show 0 < 6 /\ 6<=6;decide
  | _=>cases hK
 omega
theorem jW {σ:Sg} {N:Env AV} (hF:N.F=F6 σ) {a:AV} {K:Hp AV} (hK:ia σ a=some K) (ho:a.okD=true) (l:Sx.Loc) (S:Nat->Prop) (w:World):N.F.q a l S w↔fI N K l S w:=by
 have parts:=fun i b h=>Cb (i:=i) (b:=b) hK ho h
 have go:∀(F:Intf AV),(∀b,b.dep < a.dep->∀l S w,F.q b l S w↔(F6 σ).q b l S w)->(fI (vo F) K l S w↔fI N K l S w):=fun F hb=>by
  constructor
  ·exact wh (N:=vo F) (N':=N) fun i b h l S w hq=>by rw [hF];exact(hb b (parts i b h) l S w).1 hq
  ·exact wh (N:=N) (N':=vo F) fun i b h l S w hq=>by rw [hF] at hq;exact(hb b (parts i b h) l S w).2 hq
 rw [hF]
 rcases IB hK ho with h1 | h2 | h3 | h4 | h5 | h6
 ·have e:(F1 σ).q a l S w↔fI (vo (avF σ)) K l S w:=by
   show lI (avF σ) (ji 1 σ) a l S w↔_
   unfold lI
   rw [layK_eq h1,hK]
  exact((rA l S w (by omega)).trans ((vb l S w (by omega)).trans ((zx l S w (by omega)).trans ((EG l S w (by omega)).trans (K0 l S w (by omega)))))).trans (e.trans (go _ fun b hb l S w=>((rA l S w (by omega)).trans ((vb l S w (by omega)).trans ((zx l S w (by omega)).trans ((EG l S w (by omega)).trans ((K0 l S w (by omega)).trans (Rz l S w (by omega))))))).symm))
 ·have e:(F2 σ).q a l S w↔fI (vo (F1 σ)) K l S w:=by
   show lI (F1 σ) (ji 2 σ) a l S w↔_
   unfold lI
   rw [layK_eq h2,hK]
  exact((rA l S w (by omega)).trans ((vb l S w (by omega)).trans ((zx l S w (by omega)).trans (EG l S w (by omega))))).trans (e.trans (go _ fun b hb l S w=>((rA l S w (by omega)).trans ((vb l S w (by omega)).trans ((zx l S w (by omega)).trans ((EG l S w (by omega)).trans (K0 l S w (by omega)))))).symm))
 ·have e:(F3 σ).q a l S w↔fI (vo (F2 σ)) K l S w:=by
   show lI (F2 σ) (ji 3 σ) a l S w↔_
   unfold lI
   rw [layK_eq h3,hK]
  exact((rA l S w (by omega)).trans ((vb l S w (by omega)).trans (zx l S w (by omega)))).trans (e.trans (go _ fun b hb l S w=>((rA l S w (by omega)).trans ((vb l S w (by omega)).trans ((zx l S w (by omega)).trans (EG l S w (by omega))))).symm))
 ·have e:(F4 σ).q a l S w↔fI (vo (F3 σ)) K l S w:=by
   show lI (F3 σ) (ji 4 σ) a l S w↔_
   unfold lI
   rw [layK_eq h4,hK]
  exact((rA l S w (by omega)).trans (vb l S w (by omega))).trans (e.trans (go _ fun b hb l S w=>((rA l S w (by omega)).trans ((vb l S w (by omega)).trans (zx l S w (by omega)))).symm))
 ·have e:(F5 σ).q a l S w↔fI (vo (F4 σ)) K l S w:=by
   show lI (F4 σ) (ji 5 σ) a l S w↔_
   unfold lI
   rw [layK_eq h5,hK]
  exact(rA l S w (by omega)).trans (e.trans (go _ fun b hb l S w=>((rA l S w (by omega)).trans (vb l S w (by omega))).symm))
 ·have e:(F6 σ).q a l S w↔fI (vo (F5 σ)) K l S w:=by
   show lI (F5 σ) (ji 6 σ) a l S w↔_
   unfold lI
   rw [layK_eq h6,hK]
  exact(e.trans (go _ fun b hb l S w=>(rA l S w (by omega)).symm))
def exW:AV->Option (List W) | .words l=>some l | _=>none
def exS:AV->Option (List Sl) | .slots l=>some l | _=>none
def exI:AV->Option (List N1) | .ints l=>some l | _=>none
def qe:List Nat->Bool
 | []=>true
 | x::r=>match hasN r x with | true=>false | false=>qe r
theorem gJ:∀{l:List Nat},qe l=true->l.Nodup
 | [],_=>List.nodup_nil
 | x::r,h=>by
   simp only [qe] at h
   split at h
   ·cases h
   ·rename_i hx
    exact List.nodup_cons.2 ⟨(fun e=>by rw [(cF _ _).2 e] at hx;cases hx),gJ h⟩
def DK (σ:Sg) (H:Hp AV):Cell->Option (Option (Int×Nat)×Bool×Option Nat)
 | .inil=>some (none,true,none)
 | .ifc t (.ptr m 0)=>match hget H m with
   | some (.cells [c,.ifc t2 (.op i a)] ty)=>match iOf c,Nat.beq t Nx,Nat.beq t2 C2,Nat.beq ty Kx with
     | some k,true,true,true=>some (some (k,i),decide (a=σ i),some m)
     | _,_,_,_=>none
   | _=>none
 | _=>none
def N4 (lb ls lf:Nat) (m:PlotM) (ok:Bool) (ns:List Nat):T (AV×List Nat) :=
 .need (decide (lb=m.board.length)) <| .need (decide (ls=m.slots.length)) <| .need (decide (lf=m.free.length)) <| .need ok <| .leaf (.plot m,ns)
def FT (σ:Sg) (H:Hp AV) (n:Nat):T (AV×List Nat):=match hget H n with
 | some (.cells [c0,c1,c2,c3,c4,c5] ty)=>match Nat.beq ty y8,xx kwords exW H c0,xx kslots exS H c1,xx kints exI H c2,iOf c3,iOf c4,DK σ H c5 with
   | true,some (b,lb,nb),some (s,ls,ns),some (f,lf,nf),some st,some md,some (ft,ok,nk)=>match qe (n::cr [nb,ns,nf,nk]) with
     | true=>N4 lb ls lf ⟨b,s,f,st,md,ft⟩ ok (cr [nb,ns,nf,nk])
     | false=>.fail "plot: names"
   | _,_,_,_,_,_,_=>.fail "plot: parts"
 | _=>.fail "plot"
variable {N:Env AV}
theorem kS {σ:Sg} (hF:N.F=F6 σ) {a:AV} (h:a.dep=0) (l:Sx.Loc) (S:Nat->Prop) (w:World):N.F.q a l S w↔AV.q σ a l S w:=by
 rw [hF];exact T6 l S w h
theorem aM {c:Cell} {n:Int} (h:iOf c=some n) (ρ:Nm):c.den ρ=.int .i64 n:=by
 obtain⟨h1,h2⟩:=aS h
 rw [<- h1]
 exact den_congr c fun m hm=>by rw [h2] at hm;cases hm
theorem FR {σ:Sg} (hF:N.F=F6 σ):uZ N (FT σ):=by
 intro H n a ns0 h ρ w hO
 unfold FT at h
 split at h
 ·rename_i c0 c1 c2 c3 c4 c5 ty hH
  split at h
  ·rename_i b lb nb s ls ns f lf nf st md ft ok nk hty h0 h1 h2 h3 h4 h5
   split at h
   ·rename_i hnd
    have hnd:=gJ hnd
    unfold N4 at h
    obtain⟨e1,h⟩:=ah h
    obtain⟨e2,h⟩:=ah h
    obtain⟨e3,h⟩:=ah h
    obtain⟨e4,h⟩:=ah h
    simp only [T.val,Option.some.injEq,Prod.mk.injEq] at h
    obtain⟨rfl,rfl⟩:=h
    have hty:=(af _ _).1 hty
    subst hty
    obtain⟨l1,S1,d1,q1,p1⟩:=pK (N:=N) (fun a l ha lc S w hq=>by cases a<;>first | (cases ha;done) | (cases ha;exact(kS hF rfl _ _ _).1 hq)) h0 (of_decide_eq_true e1) hO
    obtain⟨l2,S2,d2,q2,p2⟩:=pK (N:=N) (fun a l ha lc S w hq=>by cases a<;>first | (cases ha;done) | (cases ha;exact(kS hF rfl _ _ _).1 hq)) h1 (of_decide_eq_true e2) hO
    obtain⟨l3,S3,d3,q3,p3⟩:=pK (N:=N) (fun a l ha lc S w hq=>by cases a<;>first | (cases ha;done) | (cases ha;exact(kS hF rfl _ _ _).1 hq)) h2 (of_decide_eq_true e3) hO
    have hn0:=hO.q n _ hH
    have hk:∃l4:Sx.Loc,∃S4:Nat->Prop,c5.den ρ=(yw ft).den ⟨fun _=>l4,fun _ _=>False⟩ /\ (∀k i,ft=some (k,i)->w.heap[l4.b]?=some (.cells (ae ρ [.it .i64 k,.ifc C2 (.op i (σ i))]).toArray Kx (0,0)) /\ ∃m d,nk=some m /\ hget H m=some d /\ (∀k,k=l4.b↔d.fp ρ m k)) /\ (ft=none->nk=none):=by
     unfold DK at h5
     split at h5
     ·cases h5
      exact⟨⟨0,0,0⟩,fun _=>False,rfl,fun k i e=>(by cases e),fun _=>rfl⟩
     ·rename_i t m
      split at h5
      ·rename_i c t2 i ad ty2 hm
       split at h5
       ·rename_i k hk1 ht1 ht2 ht3
        have ht1:=(af _ _).1 ht1
        have ht2:=(af _ _).1 ht2
        have ht3:=(af _ _).1 ht3
        subst ht1 ht2 ht3
        simp only [Option.some.injEq,Prod.mk.injEq] at h5
        obtain⟨rfl,rfl,rfl⟩:=h5
        have ead:=of_decide_eq_true e4
        subst ead
        have hm0:=hO.q m _ hm
        refine⟨ρ.L m,fun k=>k=(ρ.L m).b,rfl,fun k' i' e=>?_,fun e=>by cases e⟩
        cases e
        refine⟨?_,m,_,rfl,hm,fun k=>Iff.rfl⟩
        have hm0:w.heap[ρ m]?=some (.cells (ae ρ [c,.ifc C2 (.op i (σ i))]).toArray Kx (0,0)):=hm0
        rw [hm0]
        simp only [ae,List.map_cons,List.map_nil,aM hk1 ρ]
        rfl
       ·cases h5
      ·cases h5
     ·cases h5
    obtain⟨l4,S4,d4,f1,f2⟩:=hk
    have hq:fI N (lQ σ ⟨b,s,f,st,md,ft⟩) (ρ.L n) (dy ρ H n (cr [nb,ns,nf,nk])) w:=by
     let ρ0:Nm:=⟨fun i=>match i with | 0=>ρ.L n | 1=>l1 | 2=>l2 | 3=>l3 | _=>l4,fun i=>match i with | 1=>S1 | 2=>S2 | 3=>S3 | _=>fun _=>False⟩
     have hfc:(yw ft).den ρ0=c5.den ρ:=by
      rw [d4]
      cases ft with
      | none=>rfl
      | some x=>rfl
     refine p9 hO ρ0 hnd (fun i m hi=>?_) (fun i c hc=>?_)
     ·match i,hi with
      | 0,_=>exact⟨_,rfl⟩
      | 1,_=>exact⟨_,rfl⟩
      | 2,_=>exact⟨_,rfl⟩
      | 3,_=>exact⟨_,rfl⟩
      | 4,hi =>
        have hi:nk=some m:=by simpa using hi
        cases ft with
        | none=>rw [f2 rfl] at hi;cases hi
        | some x=>exact⟨_,rfl⟩
      | i+5,hi=>simp at hi
     ·match i,hc with
      | 0,hc =>
        simp only [lQ,hget,Option.some.injEq] at hc
        subst hc
        refine⟨?_,some n,rfl,_,hH,fun k=>Iff.rfl⟩
        have hn0:w.heap[ρ n]?=some (.cells (ae ρ [c0,c1,c2,c3,c4,c5]).toArray y8 (0,0)):=hn0
        show w.heap[ρ n]?=some (.cells (ae ρ0 [.vs 1 0 b.length 5 false,.vs 2 0 s.length 52 false,.vs 3 0 f.length 1 false,.it .i64 st,.it .i64 md,yw ft]).toArray y8 (0,0))
        rw [hn0]
        simp only [ae,List.map_cons,List.map_nil,aM h3 ρ,aM h4 ρ,hfc,d1,d2,d3]
        rfl
      | 1,hc =>
        simp only [lQ,hget,Option.some.injEq] at hc
        subst hc
        exact⟨(kS hF rfl _ _ _).2 q1,nb,rfl,p1⟩
      | 2,hc =>
        simp only [lQ,hget,Option.some.injEq] at hc
        subst hc
        exact⟨(kS hF rfl _ _ _).2 q2,ns,rfl,p2⟩
      | 3,hc =>
        simp only [lQ,hget,Option.some.injEq] at hc
        subst hc
        exact⟨(kS hF rfl _ _ _).2 q3,nf,rfl,p3⟩
      | i+4,hc =>
        cases ft with
        | none=>cases i<;>simp [lQ,hget,oc] at hc
        | some x =>
          obtain⟨k,j⟩:=x
          obtain⟨g1,m,d,g2,g3,g4⟩:=f1 k j rfl
          cases i with
          | succ i=>cases i<;>simp [lQ,hget,oc] at hc
          | zero =>
            simp only [lQ,hget,oc,Option.some.injEq] at hc
            subst hc
            exact⟨g1,some m,by rw [<- g2];rfl,d,g3,g4⟩
    exact(jW hF (a:=.plot ⟨b,s,f,st,md,ft⟩) rfl rfl (ρ.L n) (dy ρ H n (cr [nb,ns,nf,nk])) w).2 hq
   ·simp [T.val] at h
  ·simp [T.val] at h
 ·simp [T.val] at h
end Go.Proofs.YtcpdipfepeccgaaGreatDoor
