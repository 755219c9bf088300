import Derived.Test.YtadmfaohjnjajaaGreatDoorSxAr
import Derived.Test.YtadmfaohjnjajaaGreatDoorSxM
import Derived.Test.YtadmfaohjnjajaaGreatDoorChecked
import Derived.WalkKit
import Derived.LaidEql
import Derived.Stop.Asserts
import Derived.RowKitTokens
import Derived.Test.YtadmfaohjnjajaaGreatDoorSxT
import Derived.Test.YtadmfaohjnjajaaGreatDoorSxOf
set_option linter.unusedVariables false
set_option linter.unusedSimpArgs false
set_option maxHeartbeats 0
set_option maxRecDepth 100000
namespace Go.Sx
def j6:Cell->Option Int
 | .il .i64 n=>some n
 | .it .i64 n=>some n
 | .iv .i64 n _ _=>some n
 | .ir .i64 n _ _ _=>some n
 | _=>none
def YN:Cell->Option Bool
 | .bl b=>some b
 | .bt b=>some b
 | _=>none
theorem cL {c:Cell} {n:Int} (h:j6 c=some n):c.aq Nm.id=.int .i64 n /\ c.name=none:=by
 unfold j6 at h
 split at h<;>cases h<;>exact⟨rfl,rfl⟩
theorem mI {c:Cell} {n:Bool} (h:YN c=some n):c.aq Nm.id=.bool n /\ c.name=none:=by
 unfold YN at h
 split at h<;>cases h<;>exact⟨rfl,rfl⟩
structure W where
 af:Int
 gen:Int
 tag:Int
 bS:Int
 mark:Bool
deriving DecidableEq,Inhabited
def W.bx (a:W):List Cell:=[.it .i64 a.af,.it .i64 a.gen,.it .i64 a.tag,.it .i64 a.bS,.bt a.mark]
def W.iM:List Cell->Option W
 | [c0,c1,c2,c3,c4]=>(j6 c0).bind fun x0=>(j6 c1).bind fun x1=>(j6 c2).bind fun x2=>(j6 c3).bind fun x3=>(YN c4).bind fun x4=>some ⟨x0,x1,x2,x3,x4⟩
 | _=>none
theorem W.gy (cs:List Cell) (a:W) (h:W.iM cs=some a):aA Nm.id a.bx=aA Nm.id cs /\ ∀c∈cs,c.name=none:=by
 unfold W.iM at h
 split at h
 ·rename_i c0 c1 c2 c3 c4
  obtain⟨x0,h0,h⟩:=abi.1 h
  have h0:=cL h0
  obtain⟨x1,h1,h⟩:=abi.1 h
  have h1:=cL h1
  obtain⟨x2,h2,h⟩:=abi.1 h
  have h2:=cL h2
  obtain⟨x3,h3,h⟩:=abi.1 h
  have h3:=cL h3
  obtain⟨x4,h4,h⟩:=abi.1 h
  have h4:=mI h4
  cases h
  refine⟨by simp [W.bx,aA,Cell.aq,h0.1,h1.1,h2.1,h3.1,h4.1],fun c hc=>?_⟩
  simp only [abk,abo,or_false] at hc
  rcases hc with rfl | rfl | rfl | rfl | rfl
  ·exact h0.2
  ·exact h1.2
  ·exact h2.2
  ·exact h3.2
  ·exact h4.2
 ·cases h
def W.ak (ty:TypeId):AK W:=⟨5,by decide,ty,W.bx,fun _=>rfl,fun a c hc=>(by simp only [W.bx,abk,abo,or_false] at hc;rcases hc with rfl | rfl | rfl | rfl | rfl<;>rfl),W.iM,W.gy,⟨0,0,0,0,false⟩⟩
structure N1 where
 val:Int
deriving DecidableEq,Inhabited
def N1.bx (a:N1):List Cell:=[.it .i64 a.val]
def N1.iM:List Cell->Option N1
 | [c0]=>(j6 c0).bind fun x0=>some ⟨x0⟩
 | _=>none
theorem N1.gy (cs:List Cell) (a:N1) (h:N1.iM cs=some a):aA Nm.id a.bx=aA Nm.id cs /\ ∀c∈cs,c.name=none:=by
 unfold N1.iM at h
 split at h
 ·rename_i c0
  obtain⟨x0,h0,h⟩:=abi.1 h
  have h0:=cL h0
  cases h
  refine⟨by simp [N1.bx,aA,Cell.aq,h0.1],fun c hc=>?_⟩
  simp only [abk,abo,or_false] at hc
  subst hc
  exact h0.2
 ·cases h
def N1.ak (ty:TypeId):AK N1:=⟨1,by decide,ty,N1.bx,fun _=>rfl,fun a c hc=>(by simp only [N1.bx,abk,abo,or_false] at hc;subst hc;rfl),N1.iM,N1.gy,⟨0⟩⟩
structure Nt where
 af:Int
 gen:Int
 tag:Int
 bS:Int
 mark:Bool
 zv:Int
 BM:Int
deriving DecidableEq,Inhabited
def Nt.bx (a:Nt):List Cell:=[.it .i64 a.af,.it .i64 a.gen,.it .i64 a.tag,.it .i64 a.bS,.bt a.mark,.it .i64 a.zv,.it .i64 a.BM]
def Nt.iM:List Cell->Option Nt
 | [c0,c1,c2,c3,c4,c5,c6]=>(j6 c0).bind fun x0=>(j6 c1).bind fun x1=>(j6 c2).bind fun x2=>(j6 c3).bind fun x3=>(YN c4).bind fun x4=>(j6 c5).bind fun x5=>(j6 c6).bind fun x6=>some ⟨x0,x1,x2,x3,x4,x5,x6⟩
 | _=>none
theorem Nt.gy (cs:List Cell) (a:Nt) (h:Nt.iM cs=some a):aA Nm.id a.bx=aA Nm.id cs /\ ∀c∈cs,c.name=none:=by
 unfold Nt.iM at h
 split at h
 ·rename_i c0 c1 c2 c3 c4 c5 c6
  obtain⟨x0,h0,h⟩:=abi.1 h
  have h0:=cL h0
  obtain⟨x1,h1,h⟩:=abi.1 h
  have h1:=cL h1
  obtain⟨x2,h2,h⟩:=abi.1 h
  have h2:=cL h2
  obtain⟨x3,h3,h⟩:=abi.1 h
  have h3:=cL h3
  obtain⟨x4,h4,h⟩:=abi.1 h
  have h4:=mI h4
  obtain⟨x5,h5,h⟩:=abi.1 h
  have h5:=cL h5
  obtain⟨x6,h6,h⟩:=abi.1 h
  have h6:=cL h6
  cases h
  refine⟨by simp [Nt.bx,aA,Cell.aq,h0.1,h1.1,h2.1,h3.1,h4.1,h5.1,h6.1],fun c hc=>?_⟩
  simp only [abk,abo,or_false] at hc
  rcases hc with rfl | rfl | rfl | rfl | rfl | rfl | rfl
  ·exact h0.2
  ·exact h1.2
  ·exact h2.2
  ·exact h3.2
  ·exact h4.2
  ·exact h5.2
  ·exact h6.2
 ·cases h
def Nt.ak (ty:TypeId):AK Nt:=⟨7,by decide,ty,Nt.bx,fun _=>rfl,fun a c hc=>(by simp only [Nt.bx,abk,abo,or_false] at hc;rcases hc with rfl | rfl | rfl | rfl | rfl | rfl | rfl<;>rfl),Nt.iM,Nt.gy,⟨0,0,0,0,false,0,0⟩⟩
structure O where
 aj:Int
 key:Int
 val:Int
 bO:Int
deriving DecidableEq,Inhabited
def O.bx (a:O):List Cell:=[.it .i64 a.aj,.it .i64 a.key,.it .i64 a.val,.it .i64 a.bO]
def O.iM:List Cell->Option O
 | [c0,c1,c2,c3]=>(j6 c0).bind fun x0=>(j6 c1).bind fun x1=>(j6 c2).bind fun x2=>(j6 c3).bind fun x3=>some ⟨x0,x1,x2,x3⟩
 | _=>none
theorem O.gy (cs:List Cell) (a:O) (h:O.iM cs=some a):aA Nm.id a.bx=aA Nm.id cs /\ ∀c∈cs,c.name=none:=by
 unfold O.iM at h
 split at h
 ·rename_i c0 c1 c2 c3
  obtain⟨x0,h0,h⟩:=abi.1 h
  have h0:=cL h0
  obtain⟨x1,h1,h⟩:=abi.1 h
  have h1:=cL h1
  obtain⟨x2,h2,h⟩:=abi.1 h
  have h2:=cL h2
  obtain⟨x3,h3,h⟩:=abi.1 h
  have h3:=cL h3
  cases h
  refine⟨by simp [O.bx,aA,Cell.aq,h0.1,h1.1,h2.1,h3.1],fun c hc=>?_⟩
  simp only [abk,abo,or_false] at hc
  rcases hc with rfl | rfl | rfl | rfl
  ·exact h0.2
  ·exact h1.2
  ·exact h2.2
  ·exact h3.2
 ·cases h
def O.ak (ty:TypeId):AK O:=⟨4,by decide,ty,O.bx,fun _=>rfl,fun a c hc=>(by simp only [O.bx,abk,abo,or_false] at hc;rcases hc with rfl | rfl | rfl | rfl<;>rfl),O.iM,O.gy,⟨0,0,0,0⟩⟩
structure Bt where
 afl:Int
 ahX:Bool
 aj:Int
 key:Int
 val:Int
 bO:Int
 real:Bool
 arU:Bool
 Cd:Int
 asl:Int
deriving DecidableEq,Inhabited
def Bt.bx (a:Bt):List Cell:=[.it .i64 a.afl,.bt a.ahX,.it .i64 a.aj,.it .i64 a.key,.it .i64 a.val,.it .i64 a.bO,.bt a.real,.bt a.arU,.it .i64 a.Cd,.it .i64 a.asl]
def Bt.iM:List Cell->Option Bt
 | [c0,c1,c2,c3,c4,c5,c6,c7,c8,c9]=>(j6 c0).bind fun x0=>(YN c1).bind fun x1=>(j6 c2).bind fun x2=>(j6 c3).bind fun x3=>(j6 c4).bind fun x4=>(j6 c5).bind fun x5=>(YN c6).bind fun x6=>(YN c7).bind fun x7=>(j6 c8).bind fun x8=>(j6 c9).bind fun x9=>some ⟨x0,x1,x2,x3,x4,x5,x6,x7,x8,x9⟩
 | _=>none
theorem Bt.gy (cs:List Cell) (a:Bt) (h:Bt.iM cs=some a):aA Nm.id a.bx=aA Nm.id cs /\ ∀c∈cs,c.name=none:=by
 unfold Bt.iM at h
 split at h
 ·rename_i c0 c1 c2 c3 c4 c5 c6 c7 c8 c9
  obtain⟨x0,h0,h⟩:=abi.1 h
  have h0:=cL h0
  obtain⟨x1,h1,h⟩:=abi.1 h
  have h1:=mI h1
  obtain⟨x2,h2,h⟩:=abi.1 h
  have h2:=cL h2
  obtain⟨x3,h3,h⟩:=abi.1 h
  have h3:=cL h3
  obtain⟨x4,h4,h⟩:=abi.1 h
  have h4:=cL h4
  obtain⟨x5,h5,h⟩:=abi.1 h
  have h5:=cL h5
  obtain⟨x6,h6,h⟩:=abi.1 h
  have h6:=mI h6
  obtain⟨x7,h7,h⟩:=abi.1 h
  have h7:=mI h7
  obtain⟨x8,h8,h⟩:=abi.1 h
  have h8:=cL h8
  obtain⟨x9,h9,h⟩:=abi.1 h
  have h9:=cL h9
  cases h
  refine⟨by simp [Bt.bx,aA,Cell.aq,h0.1,h1.1,h2.1,h3.1,h4.1,h5.1,h6.1,h7.1,h8.1,h9.1],fun c hc=>?_⟩
  simp only [abk,abo,or_false] at hc
  rcases hc with rfl | rfl | rfl | rfl | rfl | rfl | rfl | rfl | rfl | rfl
  ·exact h0.2
  ·exact h1.2
  ·exact h2.2
  ·exact h3.2
  ·exact h4.2
  ·exact h5.2
  ·exact h6.2
  ·exact h7.2
  ·exact h8.2
  ·exact h9.2
 ·cases h
def Bt.ak (ty:TypeId):AK Bt:=⟨10,by decide,ty,Bt.bx,fun _=>rfl,fun a c hc=>(by simp only [Bt.bx,abk,abo,or_false] at hc;rcases hc with rfl | rfl | rfl | rfl | rfl | rfl | rfl | rfl | rfl | rfl<;>rfl),Bt.iM,Bt.gy,⟨0,false,0,0,0,0,false,false,0,0⟩⟩
structure Sp where
 is:Bool
 BD:Int
 Jy:Int
deriving DecidableEq,Inhabited
def Sp.bx (a:Sp):List Cell:=[.bt a.is,.it .i64 a.BD,.it .i64 a.Jy]
def Sp.iM:List Cell->Option Sp
 | [c0,c1,c2]=>(YN c0).bind fun x0=>(j6 c1).bind fun x1=>(j6 c2).bind fun x2=>some ⟨x0,x1,x2⟩
 | _=>none
theorem Sp.gy (cs:List Cell) (a:Sp) (h:Sp.iM cs=some a):aA Nm.id a.bx=aA Nm.id cs /\ ∀c∈cs,c.name=none:=by
 unfold Sp.iM at h
 split at h
 ·rename_i c0 c1 c2
  obtain⟨x0,h0,h⟩:=abi.1 h
  have h0:=mI h0
  obtain⟨x1,h1,h⟩:=abi.1 h
  have h1:=cL h1
  obtain⟨x2,h2,h⟩:=abi.1 h
  have h2:=cL h2
  cases h
  refine⟨by simp [Sp.bx,aA,Cell.aq,h0.1,h1.1,h2.1],fun c hc=>?_⟩
  simp only [abk,abo,or_false] at hc
  rcases hc with rfl | rfl | rfl
  ·exact h0.2
  ·exact h1.2
  ·exact h2.2
 ·cases h
def Sp.ak (ty:TypeId):AK Sp:=⟨3,by decide,ty,Sp.bx,fun _=>rfl,fun a c hc=>(by simp only [Sp.bx,abk,abo,or_false] at hc;rcases hc with rfl | rfl | rfl<;>rfl),Sp.iM,Sp.gy,⟨false,0,0⟩⟩
structure Pr where
 key:Int
 val:Int
deriving DecidableEq,Inhabited
def Pr.bx (a:Pr):List Cell:=[.it .i64 a.key,.it .i64 a.val]
def Pr.iM:List Cell->Option Pr
 | [c0,c1]=>(j6 c0).bind fun x0=>(j6 c1).bind fun x1=>some ⟨x0,x1⟩
 | _=>none
theorem Pr.gy (cs:List Cell) (a:Pr) (h:Pr.iM cs=some a):aA Nm.id a.bx=aA Nm.id cs /\ ∀c∈cs,c.name=none:=by
 unfold Pr.iM at h
 split at h
 ·rename_i c0 c1
  obtain⟨x0,h0,h⟩:=abi.1 h
  have h0:=cL h0
  obtain⟨x1,h1,h⟩:=abi.1 h
  have h1:=cL h1
  cases h
  refine⟨by simp [Pr.bx,aA,Cell.aq,h0.1,h1.1],fun c hc=>?_⟩
  simp only [abk,abo,or_false] at hc
  rcases hc with rfl | rfl
  ·exact h0.2
  ·exact h1.2
 ·cases h
def Pr.ak (ty:TypeId):AK Pr:=⟨2,by decide,ty,Pr.bx,fun _=>rfl,fun a c hc=>(by simp only [Pr.bx,abk,abo,or_false] at hc;rcases hc with rfl | rfl<;>rfl),Pr.iM,Pr.gy,⟨0,0⟩⟩
structure Sl where
 gen:Int
 used:Bool
 cells:List W
deriving DecidableEq,Inhabited
def W.zero:W:=⟨0,0,0,0,false⟩
def Sl.at (a:Sl) (i:Nat):W:=a.cells.getD i W.zero
def Sl.bx (a:Sl):List Cell:=.it .i64 a.gen::.bt a.used::((a.at 0).bx++((a.at 1).bx++((a.at 2).bx++((a.at 3).bx++((a.at 4).bx++((a.at 5).bx++((a.at 6).bx++((a.at 7).bx++((a.at 8).bx++((a.at 9).bx++[]))))))))))
def Sl.iM:List Cell->Option Sl
 | c0::c1::r=>(j6 c0).bind fun g=>(YN c1).bind fun u=>((W.ak 0).A6 10 r).bind fun l=>some ⟨g,u,l⟩
 | _=>none
theorem Mo {α:Type} (K:AK α):∀{n:Nat} {cs:List Cell} {l:List α},K.A6 n cs=some l->l.length=n
 | 0,[],l,h=>by simp only [AK.A6,aaC] at h;subst h;rfl
 | 0,_::_,l,h=>by simp [AK.A6] at h
 | n+1,cs,l,h=>by
   simp only [AK.A6] at h
   split at h
   ·cases h
   ·split at h
    ·rename_i hl
     cases h
     simp [Mo K hl]
    ·cases h
theorem Sl.enc_eq (g:Int) (u:Bool) (l:List W) (hl:l.length=10):aA Nm.id (Sl.bx ⟨g,u,l⟩)=.int .i64 g::.bool u::(W.ak 0).dC l:=by
 match l,hl with
 | [w0,w1,w2,w3,w4,w5,w6,w7,w8,w9],_=>rfl
theorem Sl.gy (cs:List Cell) (a:Sl) (h:Sl.iM cs=some a):aA Nm.id a.bx=aA Nm.id cs /\ ∀c∈cs,c.name=none:=by
 unfold Sl.iM at h
 split at h
 ·rename_i c0 c1 r
  obtain⟨x0,h0,h⟩:=abi.1 h
  have h0:=cL h0
  obtain⟨x1,h1,h⟩:=abi.1 h
  have h1:=mI h1
  obtain⟨l,h2,h⟩:=abi.1 h
  cases h
  obtain⟨v1,v2⟩:=(W.ak 0).zr h2
  refine⟨?_,fun c hc=>?_⟩
  ·rw [Sl.enc_eq _ _ _ (Mo _ h2),v1]
   simp [aA,h0.1,h1.1]
  ·simp only [abk] at hc
   rcases hc with rfl | rfl | hc
   ·exact h0.2
   ·exact h1.2
   ·exact v2 c hc
 ·cases h
theorem W.EO (w:W):∀c∈w.bx,c.name=none:=(W.ak 0).nm w
theorem Sl.EO (a:Sl):∀c∈a.bx,c.name=none:=by
 intro c hc
 simp only [Sl.bx,abk,aec,abo,or_false] at hc
 rcases hc with rfl | rfl | h | h | h | h | h | h | h | h | h | h
 ·rfl
 ·rfl
 all_goals exact W.EO _ c h
def Sl.ak (ty:TypeId):AK Sl:=⟨52,by decide,ty,Sl.bx,fun _=>rfl,Sl.EO,Sl.iM,Sl.gy,⟨0,false,[]⟩⟩
def Sl.Bq (a:Sl) (k:Nat) (w:W):Sl:=⟨a.gen,a.used,(List.range 10).map fun j=>if j=k then w else a.at j⟩
theorem Sl.ahY (a:Sl) (k:Nat) (w:W) (j:Nat) (hj:j < 10):(a.Bq k w).at j=if j=k then w else a.at j:=by
 unfold Sl.Bq
 simp only [Sl.at]
 rw [adX,aeR,List.getElem?_range hj]
 rfl
theorem Sl.X7 (a:Sl) (k j:Nat) (hk:k < 10) (hj:j < 5):a.bx[2+5 * k+j]?=(a.at k).bx[j]?:=by
 have h:k=0 \/ k=1 \/ k=2 \/ k=3 \/ k=4 \/ k=5 \/ k=6 \/ k=7 \/ k=8 \/ k=9:=by omega
 have h':j=0 \/ j=1 \/ j=2 \/ j=3 \/ j=4:=by omega
 rcases h with rfl | rfl | rfl | rfl | rfl | rfl | rfl | rfl | rfl | rfl<;>rcases h' with rfl | rfl | rfl | rfl | rfl<;>rfl
theorem Sl.abY (a:Sl) (k:Nat) (w:W) (hk:k < 10):(a.Bq k w).bx=a.bx.take (2+5 * k)++(w.bx++a.bx.drop (2+5 * k+5)):=by
 have h:k=0 \/ k=1 \/ k=2 \/ k=3 \/ k=4 \/ k=5 \/ k=6 \/ k=7 \/ k=8 \/ k=9:=by omega
 have e:∀j,j < 10->(a.Bq k w).at j=if j=k then w else a.at j:=fun j hj=>a.ahY k w j hj
 unfold Sl.bx
 rw [e 0 (by decide),e 1 (by decide),e 2 (by decide),e 3 (by decide),e 4 (by decide),e 5 (by decide),e 6 (by decide),e 7 (by decide),e 8 (by decide),e 9 (by decide)]
 rcases h with rfl | rfl | rfl | rfl | rfl | rfl | rfl | rfl | rfl | rfl<;>rfl
def KF (K:AK Sl) (l:List Sl) (i e o n:Nat):Option (Bool×List Cell):=match Nat.beq e 52,Nat.beq n 5,o with
 | true,true,o'+2=>some (match decide (i < l.length) with | true=>(match decide (o' % 5=0) with | true=>decide (o' / 5 < 10) | false=>false) | false=>false,((l.getD i K.bR).at (o' / 5)).bx)
 | _,_,_=>none
def UT (K:AK Sl) (l:List Sl) (i e o:Nat) (cs:List Cell):Option (Bool×List Sl):=match Nat.beq e 52 with
 | false=>none
 | true=>match o with
   | 0=>match cs with
     | [c]=>match j6 c with | some n=>some (decide (i < l.length),l.set i {l.getD i K.bR with gen:=n}) | none=>none
     | _=>none
   | 1=>match cs with
     | [c]=>match YN c with | some b=>some (decide (i < l.length),l.set i {l.getD i K.bR with used:=b}) | none=>none
     | _=>none
   | o'+2=>match W.iM cs with
     | some w=>some (match decide (i < l.length) with | true=>(match decide (o' % 5=0) with | true=>decide (o' / 5 < 10) | false=>false) | false=>false,l.set i ((l.getD i K.bR).Bq (o' / 5) w))
     | none=>none
theorem adq {p q r:Prop} [Decidable p] [Decidable q] [Decidable r] (h:(match decide p with | true=>(match decide q with | true=>decide r | false=>false) | false=>false)=true):p /\ q /\ r:=by
 by_cases hp:p<;>by_cases hq:q<;>simp_all
section
variable {ty:TypeId} {l:List Sl} {lc:Sx.l8} {S:Nat->Prop} {w:World}
theorem UU {i e o n:Nat} {cs:List Cell} (hq:(Sl.ak ty).q l lc S w) (h:KF (Sl.ak ty) l i e o n=some (true,cs)):(∀c∈cs,c.name=none) /\ ∀(j:Nat) c,cs[j]?=some c->w.cell? ⟨lc.b,lc.o+i * e+o+j,none⟩=some (c.aq Nm.id):=by
 unfold KF at h
 split at h
 ·rename_i o' h1 h2
  have h1:=(aC _ _).1 h1
  subst h1
  simp only [aaC,aaF] at h
  obtain⟨hb,rfl⟩:=h
  obtain⟨hi,hm,hk⟩:=adq hb
  refine⟨W.EO _,fun j c hc=>?_⟩
  have hj:j < 5:=by have:=(abt.1 hc).1;exact this
  have:=(Sl.ak ty).xq hq (idx:=i) (es:=52) (cs:=(l.getD i (Sl.ak ty).bR).bx) (by unfold AK.row;rw [show Nat.beq 52 (Sl.ak ty).es=true from rfl,aaS hi];rfl) (2+5 * (o' / 5)+j) c (by rw [Sl.X7 _ _ _ hk hj];exact hc)
  have ho:o'.succ.succ=2+5 * (o' / 5):=by omega
  rw [ho,aej (lc.o+i * 52)]
  exact this
 ·cases h
theorem yY:∀{l:List Cell} {n:Nat} {ys:List Cell},n+ys.length<=l.length->l6 l n ys=some (l.take n++(ys++l.drop (n+ys.length)))
 | l,0,[],_=>by simp [l6]
 | [],0,_::_,h=>by simp at h
 | x::l,0,y::ys,h=>by
   have:=yY (l:=l) (n:=0) (ys:=ys) (by simpa using h)
   simp only [abJ,List.take_zero,acM] at this
   simp only [l6,this,abn,abJ,List.take_zero,acM,List.drop_succ_cons,adF]
 | [],n+1,ys,h=>by simp at h
 | x::l,n+1,ys,h=>by
   have:=yY (l:=l) (n:=n) (ys:=ys) (by simp at h;omega)
   simp only [l6,this]
   rw [show n+1+ys.length=(n+ys.length)+1 by omega]
   simp
theorem US {l':List Sl} {i e o:Nat} {cs:List Cell} (hq:(Sl.ak ty).q l lc S w) (h:UT (Sl.ak ty) l i e o cs=some (true,l')):(∀c∈cs,c.name=none) /\ S lc.b /\ ∃(row:List Value) (ty':TypeId),w.heap[lc.b]?=some (.cells row.toArray ty' (0,0)) /\ lc.o+i * e+o+cs.length<=row.length /\
 (Sl.ak ty).q l' lc S (w.setRow lc.b (row.take (lc.o+i * e+o)++(aA Nm.id cs++row.drop (lc.o+i * e+o+cs.length))).toArray):=by
 unfold UT at h
 split at h
 ·cases h
 ·rename_i he
  have he:=(aC _ _).1 he
  subst he
  have len:∀a:Sl,a.bx.length=52:=fun _=>rfl
  split at h
  ·split at h
   ·rename_i c
    split at h
    ·rename_i n hn
     simp only [aaC,aaF,decide_eq_true_eq] at h
     obtain⟨hi,rfl⟩:=h
     obtain⟨e1,e2⟩:=cL hn
     exact(Sl.ak ty).ID hq hi (yY (by show 0+1<=_;rw [show ((Sl.ak ty).bx (l.getD i (Sl.ak ty).bR)).length=52 from rfl];decide)) (by
      show aA Nm.id (Sl.bx _)=aA Nm.id ([]++([c]++(Sl.bx (l.getD i (Sl.ak ty).bR)).drop 1))
      simp only [Sl.bx,aA,acM,adF,List.drop_succ_cons,List.drop_zero,abv,e1]
      rfl) (fun x hx=>by rw [aez.1 hx];exact e2)
    ·cases h
   ·cases h
  ·split at h
   ·rename_i c
    split at h
    ·rename_i b hb
     simp only [aaC,aaF,decide_eq_true_eq] at h
     obtain⟨hi,rfl⟩:=h
     obtain⟨e1,e2⟩:=mI hb
     exact(Sl.ak ty).ID hq hi (yY (by show 1+1<=_;rw [show ((Sl.ak ty).bx (l.getD i (Sl.ak ty).bR)).length=52 from rfl];decide)) (by
      show aA Nm.id (Sl.bx _)=aA Nm.id ((Sl.bx (l.getD i (Sl.ak ty).bR)).take 1++([c]++(Sl.bx (l.getD i (Sl.ak ty).bR)).drop 2))
      simp only [Sl.bx,aA,List.take_succ_cons,List.take_zero,acM,adF,List.drop_succ_cons,List.drop_zero,abv,e1]
      rfl) (fun x hx=>by rw [aez.1 hx];exact e2)
    ·cases h
   ·cases h
  ·rename_i o'
   split at h
   ·rename_i v hv
    simp only [aaC,aaF] at h
    obtain⟨hb,rfl⟩:=h
    obtain⟨hi,hm,hk⟩:=adq hb
    obtain⟨e1,e2⟩:=W.gy _ _ hv
    have hl:cs.length=5:=by
     have:=congrArg List.length e1
     rw [bY,bY] at this
     exact this.symm
    have ho:o'.succ.succ=2+5 * (o' / 5):=by omega
    rw [ho]
    exact(Sl.ak ty).ID hq hi (yY (by rw [hl,show ((Sl.ak ty).bx (l.getD i (Sl.ak ty).bR)).length=52 from rfl];omega)) (by
     show aA Nm.id (Sl.bx _)=_
     rw [Sl.abY _ _ _ hk]
     show _=aA Nm.id (_++(cs++_))
     rw [hl]
     simp only [aA,aen] at e1 ⊢
     rw [e1]
     rfl) e2
   ·cases h
end
end Go.Sx

namespace Go.Proofs.YtadmfaohjnjajaaGreatDoor
open Go Go.Sx Go.Proofs
structure ai where
 dO:List W
 aS:List Sl
 free:List N1
 steps:Int
 made:Int
 fault:Option (Int×Nat)
structure Ad where
 s:Int
 g:Int
 f:Int
structure An where
 Cd:Int
 val:Int
structure oU where
 aj:Int
 s:Int
 g:Int
 f:Int
 cU:W
 new:W
structure cr where
 w:W
 ok:Bool
structure Cl where
 aj:Int
 cW:Ad
 cU:W
 new:W
 i:Int
 j:Int
 p9:An
structure H9 where
 h0:W
 h1:W
 h2:W
 h3:W
 h4:W
 h5:W
 h6:W
 h7:W
 h8:W
structure S3 where
 p0:Ad
 c0:W
 p1:Ad
 c1:W
 p2:Ad
 c2:W
structure au where
 call:Cl
 step:Int
 acc:oU
 word:W
 clock:W
 index:Int
 seen:List W
 aP:List Nt
 ax:Int
 me:Int
 cR:Int
 most:Int
 holds:H9
 span:Sp
 notes:List Nt
 dK:Int
 bz:cr
structure dr where
 pc:Int
 last:Cl
 op:O
 node:W
 top:W
 val:Int
structure cY where
 pc:Int
 last:Cl
 op:O
 node:W
 h:W
 t:W
 n:W
 val:Int
structure bm where
 pc:Int
 last:Cl
 start:Ad
 key:Int
 prev:Ad
 cur:W
 next:W
 k:Int
 found:Bool
structure cM where
 pc:Int
 last:Cl
 start:Ad
 key:Int
 op:O
 walk:Option bm
 node:W
 val:Int
structure aN where
 pc:Int
 last:Cl
 prev:Ad
 cur:W
 BS:Int
 level:Int
 next:W
 k:Int
 eo:S3
 found:W
structure cd where
 pc:Int
 last:Cl
 op:O
 kz:Option aN
 node:W
 level:Int
 inc:Int
 val:Int
structure bW where
 pc:Int
 last:Cl
 op:O
 size:Int
 wanted:Int
 bucket:Int
 child:Int
 base:W
 node:W
 sentinel:W
 walk:Option bm
 inner:Option cM
 answer:An
 count:W
inductive dU where
 | dZ (j:dr)
 | dH (j:cY)
 | lit (j:cM)
 | ph (j:bW)
 | oM (j:cd)
structure az where
 sort:Int
 ax:Int
 aQ:au
 bh:Int
 call:Cl
 op:O
 cC:Option dU
 answer:An
structure O5 where
 tu:az
 akL:List O
 given:Int
 last:Int
structure sR where
 sort:Int
 gP:ai
 cR:List O5
 kA:List Bt
end Go.Proofs.YtadmfaohjnjajaaGreatDoor

namespace Go.Sx
variable {AV:Type}
end Go.Sx

namespace Go.Proofs.YtadmfaohjnjajaaGreatDoor
section
open Go.RowKit Go.Extern.Stop Go.Stop Go.Extern
theorem Tryz.isTypeOf (v:Value) (w:World):(Extern.ReflectliteType.typeOf #[.iface 229 v]).run Tryz.prog w=.ok (.iface 175 (.agg #[.pointer (some ⟨7,229,none⟩)])) w:=by kernel_rfl
theorem Tryz.isComparable (w:World):((Extern.ReflectliteType.method fun t=>do Go.Extern.Rtype.noPackHeld "Comparable" t;(fun a=>Value.bool a.comparable) <$> typeInfo t) #[.agg #[.pointer (some ⟨7,229,none⟩)]]).run Tryz.prog w=.ok (.bool true) w:=by kernel_rfl
theorem Tryz.isMethodComparable (v:Value) (w:World):(Go.method 407 175 v "Comparable").run Tryz.prog w=.ok (224,v) w:=by kernel_rfl
theorem Tryz.isComp:(Tryz.prog.info? 229).map (·.comparable)=some true:=by kernel_rfl
theorem Tryz.isSize:(Tryz.prog.info? 295).map (·.size)=some 1:=by kernel_rfl
theorem Tryz.noIsE (v:Value) (xT:TypeId) (w:World):(Instr.typeAssert (.iface 229 v) xT 177 true).run Tryz.prog w=.ok (.tuple #[.nilIface,.bool false]) w:=run_typeAssert_lacksB Tryz.underlying177 (by kernel_rfl) (by kernel_rfl) v xT w
theorem Tryz.noUnwrapE (v:Value) (xT:TypeId) (w:World):(Instr.typeAssert (.iface 229 v) xT 180 true).run Tryz.prog w=.ok (.tuple #[.nilIface,.bool false]) w:=run_typeAssert_lacksB Tryz.underlying180 (by kernel_rfl) (by kernel_rfl) v xT w
theorem Tryz.noUnwrapsE (v:Value) (xT:TypeId) (w:World):(Instr.typeAssert (.iface 229 v) xT 181 true).run Tryz.prog w=.ok (.tuple #[.nilIface,.bool false]) w:=run_typeAssert_lacksB Tryz.underlying181 (by kernel_rfl) (by kernel_rfl) v xT w
theorem Tryz.noIsW (v:Value) (xT:TypeId) (w:World):(Instr.typeAssert (.iface 193 v) xT 177 true).run Tryz.prog w=.ok (.tuple #[.nilIface,.bool false]) w:=run_typeAssert_lacksB Tryz.underlying177 (by kernel_rfl) (by kernel_rfl) v xT w
theorem Tryz.hasUnwrapW (v:Value) (xT:TypeId) (w:World):(Instr.typeAssert (.iface 193 v) xT 180 true).run Tryz.prog w=.ok (.tuple #[.iface 193 v,.bool true]) w:=run_typeAssert_hasB Tryz.underlying180 (by kernel_rfl) v xT w
theorem Tryz.methodUnwrap (v:Value) (w:World):(Go.method 407 193 v "Unwrap").run Tryz.prog w=.ok (234,v) w:=by kernel_rfl
theorem abg (a:Addr) (w:World) :
 Calls Tryz.prog 16 #[.iface 229 (.pointer (some a)),.iface 229 (.pointer (some a))] w fun e w'=>e=.returned (.bool true) /\ w'=w:=by
 obtain⟨i,hi,hcmp⟩:=abu.1 Tryz.isComp
 obtain⟨j,hj,hjs⟩:=abu.1 Tryz.isSize
 have h8:=@run_callFunc_extern Tryz.prog 39 _ Extern.ReflectliteType.typeOf Tryz.func39 (by kernel_rfl) (by kernel_rfl) (by kernel_rfl) (by kernel_rfl)
 have h32:=@run_callFunc_extern Tryz.prog 224 _ (Extern.ReflectliteType.method fun t=>do Go.Extern.Rtype.noPackHeld "Comparable" t;pure (.bool (<- typeInfo t).comparable)) Tryz.func224 (by kernel_rfl) (by kernel_rfl) (by kernel_rfl) (by kernel_rfl)
 have tT:=Tryz.isTypeOf
 have cT:=Tryz.isComparable
 have mR:=Tryz.isMethodComparable
 have heq:=run_eql_iface_ptr_same (P:=Tryz.prog) w a Tryz.underlying29 Tryz.underlying229 hi hcmp hj
 go_enter Tryz.func16,Tryz.ntmps16
 go_wp2
 refine wp_loop_rounds 1 ?_
 rw [rounds_succ]
 go_wp2
 go_ret
 exact⟨rfl,rfl⟩
theorem Jq (pb po:Nat) (b:Addr) (w:World) (h1:w.cell? ⟨pb,po+1,none⟩=some (.iface 229 (.pointer (some b)))) :
 Calls Tryz.prog 16 #[.iface 193 (.pointer (some ⟨pb,po,none⟩)),.iface 229 (.pointer (some b))] w fun e w'=>e=.returned (.bool true) /\ w'=w:=by
 obtain⟨i,hi,hcmp⟩:=abu.1 Tryz.isComp
 obtain⟨j,hj,hjs⟩:=abu.1 Tryz.isSize
 have h8:=@run_callFunc_extern Tryz.prog 39 _ Extern.ReflectliteType.typeOf Tryz.func39 (by kernel_rfl) (by kernel_rfl) (by kernel_rfl) (by kernel_rfl)
 have h32:=@run_callFunc_extern Tryz.prog 224 _ (Extern.ReflectliteType.method fun t=>do Go.Extern.Rtype.noPackHeld "Comparable" t;pure (.bool (<- typeInfo t).comparable)) Tryz.func224 (by kernel_rfl) (by kernel_rfl) (by kernel_rfl) (by kernel_rfl)
 have tT:=Tryz.isTypeOf
 have cT:=Tryz.isComparable
 have mR:=Tryz.isMethodComparable
 have nE:=Tryz.noIsE
 have uE:=Tryz.noUnwrapE
 have vE:=Tryz.noUnwrapsE
 have nW:=Tryz.noIsW
 have uW:=Tryz.hasUnwrapW
 have mU:=Tryz.methodUnwrap
 have heq:=run_eql_iface_ptr_same (P:=Tryz.prog) w b Tryz.underlying29 Tryz.underlying229 hi hcmp hj
 have hty:=run_eql_iface_types (P:=Tryz.prog) 193 229 (.pointer (some ⟨pb,po,none⟩)) (.pointer (some b)) Tryz.underlying29 (by decide) w
 go_enter Tryz.func16,Tryz.ntmps16
 go_wp2
 refine wp_loop_rounds 2 ?_
 rw [rounds_succ]
 go_wp2
 rw [rounds_succ]
 go_wp2
 go_ret
 exact⟨rfl,rfl⟩
end
section
open Go Go.Sx Go.Proofs
variable {AV:Type} {N:dV AV}
def Uy:List SV->Hp AV->T (SV×Hp AV)
 | [.v (.c (.wZ te (.op i a))),.v (.c (.wZ tt (.op j b)))],H=>match Nat.beq te 229,Nat.beq tt 229,Nat.beq i j with
   | true,true,true=>.aJ (decide (a=b)) (.aE (.v (.c (.bl true)),H))
   | _,_,_=>.fail "Is"
 | [.v (.c (.wZ tw (.ptr n 0))),.v (.c (.wZ tt (.op j b)))],H=>match Nat.beq tw 193,Nat.beq tt 229,ae H n with
   | true,true,some (.cells [_,.wZ te (.op i a)] _)=>match Nat.beq te 229,Nat.beq i j with
     | true,true=>.aJ (decide (a=b)) (.aE (.v (.c (.bl true)),H))
     | _,_=>.fail "Is"
   | _,_,_=>.fail "Is"
 | _,_=>.fail "Is"
theorem rZ {f:FuncId} {args:List SV} {H:Hp AV} {v:SV} (hC:dM N H) (hv:tm v)
 (hc:∀(ρ:Nm) (w:World),eZ N ρ H w->Calls Tryz.prog f (args.map (SV.aq ρ)).toArray w fun e w'=>e=.returned (v.aq ρ) /\ w'=w) :
 fh H v /\ dM N H /\ ∀(ρ:Nm) (w:World),eZ N ρ H w ->
  Calls Tryz.prog f (args.map (SV.aq ρ)).toArray w fun e w'=>∃ρ',e=.returned (v.aq ρ') /\ eZ N ρ' H w' /\ iZ N H.length ρ H w ρ' H w':=by
 refine⟨hv.cl _,hC,fun ρ w hO=>(hc ρ w hO).mono ?_⟩
 rintro e w' ⟨rfl,rfl⟩
 exact⟨ρ,rfl,hO,iZ.refl _ _ _ _⟩
theorem plT:tm (.v (.c (.bl true))):=by intro c hc;simp [V1.cells] at hc;subst hc;rfl
theorem alJ:cD Tryz.prog N 16 Uy:=by
 intro args H v H' h bM hC
 unfold Uy at h
 split at h
 ·rename_i te _ a tt _ b
  split at h
  ·rename_i h1 h2 _
   have h1:=(aC _ _).1 h1
   have h2:=(aC _ _).1 h2
   subst h1 h2
   obtain⟨hab,h⟩:=fN h
   have hab:=aaV hab
   subst hab
   simp only [T.val,aaC,aaF] at h
   obtain⟨rfl,rfl⟩:=h
   exact rZ hC plT fun ρ w _=>abg a w
  ·cases h
 ·rename_i tw n tt _ b
  split at h
  ·rename_i p te _ a ty h1 h2 hn
   split at h
   ·rename_i h3 _
    have h1:=(aC _ _).1 h1
    have h2:=(aC _ _).1 h2
    have h3:=(aC _ _).1 h3
    subst h1 h2 h3
    obtain⟨hab,h⟩:=fN h
    have hab:=aaV hab
    subst hab
    simp only [T.val,aaC,aaF] at h
    obtain⟨rfl,rfl⟩:=h
    refine rZ hC plT fun ρ w hO=>Jq (ρ n) 0 a w ?_
    have:=E6 hO hn 1 _ rfl
    exact this
   ·cases h
  ·cases h
 ·cases h
end
section
open Go Go.Sx Go.Proofs
inductive AV where
 | gk (i:Nat) | eU (l:List W) | jS (l:List N1) | notes (l:List Nt) | bZ (l:List O) | kA (l:List Bt) | eC (l:List Sp) | rG (l:List Pr) | aS (l:List Sl)
 | TR (l:List W) | ad5 (l:List N1) | Wd (l:List Nt) | I7 (l:List O) | YJ (l:List Bt) | UP (l:List Sp) | VR (l:List Pr)
 | gP (m:ai) | NX (d:Nat) (ty:TypeId) (cs:List (GC AV)) | R4 (d es:Nat) (ty:TypeId) (cs:List (GC AV))
 | aQ (m:au) | dZ (m:dr) | dH (m:cY) | walk (m:bm) | lit (m:cM) | kz (m:aN) | oM (m:cd) | ph (m:bW) | tu (m:az) | par (m:sR)
abbrev dS:AK W:=W.ak 60
abbrev kt:AK N1:=N1.ak 3
abbrev bj:AK Nt:=Nt.ak 151
abbrev rM:AK O:=O.ak 34
abbrev mB:AK Bt:=Bt.ak 974085
abbrev mA:AK Sp:=Sp.ak 139
abbrev Az:AK Pr:=Pr.ak 187
abbrev gq:AK Sl:=Sl.ak 127
structure Ar where
 α:Type
 K:AK α
 l:List α
def AV.ar:AV->Option Ar
 | .eU l=>some ⟨W,dS,l⟩
 | .jS l=>some ⟨N1,kt,l⟩
 | .notes l=>some ⟨Nt,bj,l⟩
 | .bZ l=>some ⟨O,rM,l⟩
 | .kA l=>some ⟨Bt,mB,l⟩
 | .eC l=>some ⟨Sp,mA,l⟩
 | .rG l=>some ⟨Pr,Az,l⟩
 | .aS l=>some ⟨Sl,gq,l⟩
 | _=>none
def AV.fix:AV->Option Ar
 | .TR l=>some ⟨W,dS,l⟩
 | .ad5 l=>some ⟨N1,kt,l⟩
 | .Wd l=>some ⟨Nt,bj,l⟩
 | .I7 l=>some ⟨O,rM,l⟩
 | .YJ l=>some ⟨Bt,mB,l⟩
 | .UP l=>some ⟨Sp,mA,l⟩
 | .VR l=>some ⟨Pr,Az,l⟩
 | _=>none
def AV.rq:AV->Option AV
 | .TR l=>some (.eU l)
 | .ad5 l=>some (.jS l)
 | .Wd l=>some (.notes l)
 | .I7 l=>some (.bZ l)
 | .YJ l=>some (.kA l)
 | .UP l=>some (.eC l)
 | .VR l=>some (.rG l)
 | .eU l=>some (.eU l)
 | .jS l=>some (.jS l)
 | .notes l=>some (.notes l)
 | .bZ l=>some (.bZ l)
 | .kA l=>some (.kA l)
 | .eC l=>some (.eC l)
 | .rG l=>some (.rG l)
 | .aS l=>some (.aS l)
 | _=>none
def AV.wz:AV->Nat->Nat->Nat->List Cell->Option (Bool×AV)
 | .eU l,i,e,o,cs=>match dS.wz l i e o cs with | some (b,r)=>some (b,.eU r) | none=>none
 | .jS l,i,e,o,cs=>match kt.wz l i e o cs with | some (b,r)=>some (b,.jS r) | none=>none
 | .notes l,i,e,o,cs=>match bj.wz l i e o cs with | some (b,r)=>some (b,.notes r) | none=>none
 | .bZ l,i,e,o,cs=>match rM.wz l i e o cs with | some (b,r)=>some (b,.bZ r) | none=>none
 | .kA l,i,e,o,cs=>match mB.wz l i e o cs with | some (b,r)=>some (b,.kA r) | none=>none
 | .eC l,i,e,o,cs=>match mA.wz l i e o cs with | some (b,r)=>some (b,.eC r) | none=>none
 | .rG l,i,e,o,cs=>match Az.wz l i e o cs with | some (b,r)=>some (b,.rG r) | none=>none
 | .aS l,i,e,o,cs=>match UT gq l i e o cs with | some (b,r)=>some (b,.aS r) | none=>match gq.wz l i e o cs with | some (b,r)=>some (b,.aS r) | none=>none
 | _,_,_,_,_=>none
def AV.J3:AV->Nat->Nat->Nat->Nat->Option (Bool×List Cell)
 | .aS l,i,e,o,n=>KF gq l i e o n
 | _,_,_,_,_=>none
def AV.cat:AV->AV->Option AV
 | .eU l,.eU r=>some (.eU (l++r))
 | .jS l,.jS r=>some (.jS (l++r))
 | .notes l,.notes r=>some (.notes (l++r))
 | .bZ l,.bZ r=>some (.bZ (l++r))
 | .kA l,.kA r=>some (.kA (l++r))
 | .eC l,.eC r=>some (.eC (l++r))
 | .rG l,.rG r=>some (.rG (l++r))
 | .aS l,.aS r=>some (.aS (l++r))
 | _,_=>none
def AV.JV:AV->List Cell->Option AV
 | .eU l,cs=>match dS.JV l cs with | some r=>some (.eU r) | none=>none
 | .jS l,cs=>match kt.JV l cs with | some r=>some (.jS r) | none=>none
 | .notes l,cs=>match bj.JV l cs with | some r=>some (.notes r) | none=>none
 | .bZ l,cs=>match rM.JV l cs with | some r=>some (.bZ r) | none=>none
 | .kA l,cs=>match mB.JV l cs with | some r=>some (.kA r) | none=>none
 | .eC l,cs=>match mA.JV l cs with | some r=>some (.eC r) | none=>none
 | .rG l,cs=>match Az.JV l cs with | some r=>some (.rG r) | none=>none
 | .aS l,cs=>match gq.JV l cs with | some r=>some (.aS r) | none=>none
 | _,_=>none
def AV.cut:AV->Nat->Nat->Option AV
 | .eU l,i,j=>some (.eU ((l.take j).drop i))
 | .jS l,i,j=>some (.jS ((l.take j).drop i))
 | .notes l,i,j=>some (.notes ((l.take j).drop i))
 | .bZ l,i,j=>some (.bZ ((l.take j).drop i))
 | .kA l,i,j=>some (.kA ((l.take j).drop i))
 | .eC l,i,j=>some (.eC ((l.take j).drop i))
 | .rG l,i,j=>some (.rG ((l.take j).drop i))
 | .aS l,i,j=>some (.aS ((l.take j).drop i))
 | _,_,_=>none
def AV.rar (a:AV):Option Ar:=match a.ar with
 | some r=>some r
 | none=>a.fix
def AV.row (a:AV) (i e:Nat):Option (Bool×List Cell):=match a.rar with
 | some r=>r.K.row r.l i e
 | none=>none
def AV.fW (a:AV):Option (Nat×TypeId×List Value):=match a.ar with
 | some r=>r.K.fW r.l
 | none=>none
def AV.len (a:AV):Nat:=match a.ar with
 | some r=>r.l.length
 | none=>match a with | .R4 _ es _ gs=>gs.length / es | _=>0
structure Sg where
 σ:Nat->Addr
 R:Nat->Option Obj
instance:CoeFun Sg (fun _=>Nat->Addr):=⟨Sg.σ⟩
def Sg.has (σ:Sg) (w:World):Prop:=∀k o,σ.R k=some o->w.heap[k]?=some o
def abQ (σ:Sg) {α:Type} (K:AK α) (l:List α) (lc:Sx.l8) (S:Nat->Prop):Prop:=(∀k,¬S k) /\ ∀w,σ.has w->KW lc (K.dC l) K.es w
def AV.q (σ:Sg) (a:AV) (l:Sx.l8) (S:Nat->Prop) (w:World):Prop:=match a with
 | .gk i=>(∀k,S k↔k=l.b) /\ w.heap[l.b]?=some (.cells #[.iface 229 (.pointer (some (σ i)))] 29 (0,0))
 | a=>match a.ar with
   | some r=>r.K.q r.l l S w
   | none=>match a.fix with
     | some r=>abQ σ r.K r.l l S
     | none=>False
theorem AV.ug {σ:Sg} {a:AV} {r:Ar} (h0:a.ar=none) (h:a.fix=some r) (l:Sx.l8) (S:Nat->Prop) (w:World):a.q σ l S w↔abQ σ r.K r.l l S:=by
 cases a<;>simp only [AV.q,AV.ar,AV.fix] at h0 h ⊢<;>cases h<;>exact Iff.rfl
theorem AV.yG {σ:Sg} {a:AV} {r:Ar} (h:a.ar=some r) (l:Sx.l8) (S:Nat->Prop) (w:World):a.q σ l S w↔r.K.q r.l l S w:=by
 cases a<;>simp only [AV.q,AV.ar] at h ⊢<;>cases h<;>exact Iff.rfl
def AV.word (σ:Sg):AV->Option (List Cell)
 | .gk i=>some [.wZ 229 (.op i (σ i))]
 | _=>none
def AV.wB:AV->AV->Bool
 | .gk i,.gk j=>Nat.beq i j
 | _,_=>false
theorem AV.MJ {a:AV} {x:Nat×TypeId×List Value} (h:a.fW=some x):∃r,a.ar=some r /\ x=(r.K.es,r.K.ty,r.K.dC r.l):=by
 unfold AV.fW at h
 split at h
 ·rename_i r hr
  cases h
  exact⟨r,hr,rfl⟩
 ·cases h
theorem AV.fM {a:AV} {r:Ar} (h:a.ar=some r):a.fW=some (r.K.es,r.K.ty,r.K.dC r.l):=by unfold AV.fW;rw [h];rfl
def aeV {α:Type} (K:AK α) (z:List Cell) (es:Nat) (ty:TypeId) (n:Nat):Option (List α):=match Nat.beq ty K.ty,Nat.beq es K.es,K.iM z with
 | true,true,some a=>some (List.replicate n a)
 | _,_,_=>none
theorem Zp {α:Type} {K:AK α} {z:List Cell} {es:Nat} {ty:TypeId} {n:Nat} {l:List α} (h:aeV K z es ty n=some l):es=K.es /\ ty=K.ty /\ K.dC l=aA Nm.id (kg z n):=by
 unfold aeV at h
 split at h
 ·rename_i a h1 h2 h3
  cases h
  refine⟨(aC _ _).1 h2,(aC _ _).1 h1,?_⟩
  have h4:=(K.gy _ _ h3).1
  have hr:∀n,K.dC (List.replicate n a)=aA Nm.id (kg z n):=fun n=>by
   induction n with
   | zero=>rfl
   | succ n ih =>
     have e1:K.dC (List.replicate (n+1) a)=aA Nm.id (K.bx a)++K.dC (List.replicate n a):=by simp [AK.dC,List.replicate_succ]
     have e2:aA Nm.id (kg z (n+1))=aA Nm.id z++aA Nm.id (kg z n):=by simp [aA,kg]
     rw [e1,e2,ih,h4]
  exact hr n
 ·cases h
def AV.Zq (z:List Cell) (es:Nat) (ty:TypeId) (n:Nat):Option AV:=match aeV gq z es ty n with
 | some l=>some (.aS l)
 | none=>none
theorem AV.zK (z:List Cell) (es:Nat) (ty:TypeId) (n:Nat) (a:AV) (h:AV.Zq z es ty n=some a):a.fW=some (es,ty,aA Nm.id (kg z n)):=by
 unfold AV.Zq at h
 split at h
 ·rename_i l hl
  cases h
  obtain⟨rfl,rfl,h3⟩:=Zp hl
  rw [AV.fM rfl,<- h3]
 ·cases h
def avF (σ:Sg):iL AV where
 q:=AV.q σ
 loc:=fun a l S w w' hk hq=>by
  cases ha:a.ar with
  | some r=>exact(AV.yG ha l S w').2 (r.K.akM hk ((AV.yG ha l S w).1 hq))
  | none =>
    cases hf:a.fix with
    | some r=>exact(AV.ug ha hf l S w').2 ((AV.ug ha hf l S w).1 hq)
    | none =>
      cases a with
      | gk i=>exact⟨hq.1,by rw [hk l.b ((hq.1 _).2 rfl)];exact hq.2⟩
      | _=>first | (cases ha;done) | (cases hf;done) | exact hq.elim
 dom:=fun a l S w k hq hk=>by
  cases ha:a.ar with
  | some r=>exact r.K.VK ((AV.yG ha l S w).1 hq) hk
  | none =>
    cases hf:a.fix with
    | some r=>exact absurd hk (((AV.ug ha hf l S w).1 hq).1 k)
    | none =>
      cases a with
      | gk i =>
        rw [(hq.1 k).1 hk]
        exact(ad0.1 hq.2).1
      | _=>first | (cases ha;done) | (cases hf;done) | exact hq.elim
 row:=AV.row
 ud:=fun a idx es cs h=>by
  unfold AV.row at h
  split at h
  ·rename_i r hr;exact r.K.ud h
  ·cases h
 R:=σ.R
 xq:=fun a l S w idx es cs hR hq h=>by
  unfold AV.row at h
  split at h
  ·rename_i r hr
   unfold AV.rar at hr
   split at hr
   ·rename_i r' ha
    cases hr
    exact r.K.xq ((AV.yG ha l S w).1 hq) h
   ·rename_i ha
    exact r.K.Vm (((AV.ug ha hr l S w).1 hq).2 w hR) h
  ·cases h
 J3:=AV.J3
 Aa:=fun a i e o n cs h=>by
  cases a<;>first
   | (cases h;done)
   | (rename_i l
      have h:KF gq l i e o n=some (true,cs):=h
      unfold KF at h
      split at h
      ·simp only [aaC,aaF] at h
       rw [<- h.2];exact W.EO _
      ·cases h)
 I4:=fun a l S w i e o n cs hR hq h=>by
  cases a<;>first
   | (cases h;done)
   | exact(UU ((AV.yG rfl l S w).1 hq) h).2
 wz:=AV.wz
 mY:=fun a l S w idx es off cs a' hq h=>by
  unfold AV.wz at h
  split at h
  ·split at h
   ·rename_i b r hr
    simp only [aaC,aaF] at h
    obtain⟨rfl,rfl⟩:=h
    exact dS.mY hq hr
   ·cases h
  ·split at h
   ·rename_i b r hr
    simp only [aaC,aaF] at h
    obtain⟨rfl,rfl⟩:=h
    exact kt.mY hq hr
   ·cases h
  ·split at h
   ·rename_i b r hr
    simp only [aaC,aaF] at h
    obtain⟨rfl,rfl⟩:=h
    exact bj.mY hq hr
   ·cases h
  ·split at h
   ·rename_i b r hr
    simp only [aaC,aaF] at h
    obtain⟨rfl,rfl⟩:=h
    exact rM.mY hq hr
   ·cases h
  ·split at h
   ·rename_i b r hr
    simp only [aaC,aaF] at h
    obtain⟨rfl,rfl⟩:=h
    exact mB.mY hq hr
   ·cases h
  ·split at h
   ·rename_i b r hr
    simp only [aaC,aaF] at h
    obtain⟨rfl,rfl⟩:=h
    exact mA.mY hq hr
   ·cases h
  ·split at h
   ·rename_i b r hr
    simp only [aaC,aaF] at h
    obtain⟨rfl,rfl⟩:=h
    exact Az.mY hq hr
   ·cases h
  ·split at h
   ·rename_i b r hr
    simp only [aaC,aaF] at h
    obtain⟨rfl,rfl⟩:=h
    exact US hq hr
   ·split at h
    ·rename_i b r hr
     simp only [aaC,aaF] at h
     obtain⟨rfl,rfl⟩:=h
     exact gq.mY hq hr
    ·cases h
  ·cases h
 word:=AV.word σ
 vp:=fun a cs h c hc=>by
  unfold AV.word at h
  split at h
  ·cases h
   rw [aez.1 hc]
   rfl
  ·cases h
 Ck:=fun a l S w cs hq h j c hc=>by
  unfold AV.word at h
  split at h
  ·cases h
   match j,hc with
   | 0,hc =>
     simp only [aeC,aaC] at hc
     subst hc
     simp [World.cell?,hq.2,Cell.aq]
  ·cases h
 wB:=AV.wB
 rZ:=fun a b h=>by
  unfold AV.wB at h
  split at h
  ·rw [(aC _ _).1 h]
  ·cases h
 fW:=AV.fW
 mJ:=fun a es ty vs h=>by
  obtain⟨r,hr,hx⟩:=AV.MJ h
  simp only [aaF] at hx
  obtain⟨rfl,rfl,rfl⟩:=hx
  exact⟨r.K.T4 r.l,fun l S w=>AV.yG hr l S w⟩
 rq:=AV.rq
 Dl:=fun a b es ty vs h hb l S w hR hq=>by
  unfold AV.rq at h
  split at h
  ·cases h;cases hb;exact((AV.ug rfl rfl l S w).1 hq).2 w hR
  ·cases h;cases hb;exact((AV.ug rfl rfl l S w).1 hq).2 w hR
  ·cases h;cases hb;exact((AV.ug rfl rfl l S w).1 hq).2 w hR
  ·cases h;cases hb;exact((AV.ug rfl rfl l S w).1 hq).2 w hR
  ·cases h;cases hb;exact((AV.ug rfl rfl l S w).1 hq).2 w hR
  ·cases h;cases hb;exact((AV.ug rfl rfl l S w).1 hq).2 w hR
  ·cases h;cases hb;exact((AV.ug rfl rfl l S w).1 hq).2 w hR
  ·cases h;cases hb;exact jW ((AV.yG rfl l S w).1 hq)
  ·cases h;cases hb;exact jW ((AV.yG rfl l S w).1 hq)
  ·cases h;cases hb;exact jW ((AV.yG rfl l S w).1 hq)
  ·cases h;cases hb;exact jW ((AV.yG rfl l S w).1 hq)
  ·cases h;cases hb;exact jW ((AV.yG rfl l S w).1 hq)
  ·cases h;cases hb;exact jW ((AV.yG rfl l S w).1 hq)
  ·cases h;cases hb;exact jW ((AV.yG rfl l S w).1 hq)
  ·cases h;cases hb;exact jW ((AV.yG rfl l S w).1 hq)
  ·cases h
 len:=AV.len
 qJ:=fun a es ty vs h=>by
  obtain⟨r,hr,hx⟩:=AV.MJ h
  simp only [aaF] at hx
  obtain⟨rfl,rfl,rfl⟩:=hx
  rw [r.K.kJ]
  unfold AV.len
  rw [hr]
 cat:=AV.cat
 JS:=fun a b c h=>by
  unfold AV.cat at h
  split at h
  ·cases h;exact⟨_,_,_,_,_,rfl,rfl,by rw [AV.fM rfl,AK.fy]⟩
  ·cases h;exact⟨_,_,_,_,_,rfl,rfl,by rw [AV.fM rfl,AK.fy]⟩
  ·cases h;exact⟨_,_,_,_,_,rfl,rfl,by rw [AV.fM rfl,AK.fy]⟩
  ·cases h;exact⟨_,_,_,_,_,rfl,rfl,by rw [AV.fM rfl,AK.fy]⟩
  ·cases h;exact⟨_,_,_,_,_,rfl,rfl,by rw [AV.fM rfl,AK.fy]⟩
  ·cases h;exact⟨_,_,_,_,_,rfl,rfl,by rw [AV.fM rfl,AK.fy]⟩
  ·cases h;exact⟨_,_,_,_,_,rfl,rfl,by rw [AV.fM rfl,AK.fy]⟩
  ·cases h;exact⟨_,_,_,_,_,rfl,rfl,by rw [AV.fM rfl,AK.fy]⟩
  ·cases h
 JV:=AV.JV
 nJ:=fun a cs c h=>by
  unfold AV.JV at h
  split at h
  ·split at h
   ·rename_i r hr
    cases h
    obtain⟨h1,h2⟩:=dS.nJ hr
    exact⟨h1,_,_,_,rfl,by rw [AV.fM rfl,h2]⟩
   ·cases h
  ·split at h
   ·rename_i r hr
    cases h
    obtain⟨h1,h2⟩:=kt.nJ hr
    exact⟨h1,_,_,_,rfl,by rw [AV.fM rfl,h2]⟩
   ·cases h
  ·split at h
   ·rename_i r hr
    cases h
    obtain⟨h1,h2⟩:=bj.nJ hr
    exact⟨h1,_,_,_,rfl,by rw [AV.fM rfl,h2]⟩
   ·cases h
  ·split at h
   ·rename_i r hr
    cases h
    obtain⟨h1,h2⟩:=rM.nJ hr
    exact⟨h1,_,_,_,rfl,by rw [AV.fM rfl,h2]⟩
   ·cases h
  ·split at h
   ·rename_i r hr
    cases h
    obtain⟨h1,h2⟩:=mB.nJ hr
    exact⟨h1,_,_,_,rfl,by rw [AV.fM rfl,h2]⟩
   ·cases h
  ·split at h
   ·rename_i r hr
    cases h
    obtain⟨h1,h2⟩:=mA.nJ hr
    exact⟨h1,_,_,_,rfl,by rw [AV.fM rfl,h2]⟩
   ·cases h
  ·split at h
   ·rename_i r hr
    cases h
    obtain⟨h1,h2⟩:=Az.nJ hr
    exact⟨h1,_,_,_,rfl,by rw [AV.fM rfl,h2]⟩
   ·cases h
  ·split at h
   ·rename_i r hr
    cases h
    obtain⟨h1,h2⟩:=gq.nJ hr
    exact⟨h1,_,_,_,rfl,by rw [AV.fM rfl,h2]⟩
   ·cases h
  ·cases h
 cut:=AV.cut
 nI:=fun a i j c h=>by
  unfold AV.cut at h
  split at h
  ·cases h;exact⟨_,_,_,rfl,by rw [AV.fM rfl,AK.nI]⟩
  ·cases h;exact⟨_,_,_,rfl,by rw [AV.fM rfl,AK.nI]⟩
  ·cases h;exact⟨_,_,_,rfl,by rw [AV.fM rfl,AK.nI]⟩
  ·cases h;exact⟨_,_,_,rfl,by rw [AV.fM rfl,AK.nI]⟩
  ·cases h;exact⟨_,_,_,rfl,by rw [AV.fM rfl,AK.nI]⟩
  ·cases h;exact⟨_,_,_,rfl,by rw [AV.fM rfl,AK.nI]⟩
  ·cases h;exact⟨_,_,_,rfl,by rw [AV.fM rfl,AK.nI]⟩
  ·cases h;exact⟨_,_,_,rfl,by rw [AV.fM rfl,AK.nI]⟩
  ·cases h
 Zq:=AV.Zq
 zK:=AV.zK
