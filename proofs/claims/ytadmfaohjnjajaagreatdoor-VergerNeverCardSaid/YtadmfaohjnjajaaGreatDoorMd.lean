import Derived.Test.YtadmfaohjnjajaaGreatDoorSxAr
import Derived.Test.YtadmfaohjnjajaaGreatDoorSxM
import Derived.Test.YtadmfaohjnjajaaGreatDoorChecked
import Derived.WalkKit
import Derived.LaidEql
import Derived.Stop.Asserts
import Derived.RowKitTokens
import Derived.Test.YtadmfaohjnjajaaGreatDoorSxT
import Derived.Test.YtadmfaohjnjajaaGreatDoorSxOf
set_option linter.unusedVariables false
set_option linter.unusedSimpArgs false
set_option maxHeartbeats 4000000
namespace Go.Sx
def iOf:Cell->Option Int
 | .il .i64 n=>some n
 | .it .i64 n=>some n
 | .iv .i64 n _ _=>some n
 | .ir .i64 n _ _ _=>some n
 | _=>none
def bOf:Cell->Option Bool
 | .bl b=>some b
 | .bt b=>some b
 | _=>none
theorem bs {c:Cell} {n:Int} (h:iOf c=some n):c.den Nm.id=.int .i64 n /\ c.name=none:=by
 unfold iOf at h
 split at h<;>cases h<;>exact⟨rfl,rfl⟩
theorem iA {c:Cell} {n:Bool} (h:bOf c=some n):c.den Nm.id=.bool n /\ c.name=none:=by
 unfold bOf at h
 split at h<;>cases h<;>exact⟨rfl,rfl⟩
structure W where
 slot:Int
 gen:Int
 tag:Int
 num:Int
 mark:Bool
deriving DecidableEq,Inhabited
def W.enc (a:W):List Cell:=[.it .i64 a.slot,.it .i64 a.gen,.it .i64 a.tag,.it .i64 a.num,.bt a.mark]
def W.dec:List Cell->Option W
 | [c0,c1,c2,c3,c4]=>(iOf c0).bind fun x0=>(iOf c1).bind fun x1=>(iOf c2).bind fun x2=>(iOf c3).bind fun x3=>(bOf c4).bind fun x4=>some ⟨x0,x1,x2,x3,x4⟩
 | _=>none
theorem W.dec_ok (cs:List Cell) (a:W) (h:W.dec cs=some a):ah Nm.id a.enc=ah Nm.id cs /\ ∀c∈cs,c.name=none:=by
 unfold W.dec at h
 split at h
 ·rename_i c0 c1 c2 c3 c4
  obtain⟨x0,h0,h⟩:=Option.bind_eq_some_iff.1 h
  have h0:=bs h0
  obtain⟨x1,h1,h⟩:=Option.bind_eq_some_iff.1 h
  have h1:=bs h1
  obtain⟨x2,h2,h⟩:=Option.bind_eq_some_iff.1 h
  have h2:=bs h2
  obtain⟨x3,h3,h⟩:=Option.bind_eq_some_iff.1 h
  have h3:=bs h3
  obtain⟨x4,h4,h⟩:=Option.bind_eq_some_iff.1 h
  have h4:=iA h4
  cases h
  refine⟨by simp [W.enc,ah,Cell.den,h0.1,h1.1,h2.1,h3.1,h4.1],fun c hc=>?_⟩
  simp only [List.mem_cons,List.not_mem_nil,or_false] at hc
  rcases hc with rfl | rfl | rfl | rfl | rfl
  ·exact h0.2
  ·exact h1.2
  ·exact h2.2
  ·exact h3.2
  ·exact h4.2
 ·cases h
def W.ak (ty:TypeId):AK W:=⟨5,by decide,ty,W.enc,fun _=>rfl,fun a c hc=>(by simp only [W.enc,List.mem_cons,List.not_mem_nil,or_false] at hc;rcases hc with rfl | rfl | rfl | rfl | rfl<;>rfl),W.dec,W.dec_ok,⟨0,0,0,0,false⟩⟩
structure N1 where
 val:Int
deriving DecidableEq,Inhabited
def N1.enc (a:N1):List Cell:=[.it .i64 a.val]
def N1.dec:List Cell->Option N1
 | [c0]=>(iOf c0).bind fun x0=>some ⟨x0⟩
 | _=>none
theorem N1.dec_ok (cs:List Cell) (a:N1) (h:N1.dec cs=some a):ah Nm.id a.enc=ah Nm.id cs /\ ∀c∈cs,c.name=none:=by
 unfold N1.dec at h
 split at h
 ·rename_i c0
  obtain⟨x0,h0,h⟩:=Option.bind_eq_some_iff.1 h
  have h0:=bs h0
  cases h
  refine⟨by simp [N1.enc,ah,Cell.den,h0.1],fun c hc=>?_⟩
  simp only [List.mem_cons,List.not_mem_nil,or_false] at hc
  subst hc
  exact h0.2
 ·cases h
def N1.ak (ty:TypeId):AK N1:=⟨1,by decide,ty,N1.enc,fun _=>rfl,fun a c hc=>(by simp only [N1.enc,List.mem_cons,List.not_mem_nil,or_false] at hc;subst hc;rfl),N1.dec,N1.dec_ok,⟨0⟩⟩
structure Nt where
 slot:Int
 gen:Int
 tag:Int
 num:Int
 mark:Bool
 birth:Int
 death:Int
deriving DecidableEq,Inhabited
def Nt.enc (a:Nt):List Cell:=[.it .i64 a.slot,.it .i64 a.gen,.it .i64 a.tag,.it .i64 a.num,.bt a.mark,.it .i64 a.birth,.it .i64 a.death]
def Nt.dec:List Cell->Option Nt
 | [c0,c1,c2,c3,c4,c5,c6]=>(iOf c0).bind fun x0=>(iOf c1).bind fun x1=>(iOf c2).bind fun x2=>(iOf c3).bind fun x3=>(bOf c4).bind fun x4=>(iOf c5).bind fun x5=>(iOf c6).bind fun x6=>some ⟨x0,x1,x2,x3,x4,x5,x6⟩
 | _=>none
theorem Nt.dec_ok (cs:List Cell) (a:Nt) (h:Nt.dec cs=some a):ah Nm.id a.enc=ah Nm.id cs /\ ∀c∈cs,c.name=none:=by
 unfold Nt.dec at h
 split at h
 ·rename_i c0 c1 c2 c3 c4 c5 c6
  obtain⟨x0,h0,h⟩:=Option.bind_eq_some_iff.1 h
  have h0:=bs h0
  obtain⟨x1,h1,h⟩:=Option.bind_eq_some_iff.1 h
  have h1:=bs h1
  obtain⟨x2,h2,h⟩:=Option.bind_eq_some_iff.1 h
  have h2:=bs h2
  obtain⟨x3,h3,h⟩:=Option.bind_eq_some_iff.1 h
  have h3:=bs h3
  obtain⟨x4,h4,h⟩:=Option.bind_eq_some_iff.1 h
  have h4:=iA h4
  obtain⟨x5,h5,h⟩:=Option.bind_eq_some_iff.1 h
  have h5:=bs h5
  obtain⟨x6,h6,h⟩:=Option.bind_eq_some_iff.1 h
  have h6:=bs h6
  cases h
  refine⟨by simp [Nt.enc,ah,Cell.den,h0.1,h1.1,h2.1,h3.1,h4.1,h5.1,h6.1],fun c hc=>?_⟩
  simp only [List.mem_cons,List.not_mem_nil,or_false] at hc
  rcases hc with rfl | rfl | rfl | rfl | rfl | rfl | rfl
  ·exact h0.2
  ·exact h1.2
  ·exact h2.2
  ·exact h3.2
  ·exact h4.2
  ·exact h5.2
  ·exact h6.2
 ·cases h
def Nt.ak (ty:TypeId):AK Nt:=⟨7,by decide,ty,Nt.enc,fun _=>rfl,fun a c hc=>(by simp only [Nt.enc,List.mem_cons,List.not_mem_nil,or_false] at hc;rcases hc with rfl | rfl | rfl | rfl | rfl | rfl | rfl<;>rfl),Nt.dec,Nt.dec_ok,⟨0,0,0,0,false,0,0⟩⟩
structure O where
 kind:Int
 key:Int
 val:Int
 tall:Int
deriving DecidableEq,Inhabited
def O.enc (a:O):List Cell:=[.it .i64 a.kind,.it .i64 a.key,.it .i64 a.val,.it .i64 a.tall]
def O.dec:List Cell->Option O
 | [c0,c1,c2,c3]=>(iOf c0).bind fun x0=>(iOf c1).bind fun x1=>(iOf c2).bind fun x2=>(iOf c3).bind fun x3=>some ⟨x0,x1,x2,x3⟩
 | _=>none
theorem O.dec_ok (cs:List Cell) (a:O) (h:O.dec cs=some a):ah Nm.id a.enc=ah Nm.id cs /\ ∀c∈cs,c.name=none:=by
 unfold O.dec at h
 split at h
 ·rename_i c0 c1 c2 c3
  obtain⟨x0,h0,h⟩:=Option.bind_eq_some_iff.1 h
  have h0:=bs h0
  obtain⟨x1,h1,h⟩:=Option.bind_eq_some_iff.1 h
  have h1:=bs h1
  obtain⟨x2,h2,h⟩:=Option.bind_eq_some_iff.1 h
  have h2:=bs h2
  obtain⟨x3,h3,h⟩:=Option.bind_eq_some_iff.1 h
  have h3:=bs h3
  cases h
  refine⟨by simp [O.enc,ah,Cell.den,h0.1,h1.1,h2.1,h3.1],fun c hc=>?_⟩
  simp only [List.mem_cons,List.not_mem_nil,or_false] at hc
  rcases hc with rfl | rfl | rfl | rfl
  ·exact h0.2
  ·exact h1.2
  ·exact h2.2
  ·exact h3.2
 ·cases h
def O.ak (ty:TypeId):AK O:=⟨4,by decide,ty,O.enc,fun _=>rfl,fun a c hc=>(by simp only [O.enc,List.mem_cons,List.not_mem_nil,or_false] at hc;rcases hc with rfl | rfl | rfl | rfl<;>rfl),O.dec,O.dec_ok,⟨0,0,0,0⟩⟩
structure Bt where
 thread:Int
 begins:Bool
 kind:Int
 key:Int
 val:Int
 tall:Int
 real:Bool
 ends:Bool
 code:Int
 aval:Int
deriving DecidableEq,Inhabited
def Bt.enc (a:Bt):List Cell:=[.it .i64 a.thread,.bt a.begins,.it .i64 a.kind,.it .i64 a.key,.it .i64 a.val,.it .i64 a.tall,.bt a.real,.bt a.ends,.it .i64 a.code,.it .i64 a.aval]
def Bt.dec:List Cell->Option Bt
 | [c0,c1,c2,c3,c4,c5,c6,c7,c8,c9]=>(iOf c0).bind fun x0=>(bOf c1).bind fun x1=>(iOf c2).bind fun x2=>(iOf c3).bind fun x3=>(iOf c4).bind fun x4=>(iOf c5).bind fun x5=>(bOf c6).bind fun x6=>(bOf c7).bind fun x7=>(iOf c8).bind fun x8=>(iOf c9).bind fun x9=>some ⟨x0,x1,x2,x3,x4,x5,x6,x7,x8,x9⟩
 | _=>none
theorem Bt.dec_ok (cs:List Cell) (a:Bt) (h:Bt.dec cs=some a):ah Nm.id a.enc=ah Nm.id cs /\ ∀c∈cs,c.name=none:=by
 unfold Bt.dec at h
 split at h
 ·rename_i c0 c1 c2 c3 c4 c5 c6 c7 c8 c9
  obtain⟨x0,h0,h⟩:=Option.bind_eq_some_iff.1 h
  have h0:=bs h0
  obtain⟨x1,h1,h⟩:=Option.bind_eq_some_iff.1 h
  have h1:=iA h1
  obtain⟨x2,h2,h⟩:=Option.bind_eq_some_iff.1 h
  have h2:=bs h2
  obtain⟨x3,h3,h⟩:=Option.bind_eq_some_iff.1 h
  have h3:=bs h3
  obtain⟨x4,h4,h⟩:=Option.bind_eq_some_iff.1 h
  have h4:=bs h4
  obtain⟨x5,h5,h⟩:=Option.bind_eq_some_iff.1 h
  have h5:=bs h5
  obtain⟨x6,h6,h⟩:=Option.bind_eq_some_iff.1 h
  have h6:=iA h6
  obtain⟨x7,h7,h⟩:=Option.bind_eq_some_iff.1 h
  have h7:=iA h7
  obtain⟨x8,h8,h⟩:=Option.bind_eq_some_iff.1 h
  have h8:=bs h8
  obtain⟨x9,h9,h⟩:=Option.bind_eq_some_iff.1 h
  have h9:=bs h9
  cases h
  refine⟨by simp [Bt.enc,ah,Cell.den,h0.1,h1.1,h2.1,h3.1,h4.1,h5.1,h6.1,h7.1,h8.1,h9.1],fun c hc=>?_⟩
  simp only [List.mem_cons,List.not_mem_nil,or_false] at hc
  rcases hc with rfl | rfl | rfl | rfl | rfl | rfl | rfl | rfl | rfl | rfl
  ·exact h0.2
  ·exact h1.2
  ·exact h2.2
  ·exact h3.2
  ·exact h4.2
  ·exact h5.2
  ·exact h6.2
  ·exact h7.2
  ·exact h8.2
  ·exact h9.2
 ·cases h
def Bt.ak (ty:TypeId):AK Bt:=⟨10,by decide,ty,Bt.enc,fun _=>rfl,fun a c hc=>(by simp only [Bt.enc,List.mem_cons,List.not_mem_nil,or_false] at hc;rcases hc with rfl | rfl | rfl | rfl | rfl | rfl | rfl | rfl | rfl | rfl<;>rfl),Bt.dec,Bt.dec_ok,⟨0,false,0,0,0,0,false,false,0,0⟩⟩
structure Sp where
 is:Bool
 low:Int
 high:Int
deriving DecidableEq,Inhabited
def Sp.enc (a:Sp):List Cell:=[.bt a.is,.it .i64 a.low,.it .i64 a.high]
def Sp.dec:List Cell->Option Sp
 | [c0,c1,c2]=>(bOf c0).bind fun x0=>(iOf c1).bind fun x1=>(iOf c2).bind fun x2=>some ⟨x0,x1,x2⟩
 | _=>none
theorem Sp.dec_ok (cs:List Cell) (a:Sp) (h:Sp.dec cs=some a):ah Nm.id a.enc=ah Nm.id cs /\ ∀c∈cs,c.name=none:=by
 unfold Sp.dec at h
 split at h
 ·rename_i c0 c1 c2
  obtain⟨x0,h0,h⟩:=Option.bind_eq_some_iff.1 h
  have h0:=iA h0
  obtain⟨x1,h1,h⟩:=Option.bind_eq_some_iff.1 h
  have h1:=bs h1
  obtain⟨x2,h2,h⟩:=Option.bind_eq_some_iff.1 h
  have h2:=bs h2
  cases h
  refine⟨by simp [Sp.enc,ah,Cell.den,h0.1,h1.1,h2.1],fun c hc=>?_⟩
  simp only [List.mem_cons,List.not_mem_nil,or_false] at hc
  rcases hc with rfl | rfl | rfl
  ·exact h0.2
  ·exact h1.2
  ·exact h2.2
 ·cases h
def Sp.ak (ty:TypeId):AK Sp:=⟨3,by decide,ty,Sp.enc,fun _=>rfl,fun a c hc=>(by simp only [Sp.enc,List.mem_cons,List.not_mem_nil,or_false] at hc;rcases hc with rfl | rfl | rfl<;>rfl),Sp.dec,Sp.dec_ok,⟨false,0,0⟩⟩
structure Pr where
 key:Int
 val:Int
deriving DecidableEq,Inhabited
def Pr.enc (a:Pr):List Cell:=[.it .i64 a.key,.it .i64 a.val]
def Pr.dec:List Cell->Option Pr
 | [c0,c1]=>(iOf c0).bind fun x0=>(iOf c1).bind fun x1=>some ⟨x0,x1⟩
 | _=>none
theorem Pr.dec_ok (cs:List Cell) (a:Pr) (h:Pr.dec cs=some a):ah Nm.id a.enc=ah Nm.id cs /\ ∀c∈cs,c.name=none:=by
 unfold Pr.dec at h
 split at h
 ·rename_i c0 c1
  obtain⟨x0,h0,h⟩:=Option.bind_eq_some_iff.1 h
  have h0:=bs h0
  obtain⟨x1,h1,h⟩:=Option.bind_eq_some_iff.1 h
  have h1:=bs h1
  cases h
  refine⟨by simp [Pr.enc,ah,Cell.den,h0.1,h1.1],fun c hc=>?_⟩
  simp only [List.mem_cons,List.not_mem_nil,or_false] at hc
  rcases hc with rfl | rfl
  ·exact h0.2
  ·exact h1.2
 ·cases h
def Pr.ak (ty:TypeId):AK Pr:=⟨2,by decide,ty,Pr.enc,fun _=>rfl,fun a c hc=>(by simp only [Pr.enc,List.mem_cons,List.not_mem_nil,or_false] at hc;rcases hc with rfl | rfl<;>rfl),Pr.dec,Pr.dec_ok,⟨0,0⟩⟩
structure Sl where
 gen:Int
 used:Bool
 cells:List W
deriving DecidableEq,Inhabited
def W.zero:W:=⟨0,0,0,0,false⟩
def Sl.at (a:Sl) (i:Nat):W:=a.cells.getD i W.zero
def Sl.enc (a:Sl):List Cell:=.it .i64 a.gen::.bt a.used::((a.at 0).enc++((a.at 1).enc++((a.at 2).enc++((a.at 3).enc++((a.at 4).enc++((a.at 5).enc++((a.at 6).enc++((a.at 7).enc++((a.at 8).enc++((a.at 9).enc++[]))))))))))
def Sl.dec:List Cell->Option Sl
 | c0::c1::r=>(iOf c0).bind fun g=>(bOf c1).bind fun u=>((W.ak 0).decs 10 r).bind fun l=>some ⟨g,u,l⟩
 | _=>none
theorem Dr {α:Type} (K:AK α):∀{n:Nat} {cs:List Cell} {l:List α},K.decs n cs=some l->l.length=n
 | 0,[],l,h=>by simp only [AK.decs,Option.some.injEq] at h;subst h;rfl
 | 0,_::_,l,h=>by simp [AK.decs] at h
 | n+1,cs,l,h=>by
   simp only [AK.decs] at h
   split at h
   ·cases h
   ·split at h
    ·rename_i hl
     cases h
     simp [Dr K hl]
    ·cases h
theorem Sl.enc_eq (g:Int) (u:Bool) (l:List W) (hl:l.length=10):ah Nm.id (Sl.enc ⟨g,u,l⟩)=.int .i64 g::.bool u::(W.ak 0).vals l:=by
 match l,hl with
 | [w0,w1,w2,w3,w4,w5,w6,w7,w8,w9],_=>rfl
theorem Sl.dec_ok (cs:List Cell) (a:Sl) (h:Sl.dec cs=some a):ah Nm.id a.enc=ah Nm.id cs /\ ∀c∈cs,c.name=none:=by
 unfold Sl.dec at h
 split at h
 ·rename_i c0 c1 r
  obtain⟨x0,h0,h⟩:=Option.bind_eq_some_iff.1 h
  have h0:=bs h0
  obtain⟨x1,h1,h⟩:=Option.bind_eq_some_iff.1 h
  have h1:=iA h1
  obtain⟨l,h2,h⟩:=Option.bind_eq_some_iff.1 h
  cases h
  obtain⟨v1,v2⟩:=(W.ak 0).decs_ok h2
  refine⟨?_,fun c hc=>?_⟩
  ·rw [Sl.enc_eq _ _ _ (Dr _ h2),v1]
   simp [ah,h0.1,h1.1]
  ·simp only [List.mem_cons] at hc
   rcases hc with rfl | rfl | hc
   ·exact h0.2
   ·exact h1.2
   ·exact v2 c hc
 ·cases h
theorem W.enc_nm (w:W):∀c∈w.enc,c.name=none:=(W.ak 0).nm w
theorem Sl.enc_nm (a:Sl):∀c∈a.enc,c.name=none:=by
 intro c hc
 simp only [Sl.enc,List.mem_cons,List.mem_append,List.not_mem_nil,or_false] at hc
 rcases hc with rfl | rfl | h | h | h | h | h | h | h | h | h | h
 ·rfl
 ·rfl
 all_goals exact W.enc_nm _ c h
def Sl.ak (ty:TypeId):AK Sl:=⟨52,by decide,ty,Sl.enc,fun _=>rfl,Sl.enc_nm,Sl.dec,Sl.dec_ok,⟨0,false,[]⟩⟩
def Sl.setAt (a:Sl) (k:Nat) (w:W):Sl:=⟨a.gen,a.used,(List.range 10).map fun j=>if j=k then w else a.at j⟩
theorem Sl.at_set (a:Sl) (k:Nat) (w:W) (j:Nat) (hj:j < 10):(a.setAt k w).at j=if j=k then w else a.at j:=by
 unfold Sl.setAt
 simp only [Sl.at]
 rw [List.getD_eq_getElem?_getD,List.getElem?_map,List.getElem?_range hj]
 rfl
theorem Sl.enc_part (a:Sl) (k j:Nat) (hk:k < 10) (hj:j < 5):a.enc[2+5 * k+j]?=(a.at k).enc[j]?:=by
 have h:k=0 \/ k=1 \/ k=2 \/ k=3 \/ k=4 \/ k=5 \/ k=6 \/ k=7 \/ k=8 \/ k=9:=by omega
 have h':j=0 \/ j=1 \/ j=2 \/ j=3 \/ j=4:=by omega
 rcases h with rfl | rfl | rfl | rfl | rfl | rfl | rfl | rfl | rfl | rfl<;>rcases h' with rfl | rfl | rfl | rfl | rfl<;>rfl
theorem Sl.enc_set (a:Sl) (k:Nat) (w:W) (hk:k < 10):(a.setAt k w).enc=a.enc.take (2+5 * k)++(w.enc++a.enc.drop (2+5 * k+5)):=by
 have h:k=0 \/ k=1 \/ k=2 \/ k=3 \/ k=4 \/ k=5 \/ k=6 \/ k=7 \/ k=8 \/ k=9:=by omega
 have e:∀j,j < 10->(a.setAt k w).at j=if j=k then w else a.at j:=fun j hj=>a.at_set k w j hj
 unfold Sl.enc
 rw [e 0 (by decide),e 1 (by decide),e 2 (by decide),e 3 (by decide),e 4 (by decide),e 5 (by decide),e 6 (by decide),e 7 (by decide),e 8 (by decide),e 9 (by decide)]
 rcases h with rfl | rfl | rfl | rfl | rfl | rfl | rfl | rfl | rfl | rfl<;>rfl
def Cn (K:AK Sl) (l:List Sl) (i e o n:Nat):Option (Bool×List Cell):=match Nat.beq e 52,Nat.beq n 5,o with
 | true,true,o'+2=>some (match decide (i < l.length) with | true=>(match decide (o' % 5=0) with | true=>decide (o' / 5 < 10) | false=>false) | false=>false,((l.getD i K.dflt).at (o' / 5)).enc)
 | _,_,_=>none
def Ko (K:AK Sl) (l:List Sl) (i e o:Nat) (cs:List Cell):Option (Bool×List Sl):=match Nat.beq e 52 with
 | false=>none
 | true=>match o with
   | 0=>match cs with
     | [c]=>match iOf c with | some n=>some (decide (i < l.length),l.set i {l.getD i K.dflt with gen:=n}) | none=>none
     | _=>none
   | 1=>match cs with
     | [c]=>match bOf c with | some b=>some (decide (i < l.length),l.set i {l.getD i K.dflt with used:=b}) | none=>none
     | _=>none
   | o'+2=>match W.dec cs with
     | some w=>some (match decide (i < l.length) with | true=>(match decide (o' % 5=0) with | true=>decide (o' / 5 < 10) | false=>false) | false=>false,l.set i ((l.getD i K.dflt).setAt (o' / 5) w))
     | none=>none
theorem Ra {p q r:Prop} [Decidable p] [Decidable q] [Decidable r] (h:(match decide p with | true=>(match decide q with | true=>decide r | false=>false) | false=>false)=true):p /\ q /\ r:=by
 by_cases hp:p<;>by_cases hq:q<;>simp_all
section
variable {ty:TypeId} {l:List Sl} {lc:Sx.Loc} {S:Nat->Prop} {w:World}
theorem Kp {i e o n:Nat} {cs:List Cell} (hq:(Sl.ak ty).q l lc S w) (h:Cn (Sl.ak ty) l i e o n=some (true,cs)):(∀c∈cs,c.name=none) /\ ∀(j:Nat) c,cs[j]?=some c->w.cell? ⟨lc.b,lc.o+i * e+o+j,none⟩=some (c.den Nm.id):=by
 unfold Cn at h
 split at h
 ·rename_i o' h1 h2
  have h1:=(ai _ _).1 h1
  subst h1
  simp only [Option.some.injEq,Prod.mk.injEq] at h
  obtain⟨hb,rfl⟩:=h
  obtain⟨hi,hm,hk⟩:=Ra hb
  refine⟨W.enc_nm _,fun j c hc=>?_⟩
  have hj:j < 5:=by have:=(List.getElem?_eq_some_iff.1 hc).1;exact this
  have:=(Sl.ak ty).row_ok hq (idx:=i) (es:=52) (cs:=(l.getD i (Sl.ak ty).dflt).enc) (by unfold AK.row;rw [show Nat.beq 52 (Sl.ak ty).es=true from rfl,decide_eq_true hi];rfl) (2+5 * (o' / 5)+j) c (by rw [Sl.enc_part _ _ _ hk hj];exact hc)
  have ho:o'.succ.succ=2+5 * (o' / 5):=by omega
  rw [ho,Nat.add_assoc (lc.o+i * 52)]
  exact this
 ·cases h
theorem rM:∀{l:List Cell} {n:Nat} {ys:List Cell},n+ys.length<=l.length->gZ l n ys=some (l.take n++(ys++l.drop (n+ys.length)))
 | l,0,[],_=>by simp [gZ]
 | [],0,_::_,h=>by simp at h
 | x::l,0,y::ys,h=>by
   have:=rM (l:=l) (n:=0) (ys:=ys) (by simpa using h)
   simp only [Nat.zero_add,List.take_zero,List.nil_append] at this
   simp only [gZ,this,List.length_cons,Nat.zero_add,List.take_zero,List.nil_append,List.drop_succ_cons,List.cons_append]
 | [],n+1,ys,h=>by simp at h
 | x::l,n+1,ys,h=>by
   have:=rM (l:=l) (n:=n) (ys:=ys) (by simp at h;omega)
   simp only [gZ,this]
   rw [show n+1+ys.length=(n+ys.length)+1 by omega]
   simp
theorem Km {l':List Sl} {i e o:Nat} {cs:List Cell} (hq:(Sl.ak ty).q l lc S w) (h:Ko (Sl.ak ty) l i e o cs=some (true,l')):(∀c∈cs,c.name=none) /\ S lc.b /\ ∃(row:List Value) (ty':TypeId),w.heap[lc.b]?=some (.cells row.toArray ty' (0,0)) /\ lc.o+i * e+o+cs.length<=row.length /\
 (Sl.ak ty).q l' lc S (w.setRow lc.b (row.take (lc.o+i * e+o)++(ah Nm.id cs++row.drop (lc.o+i * e+o+cs.length))).toArray):=by
 unfold Ko at h
 split at h
 ·cases h
 ·rename_i he
  have he:=(ai _ _).1 he
  subst he
  have len:∀a:Sl,a.enc.length=52:=fun _=>rfl
  split at h
  ·split at h
   ·rename_i c
    split at h
    ·rename_i n hn
     simp only [Option.some.injEq,Prod.mk.injEq,decide_eq_true_eq] at h
     obtain⟨hi,rfl⟩:=h
     obtain⟨e1,e2⟩:=bs hn
     exact(Sl.ak ty).upd_of hq hi (rM (by show 0+1<=_;rw [show ((Sl.ak ty).enc (l.getD i (Sl.ak ty).dflt)).length=52 from rfl];decide)) (by
      show ah Nm.id (Sl.enc _)=ah Nm.id ([]++([c]++(Sl.enc (l.getD i (Sl.ak ty).dflt)).drop 1))
      simp only [Sl.enc,ah,List.nil_append,List.cons_append,List.drop_succ_cons,List.drop_zero,List.map_cons,e1]
      rfl) (fun x hx=>by rw [List.mem_singleton.1 hx];exact e2)
    ·cases h
   ·cases h
  ·split at h
   ·rename_i c
    split at h
    ·rename_i b hb
     simp only [Option.some.injEq,Prod.mk.injEq,decide_eq_true_eq] at h
     obtain⟨hi,rfl⟩:=h
     obtain⟨e1,e2⟩:=iA hb
     exact(Sl.ak ty).upd_of hq hi (rM (by show 1+1<=_;rw [show ((Sl.ak ty).enc (l.getD i (Sl.ak ty).dflt)).length=52 from rfl];decide)) (by
      show ah Nm.id (Sl.enc _)=ah Nm.id ((Sl.enc (l.getD i (Sl.ak ty).dflt)).take 1++([c]++(Sl.enc (l.getD i (Sl.ak ty).dflt)).drop 2))
      simp only [Sl.enc,ah,List.take_succ_cons,List.take_zero,List.nil_append,List.cons_append,List.drop_succ_cons,List.drop_zero,List.map_cons,e1]
      rfl) (fun x hx=>by rw [List.mem_singleton.1 hx];exact e2)
    ·cases h
   ·cases h
  ·rename_i o'
   split at h
   ·rename_i v hv
    simp only [Option.some.injEq,Prod.mk.injEq] at h
    obtain⟨hb,rfl⟩:=h
    obtain⟨hi,hm,hk⟩:=Ra hb
    obtain⟨e1,e2⟩:=W.dec_ok _ _ hv
    have hl:cs.length=5:=by
     have:=congrArg List.length e1
     rw [bc,bc] at this
     exact this.symm
    have ho:o'.succ.succ=2+5 * (o' / 5):=by omega
    rw [ho]
    exact(Sl.ak ty).upd_of hq hi (rM (by rw [hl,show ((Sl.ak ty).enc (l.getD i (Sl.ak ty).dflt)).length=52 from rfl];omega)) (by
     show ah Nm.id (Sl.enc _)=_
     rw [Sl.enc_set _ _ _ hk]
     show _=ah Nm.id (_++(cs++_))
     rw [hl]
     simp only [ah,List.map_append] at e1 ⊢
     rw [e1]
     rfl) e2
   ·cases h
end
end Go.Sx

namespace Go.Proofs.YtadmfaohjnjajaaGreatDoor
open Go Go.Sx Go.Proofs
structure PlotM where
 board:List W
 slots:List Sl
 free:List N1
 steps:Int
 made:Int
 fault:Option (Int×Nat)
structure Ad where
 s:Int
 g:Int
 f:Int
structure An where
 code:Int
 val:Int
structure Acc where
 kind:Int
 s:Int
 g:Int
 f:Int
 old:W
 new:W
structure Rp1 where
 w:W
 ok:Bool
structure Cl where
 kind:Int
 adr:Ad
 old:W
 new:W
 i:Int
 j:Int
 ans:An
structure H9 where
 h0:W
 h1:W
 h2:W
 h3:W
 h4:W
 h5:W
 h6:W
 h7:W
 h8:W
structure S3 where
 p0:Ad
 c0:W
 p1:Ad
 c1:W
 p2:Ad
 c2:W
structure RiteM where
 call:Cl
 step:Int
 acc:Acc
 word:W
 clock:W
 index:Int
 seen:List W
 doomed:List Nt
 engine:Int
 me:Int
 threads:Int
 most:Int
 holds:H9
 span:Sp
 notes:List Nt
 freed:Int
 reply:Rp1
structure PileM where
 pc:Int
 last:Cl
 op:O
 node:W
 top:W
 val:Int
structure CortM where
 pc:Int
 last:Cl
 op:O
 node:W
 h:W
 t:W
 n:W
 val:Int
structure WalkM where
 pc:Int
 last:Cl
 start:Ad
 key:Int
 prev:Ad
 cur:W
 next:W
 k:Int
 found:Bool
structure LitM where
 pc:Int
 last:Cl
 start:Ad
 key:Int
 op:O
 walk:Option WalkM
 node:W
 val:Int
structure ClimbM where
 pc:Int
 last:Cl
 prev:Ad
 cur:W
 bound:Int
 level:Int
 next:W
 k:Int
 spots:S3
 found:W
structure SteM where
 pc:Int
 last:Cl
 op:O
 climb:Option ClimbM
 node:W
 level:Int
 inc:Int
 val:Int
structure VauM where
 pc:Int
 last:Cl
 op:O
 size:Int
 wanted:Int
 bucket:Int
 child:Int
 base:W
 node:W
 sentinel:W
 walk:Option WalkM
 inner:Option LitM
 answer:An
 count:W
inductive JobM where
 | pile (j:PileM)
 | cort (j:CortM)
 | lit (j:LitM)
 | vau (j:VauM)
 | ste (j:SteM)
structure VerM where
 sort:Int
 engine:Int
 rite:RiteM
 doing:Int
 call:Cl
 op:O
 job:Option JobM
 answer:An
structure RosM where
 ver:VerM
 queue:List O
 given:Int
 last:Int
structure ParM where
 sort:Int
 plot:PlotM
 threads:List RosM
 beats:List Bt
end Go.Proofs.YtadmfaohjnjajaaGreatDoor

namespace Go.Sx
variable {AV:Type}
end Go.Sx

namespace Go.Proofs.YtadmfaohjnjajaaGreatDoor
section
open Go.RowKit Go.Extern.Stop Go.Stop Go.Extern
set_option maxRecDepth 100000
theorem Tryz.isTypeOf (v:Value) (w:World):(Extern.ReflectliteType.typeOf #[.iface 229 v]).run Tryz.prog w=.ok (.iface 175 (.agg #[.pointer (some ⟨7,229,none⟩)])) w:=by kernel_rfl
theorem Tryz.isComparable (w:World):((Extern.ReflectliteType.method fun t=>do Go.Extern.Rtype.noPackHeld "Comparable" t;(fun a=>Value.bool a.comparable) <$> typeInfo t) #[.agg #[.pointer (some ⟨7,229,none⟩)]]).run Tryz.prog w=.ok (.bool true) w:=by kernel_rfl
theorem Tryz.isMethodComparable (v:Value) (w:World):(Go.method 407 175 v "Comparable").run Tryz.prog w=.ok (224,v) w:=by kernel_rfl
theorem Tryz.isComp:(Tryz.prog.info? 229).map (·.comparable)=some true:=by kernel_rfl
theorem Tryz.isSize:(Tryz.prog.info? 295).map (·.size)=some 1:=by kernel_rfl
theorem Tryz.noIsE (v:Value) (xT:TypeId) (w:World):(Instr.typeAssert (.iface 229 v) xT 177 true).run Tryz.prog w=.ok (.tuple #[.nilIface,.bool false]) w:=run_typeAssert_lacksB Tryz.underlying177 (by kernel_rfl) (by kernel_rfl) v xT w
theorem Tryz.noUnwrapE (v:Value) (xT:TypeId) (w:World):(Instr.typeAssert (.iface 229 v) xT 180 true).run Tryz.prog w=.ok (.tuple #[.nilIface,.bool false]) w:=run_typeAssert_lacksB Tryz.underlying180 (by kernel_rfl) (by kernel_rfl) v xT w
theorem Tryz.noUnwrapsE (v:Value) (xT:TypeId) (w:World):(Instr.typeAssert (.iface 229 v) xT 181 true).run Tryz.prog w=.ok (.tuple #[.nilIface,.bool false]) w:=run_typeAssert_lacksB Tryz.underlying181 (by kernel_rfl) (by kernel_rfl) v xT w
theorem Tryz.noIsW (v:Value) (xT:TypeId) (w:World):(Instr.typeAssert (.iface 193 v) xT 177 true).run Tryz.prog w=.ok (.tuple #[.nilIface,.bool false]) w:=run_typeAssert_lacksB Tryz.underlying177 (by kernel_rfl) (by kernel_rfl) v xT w
theorem Tryz.hasUnwrapW (v:Value) (xT:TypeId) (w:World):(Instr.typeAssert (.iface 193 v) xT 180 true).run Tryz.prog w=.ok (.tuple #[.iface 193 v,.bool true]) w:=run_typeAssert_hasB Tryz.underlying180 (by kernel_rfl) v xT w
theorem Tryz.methodUnwrap (v:Value) (w:World):(Go.method 407 193 v "Unwrap").run Tryz.prog w=.ok (234,v) w:=by kernel_rfl
theorem PH (a:Addr) (w:World) :
 Calls Tryz.prog 16 #[.iface 229 (.pointer (some a)),.iface 229 (.pointer (some a))] w fun e w'=>e=.returned (.bool true) /\ w'=w:=by
 obtain⟨i,hi,hcmp⟩:=Option.map_eq_some_iff.1 Tryz.isComp
 obtain⟨j,hj,hjs⟩:=Option.map_eq_some_iff.1 Tryz.isSize
 have h8:=@run_callFunc_extern Tryz.prog 39 _ Extern.ReflectliteType.typeOf Tryz.func39 (by kernel_rfl) (by kernel_rfl) (by kernel_rfl) (by kernel_rfl)
 have h32:=@run_callFunc_extern Tryz.prog 224 _ (Extern.ReflectliteType.method fun t=>do Go.Extern.Rtype.noPackHeld "Comparable" t;pure (.bool (<- typeInfo t).comparable)) Tryz.func224 (by kernel_rfl) (by kernel_rfl) (by kernel_rfl) (by kernel_rfl)
 have tT:=Tryz.isTypeOf
 have cT:=Tryz.isComparable
 have mR:=Tryz.isMethodComparable
 have heq:=run_eql_iface_ptr_same (P:=Tryz.prog) w a Tryz.underlying29 Tryz.underlying229 hi hcmp hj
 go_enter Tryz.func16,Tryz.ntmps16
 go_wp2
 refine wp_loop_rounds 1 ?_
 rw [rounds_succ]
 go_wp2
 go_ret
 exact⟨rfl,rfl⟩
theorem BA (pb po:Nat) (b:Addr) (w:World) (h1:w.cell? ⟨pb,po+1,none⟩=some (.iface 229 (.pointer (some b)))) :
 Calls Tryz.prog 16 #[.iface 193 (.pointer (some ⟨pb,po,none⟩)),.iface 229 (.pointer (some b))] w fun e w'=>e=.returned (.bool true) /\ w'=w:=by
 obtain⟨i,hi,hcmp⟩:=Option.map_eq_some_iff.1 Tryz.isComp
 obtain⟨j,hj,hjs⟩:=Option.map_eq_some_iff.1 Tryz.isSize
 have h8:=@run_callFunc_extern Tryz.prog 39 _ Extern.ReflectliteType.typeOf Tryz.func39 (by kernel_rfl) (by kernel_rfl) (by kernel_rfl) (by kernel_rfl)
 have h32:=@run_callFunc_extern Tryz.prog 224 _ (Extern.ReflectliteType.method fun t=>do Go.Extern.Rtype.noPackHeld "Comparable" t;pure (.bool (<- typeInfo t).comparable)) Tryz.func224 (by kernel_rfl) (by kernel_rfl) (by kernel_rfl) (by kernel_rfl)
 have tT:=Tryz.isTypeOf
 have cT:=Tryz.isComparable
 have mR:=Tryz.isMethodComparable
 have nE:=Tryz.noIsE
 have uE:=Tryz.noUnwrapE
 have vE:=Tryz.noUnwrapsE
 have nW:=Tryz.noIsW
 have uW:=Tryz.hasUnwrapW
 have mU:=Tryz.methodUnwrap
 have heq:=run_eql_iface_ptr_same (P:=Tryz.prog) w b Tryz.underlying29 Tryz.underlying229 hi hcmp hj
 have hty:=run_eql_iface_types (P:=Tryz.prog) 193 229 (.pointer (some ⟨pb,po,none⟩)) (.pointer (some b)) Tryz.underlying29 (by decide) w
 go_enter Tryz.func16,Tryz.ntmps16
 go_wp2
 refine wp_loop_rounds 2 ?_
 rw [rounds_succ]
 go_wp2
 rw [rounds_succ]
 go_wp2
 go_ret
 exact⟨rfl,rfl⟩
end
section
open Go Go.Sx Go.Proofs
variable {AV:Type} {N:Env AV}
def J4:List SV->Hp AV->T (SV×Hp AV)
 | [.v (.c (.ifc te (.op i a))),.v (.c (.ifc tt (.op j b)))],H=>match Nat.beq te 229,Nat.beq tt 229,Nat.beq i j with
   | true,true,true=>.need (decide (a=b)) (.leaf (.v (.c (.bl true)),H))
   | _,_,_=>.fail "Is"
 | [.v (.c (.ifc tw (.ptr n 0))),.v (.c (.ifc tt (.op j b)))],H=>match Nat.beq tw 193,Nat.beq tt 229,ab H n with
   | true,true,some (.cells [_,.ifc te (.op i a)] _)=>match Nat.beq te 229,Nat.beq i j with
     | true,true=>.need (decide (a=b)) (.leaf (.v (.c (.bl true)),H))
     | _,_=>.fail "Is"
   | _,_,_=>.fail "Is"
 | _,_=>.fail "Is"
theorem same_ok {f:FuncId} {args:List SV} {H:Hp AV} {v:SV} (hC:bU N H) (hv:Plain v)
 (hc:∀(ρ:Nm) (w:World),Own N ρ H w->Calls Tryz.prog f (args.map (SV.den ρ)).toArray w fun e w'=>e=.returned (v.den ρ) /\ w'=w) :
 ClV H v /\ bU N H /\ ∀(ρ:Nm) (w:World),Own N ρ H w ->
  Calls Tryz.prog f (args.map (SV.den ρ)).toArray w fun e w'=>∃ρ',e=.returned (v.den ρ') /\ Own N ρ' H w' /\ Evo N H.length ρ H w ρ' H w':=by
 refine⟨hv.cl _,hC,fun ρ w hO=>(hc ρ w hO).mono ?_⟩
 rintro e w' ⟨rfl,rfl⟩
 exact⟨ρ,rfl,hO,Evo.refl _ _ _ _⟩
theorem plT:Plain (.v (.c (.bl true))):=by intro c hc;simp [V1.cells] at hc;subst hc;rfl
theorem WN:FnOk Tryz.prog N 16 J4:=by
 intro args H v H' h hargs hC
 unfold J4 at h
 split at h
 ·rename_i te _ a tt _ b
  split at h
  ·rename_i h1 h2 _
   have h1:=(ai _ _).1 h1
   have h2:=(ai _ _).1 h2
   subst h1 h2
   obtain⟨hab,h⟩:=cZ h
   have hab:=of_decide_eq_true hab
   subst hab
   simp only [T.val,Option.some.injEq,Prod.mk.injEq] at h
   obtain⟨rfl,rfl⟩:=h
   exact same_ok hC plT fun ρ w _=>PH a w
  ·simp [T.val] at h
 ·rename_i tw n tt _ b
  split at h
  ·rename_i p te _ a ty h1 h2 hn
   split at h
   ·rename_i h3 _
    have h1:=(ai _ _).1 h1
    have h2:=(ai _ _).1 h2
    have h3:=(ai _ _).1 h3
    subst h1 h2 h3
    obtain⟨hab,h⟩:=cZ h
    have hab:=of_decide_eq_true hab
    subst hab
    simp only [T.val,Option.some.injEq,Prod.mk.injEq] at h
    obtain⟨rfl,rfl⟩:=h
    refine same_ok hC plT fun ρ w hO=>BA (ρ n) 0 a w ?_
    have:=yr hO hn 1 _ rfl
    exact this
   ·simp [T.val] at h
  ·simp [T.val] at h
 ·simp [T.val] at h
end
section
open Go Go.Sx Go.Proofs
inductive AV where
 | sent (i:Nat) | words (l:List W) | ints (l:List N1) | notes (l:List Nt) | ops (l:List O) | beats (l:List Bt) | spans (l:List Sp) | pairs (l:List Pr) | slots (l:List Sl)
 | wordsA (l:List W) | intsA (l:List N1) | notesA (l:List Nt) | opsA (l:List O) | beatsA (l:List Bt) | spansA (l:List Sp) | pairsA (l:List Pr)
 | plot (m:PlotM) | obj (d:Nat) (ty:TypeId) (cs:List (GC AV)) | oba (d es:Nat) (ty:TypeId) (cs:List (GC AV))
 | rite (m:RiteM) | pile (m:PileM) | cort (m:CortM) | walk (m:WalkM) | lit (m:LitM) | climb (m:ClimbM) | ste (m:SteM) | vau (m:VauM) | ver (m:VerM) | par (m:ParM)
abbrev kwords:AK W:=W.ak 60
abbrev kints:AK N1:=N1.ak 3
abbrev knotes:AK Nt:=Nt.ak 151
abbrev kops:AK O:=O.ak 34
abbrev kbeats:AK Bt:=Bt.ak 974085
abbrev kspans:AK Sp:=Sp.ak 139
abbrev kpairs:AK Pr:=Pr.ak 187
abbrev kslots:AK Sl:=Sl.ak 127
structure Ar where
 α:Type
 K:AK α
 l:List α
def AV.ar:AV->Option Ar
 | .words l=>some ⟨W,kwords,l⟩
 | .ints l=>some ⟨N1,kints,l⟩
 | .notes l=>some ⟨Nt,knotes,l⟩
 | .ops l=>some ⟨O,kops,l⟩
 | .beats l=>some ⟨Bt,kbeats,l⟩
 | .spans l=>some ⟨Sp,kspans,l⟩
 | .pairs l=>some ⟨Pr,kpairs,l⟩
 | .slots l=>some ⟨Sl,kslots,l⟩
 | _=>none
def AV.fix:AV->Option Ar
 | .wordsA l=>some ⟨W,kwords,l⟩
 | .intsA l=>some ⟨N1,kints,l⟩
 | .notesA l=>some ⟨Nt,knotes,l⟩
 | .opsA l=>some ⟨O,kops,l⟩
 | .beatsA l=>some ⟨Bt,kbeats,l⟩
 | .spansA l=>some ⟨Sp,kspans,l⟩
 | .pairsA l=>some ⟨Pr,kpairs,l⟩
 | _=>none
def AV.src:AV->Option AV
 | .wordsA l=>some (.words l)
 | .intsA l=>some (.ints l)
 | .notesA l=>some (.notes l)
 | .opsA l=>some (.ops l)
 | .beatsA l=>some (.beats l)
 | .spansA l=>some (.spans l)
 | .pairsA l=>some (.pairs l)
 | .words l=>some (.words l)
 | .ints l=>some (.ints l)
 | .notes l=>some (.notes l)
 | .ops l=>some (.ops l)
 | .beats l=>some (.beats l)
 | .spans l=>some (.spans l)
 | .pairs l=>some (.pairs l)
 | .slots l=>some (.slots l)
 | _=>none
def AV.upd:AV->Nat->Nat->Nat->List Cell->Option (Bool×AV)
 | .words l,i,e,o,cs=>match kwords.upd l i e o cs with | some (b,r)=>some (b,.words r) | none=>none
 | .ints l,i,e,o,cs=>match kints.upd l i e o cs with | some (b,r)=>some (b,.ints r) | none=>none
 | .notes l,i,e,o,cs=>match knotes.upd l i e o cs with | some (b,r)=>some (b,.notes r) | none=>none
 | .ops l,i,e,o,cs=>match kops.upd l i e o cs with | some (b,r)=>some (b,.ops r) | none=>none
 | .beats l,i,e,o,cs=>match kbeats.upd l i e o cs with | some (b,r)=>some (b,.beats r) | none=>none
 | .spans l,i,e,o,cs=>match kspans.upd l i e o cs with | some (b,r)=>some (b,.spans r) | none=>none
 | .pairs l,i,e,o,cs=>match kpairs.upd l i e o cs with | some (b,r)=>some (b,.pairs r) | none=>none
 | .slots l,i,e,o,cs=>match Ko kslots l i e o cs with | some (b,r)=>some (b,.slots r) | none=>match kslots.upd l i e o cs with | some (b,r)=>some (b,.slots r) | none=>none
 | _,_,_,_,_=>none
def AV.prt:AV->Nat->Nat->Nat->Nat->Option (Bool×List Cell)
 | .slots l,i,e,o,n=>Cn kslots l i e o n
 | _,_,_,_,_=>none
def AV.cat:AV->AV->Option AV
 | .words l,.words r=>some (.words (l++r))
 | .ints l,.ints r=>some (.ints (l++r))
 | .notes l,.notes r=>some (.notes (l++r))
 | .ops l,.ops r=>some (.ops (l++r))
 | .beats l,.beats r=>some (.beats (l++r))
 | .spans l,.spans r=>some (.spans (l++r))
 | .pairs l,.pairs r=>some (.pairs (l++r))
 | .slots l,.slots r=>some (.slots (l++r))
 | _,_=>none
def AV.app:AV->List Cell->Option AV
 | .words l,cs=>match kwords.app l cs with | some r=>some (.words r) | none=>none
 | .ints l,cs=>match kints.app l cs with | some r=>some (.ints r) | none=>none
 | .notes l,cs=>match knotes.app l cs with | some r=>some (.notes r) | none=>none
 | .ops l,cs=>match kops.app l cs with | some r=>some (.ops r) | none=>none
 | .beats l,cs=>match kbeats.app l cs with | some r=>some (.beats r) | none=>none
 | .spans l,cs=>match kspans.app l cs with | some r=>some (.spans r) | none=>none
 | .pairs l,cs=>match kpairs.app l cs with | some r=>some (.pairs r) | none=>none
 | .slots l,cs=>match kslots.app l cs with | some r=>some (.slots r) | none=>none
 | _,_=>none
def AV.cut:AV->Nat->Nat->Option AV
 | .words l,i,j=>some (.words ((l.take j).drop i))
 | .ints l,i,j=>some (.ints ((l.take j).drop i))
 | .notes l,i,j=>some (.notes ((l.take j).drop i))
 | .ops l,i,j=>some (.ops ((l.take j).drop i))
 | .beats l,i,j=>some (.beats ((l.take j).drop i))
 | .spans l,i,j=>some (.spans ((l.take j).drop i))
 | .pairs l,i,j=>some (.pairs ((l.take j).drop i))
 | .slots l,i,j=>some (.slots ((l.take j).drop i))
 | _,_,_=>none
def AV.rar (a:AV):Option Ar:=match a.ar with
 | some r=>some r
 | none=>a.fix
def AV.row (a:AV) (i e:Nat):Option (Bool×List Cell):=match a.rar with
 | some r=>r.K.row r.l i e
 | none=>none
def AV.arr (a:AV):Option (Nat×TypeId×List Value):=match a.ar with
 | some r=>r.K.arr r.l
 | none=>none
def AV.len (a:AV):Nat:=match a.ar with
 | some r=>r.l.length
 | none=>match a with | .oba _ es _ gs=>gs.length / es | _=>0
structure Sg where
 σ:Nat->Addr
 R:Nat->Option Obj
instance:CoeFun Sg (fun _=>Nat->Addr):=⟨Sg.σ⟩
def Sg.has (σ:Sg) (w:World):Prop:=∀k o,σ.R k=some o->w.heap[k]?=some o
def PW (σ:Sg) {α:Type} (K:AK α) (l:List α) (lc:Sx.Loc) (S:Nat->Prop):Prop:=(∀k,¬S k) /\ ∀w,σ.has w->CA lc (K.vals l) K.es w
def AV.q (σ:Sg) (a:AV) (l:Sx.Loc) (S:Nat->Prop) (w:World):Prop:=match a with
 | .sent i=>(∀k,S k↔k=l.b) /\ w.heap[l.b]?=some (.cells #[.iface 229 (.pointer (some (σ i)))] 29 (0,0))
 | a=>match a.ar with
   | some r=>r.K.q r.l l S w
   | none=>match a.fix with
     | some r=>PW σ r.K r.l l S
     | none=>False
theorem AV.q_fix {σ:Sg} {a:AV} {r:Ar} (h0:a.ar=none) (h:a.fix=some r) (l:Sx.Loc) (S:Nat->Prop) (w:World):a.q σ l S w↔PW σ r.K r.l l S:=by
 cases a<;>simp only [AV.q,AV.ar,AV.fix] at h0 h ⊢<;>cases h<;>exact Iff.rfl
theorem AV.q_ar {σ:Sg} {a:AV} {r:Ar} (h:a.ar=some r) (l:Sx.Loc) (S:Nat->Prop) (w:World):a.q σ l S w↔r.K.q r.l l S w:=by
 cases a<;>simp only [AV.q,AV.ar] at h ⊢<;>cases h<;>exact Iff.rfl
def AV.word (σ:Sg):AV->Option (List Cell)
 | .sent i=>some [.ifc 229 (.op i (σ i))]
 | _=>none
def AV.same:AV->AV->Bool
 | .sent i,.sent j=>Nat.beq i j
 | _,_=>false
theorem AV.arr_some {a:AV} {x:Nat×TypeId×List Value} (h:a.arr=some x):∃r,a.ar=some r /\ x=(r.K.es,r.K.ty,r.K.vals r.l):=by
 unfold AV.arr at h
 split at h
 ·rename_i r hr
  cases h
  exact⟨r,hr,rfl⟩
 ·cases h
theorem AV.arr_of {a:AV} {r:Ar} (h:a.ar=some r):a.arr=some (r.K.es,r.K.ty,r.K.vals r.l):=by unfold AV.arr;rw [h];rfl
def RQ {α:Type} (K:AK α) (z:List Cell) (es:Nat) (ty:TypeId) (n:Nat):Option (List α):=match Nat.beq ty K.ty,Nat.beq es K.es,K.dec z with
 | true,true,some a=>some (List.replicate n a)
 | _,_,_=>none
theorem N2 {α:Type} {K:AK α} {z:List Cell} {es:Nat} {ty:TypeId} {n:Nat} {l:List α} (h:RQ K z es ty n=some l):es=K.es /\ ty=K.ty /\ K.vals l=ah Nm.id (fW z n):=by
 unfold RQ at h
 split at h
 ·rename_i a h1 h2 h3
  cases h
  refine⟨(ai _ _).1 h2,(ai _ _).1 h1,?_⟩
  have h4:=(K.dec_ok _ _ h3).1
  have hr:∀n,K.vals (List.replicate n a)=ah Nm.id (fW z n):=fun n=>by
   induction n with
   | zero=>rfl
   | succ n ih =>
     have e1:K.vals (List.replicate (n+1) a)=ah Nm.id (K.enc a)++K.vals (List.replicate n a):=by simp [AK.vals,List.replicate_succ]
     have e2:ah Nm.id (fW z (n+1))=ah Nm.id z++ah Nm.id (fW z n):=by simp [ah,fW]
     rw [e1,e2,ih,h4]
  exact hr n
 ·cases h
def AV.zer (z:List Cell) (es:Nat) (ty:TypeId) (n:Nat):Option AV:=match RQ kslots z es ty n with
 | some l=>some (.slots l)
 | none=>none
theorem AV.zer_ok (z:List Cell) (es:Nat) (ty:TypeId) (n:Nat) (a:AV) (h:AV.zer z es ty n=some a):a.arr=some (es,ty,ah Nm.id (fW z n)):=by
 unfold AV.zer at h
 split at h
 ·rename_i l hl
  cases h
  obtain⟨rfl,rfl,h3⟩:=N2 hl
  rw [AV.arr_of rfl,<- h3]
 ·cases h
def avF (σ:Sg):Intf AV where
 q:=AV.q σ
 loc:=fun a l S w w' hk hq=>by
  cases ha:a.ar with
  | some r=>exact(AV.q_ar ha l S w').2 (r.K.q_loc hk ((AV.q_ar ha l S w).1 hq))
  | none =>
    cases hf:a.fix with
    | some r=>exact(AV.q_fix ha hf l S w').2 ((AV.q_fix ha hf l S w).1 hq)
    | none =>
      cases a with
      | sent i=>exact⟨hq.1,by rw [hk l.b ((hq.1 _).2 rfl)];exact hq.2⟩
      | _=>first | (cases ha;done) | (cases hf;done) | exact hq.elim
 dom:=fun a l S w k hq hk=>by
  cases ha:a.ar with
  | some r=>exact r.K.q_dom ((AV.q_ar ha l S w).1 hq) hk
  | none =>
    cases hf:a.fix with
    | some r=>exact absurd hk (((AV.q_fix ha hf l S w).1 hq).1 k)
    | none =>
      cases a with
      | sent i =>
        rw [(hq.1 k).1 hk]
        exact(Array.getElem?_eq_some_iff.1 hq.2).1
      | _=>first | (cases ha;done) | (cases hf;done) | exact hq.elim
 row:=AV.row
 row_nm:=fun a idx es cs h=>by
  unfold AV.row at h
  split at h
  ·rename_i r hr;exact r.K.row_nm h
  ·cases h
 R:=σ.R
 row_ok:=fun a l S w idx es cs hR hq h=>by
  unfold AV.row at h
  split at h
  ·rename_i r hr
   unfold AV.rar at hr
   split at hr
   ·rename_i r' ha
    cases hr
    exact r.K.row_ok ((AV.q_ar ha l S w).1 hq) h
   ·rename_i ha
    exact r.K.row_read (((AV.q_fix ha hr l S w).1 hq).2 w hR) h
  ·cases h
 prt:=AV.prt
 prt_nm:=fun a i e o n cs h=>by
  cases a<;>first
   | (cases h;done)
   | (rename_i l
      have h:Cn kslots l i e o n=some (true,cs):=h
      unfold Cn at h
      split at h
      ·simp only [Option.some.injEq,Prod.mk.injEq] at h
       rw [<- h.2];exact W.enc_nm _
      ·cases h)
 prt_ok:=fun a l S w i e o n cs hR hq h=>by
  cases a<;>first
   | (cases h;done)
   | exact(Kp ((AV.q_ar rfl l S w).1 hq) h).2
 upd:=AV.upd
 upd_ok:=fun a l S w idx es off cs a' hq h=>by
  unfold AV.upd at h
  split at h
  ·split at h
   ·rename_i b r hr
    simp only [Option.some.injEq,Prod.mk.injEq] at h
    obtain⟨rfl,rfl⟩:=h
    exact kwords.upd_ok hq hr
   ·cases h
  ·split at h
   ·rename_i b r hr
    simp only [Option.some.injEq,Prod.mk.injEq] at h
    obtain⟨rfl,rfl⟩:=h
    exact kints.upd_ok hq hr
   ·cases h
  ·split at h
   ·rename_i b r hr
    simp only [Option.some.injEq,Prod.mk.injEq] at h
    obtain⟨rfl,rfl⟩:=h
    exact knotes.upd_ok hq hr
   ·cases h
  ·split at h
   ·rename_i b r hr
    simp only [Option.some.injEq,Prod.mk.injEq] at h
    obtain⟨rfl,rfl⟩:=h
    exact kops.upd_ok hq hr
   ·cases h
  ·split at h
   ·rename_i b r hr
    simp only [Option.some.injEq,Prod.mk.injEq] at h
    obtain⟨rfl,rfl⟩:=h
    exact kbeats.upd_ok hq hr
   ·cases h
  ·split at h
   ·rename_i b r hr
    simp only [Option.some.injEq,Prod.mk.injEq] at h
    obtain⟨rfl,rfl⟩:=h
    exact kspans.upd_ok hq hr
   ·cases h
  ·split at h
   ·rename_i b r hr
    simp only [Option.some.injEq,Prod.mk.injEq] at h
    obtain⟨rfl,rfl⟩:=h
    exact kpairs.upd_ok hq hr
   ·cases h
  ·split at h
   ·rename_i b r hr
    simp only [Option.some.injEq,Prod.mk.injEq] at h
    obtain⟨rfl,rfl⟩:=h
    exact Km hq hr
   ·split at h
    ·rename_i b r hr
     simp only [Option.some.injEq,Prod.mk.injEq] at h
     obtain⟨rfl,rfl⟩:=h
     exact kslots.upd_ok hq hr
    ·cases h
  ·cases h
 word:=AV.word σ
 word_nm:=fun a cs h c hc=>by
  unfold AV.word at h
  split at h
  ·cases h
   rw [List.mem_singleton.1 hc]
   rfl
  ·cases h
 word_ok:=fun a l S w cs hq h j c hc=>by
  unfold AV.word at h
  split at h
  ·cases h
   match j,hc with
   | 0,hc =>
     simp only [List.getElem?_cons_zero,Option.some.injEq] at hc
     subst hc
     simp [World.cell?,hq.2,Cell.den]
  ·cases h
 same:=AV.same
 same_ok:=fun a b h=>by
  unfold AV.same at h
  split at h
  ·rw [(ai _ _).1 h]
  ·cases h
 arr:=AV.arr
 arr_q:=fun a es ty vs h=>by
  obtain⟨r,hr,hx⟩:=AV.arr_some h
  simp only [Prod.mk.injEq] at hx
  obtain⟨rfl,rfl,rfl⟩:=hx
  exact⟨r.K.vals_one r.l,fun l S w=>AV.q_ar hr l S w⟩
 src:=AV.src
 src_ok:=fun a b es ty vs h hb l S w hR hq=>by
  unfold AV.src at h
  split at h
  ·cases h;cases hb;exact((AV.q_fix rfl rfl l S w).1 hq).2 w hR
  ·cases h;cases hb;exact((AV.q_fix rfl rfl l S w).1 hq).2 w hR
  ·cases h;cases hb;exact((AV.q_fix rfl rfl l S w).1 hq).2 w hR
  ·cases h;cases hb;exact((AV.q_fix rfl rfl l S w).1 hq).2 w hR
  ·cases h;cases hb;exact((AV.q_fix rfl rfl l S w).1 hq).2 w hR
  ·cases h;cases hb;exact((AV.q_fix rfl rfl l S w).1 hq).2 w hR
  ·cases h;cases hb;exact((AV.q_fix rfl rfl l S w).1 hq).2 w hR
  ·cases h;cases hb;exact fR ((AV.q_ar rfl l S w).1 hq)
  ·cases h;cases hb;exact fR ((AV.q_ar rfl l S w).1 hq)
  ·cases h;cases hb;exact fR ((AV.q_ar rfl l S w).1 hq)
  ·cases h;cases hb;exact fR ((AV.q_ar rfl l S w).1 hq)
  ·cases h;cases hb;exact fR ((AV.q_ar rfl l S w).1 hq)
  ·cases h;cases hb;exact fR ((AV.q_ar rfl l S w).1 hq)
  ·cases h;cases hb;exact fR ((AV.q_ar rfl l S w).1 hq)
  ·cases h;cases hb;exact fR ((AV.q_ar rfl l S w).1 hq)
  ·cases h
 len:=AV.len
 len_ok:=fun a es ty vs h=>by
  obtain⟨r,hr,hx⟩:=AV.arr_some h
  simp only [Prod.mk.injEq] at hx
  obtain⟨rfl,rfl,rfl⟩:=hx
  rw [r.K.vals_len]
  unfold AV.len
  rw [hr]
 cat:=AV.cat
 cat_ok:=fun a b c h=>by
  unfold AV.cat at h
  split at h
  ·cases h;exact⟨_,_,_,_,_,rfl,rfl,by rw [AV.arr_of rfl,AK.vals_append]⟩
  ·cases h;exact⟨_,_,_,_,_,rfl,rfl,by rw [AV.arr_of rfl,AK.vals_append]⟩
  ·cases h;exact⟨_,_,_,_,_,rfl,rfl,by rw [AV.arr_of rfl,AK.vals_append]⟩
  ·cases h;exact⟨_,_,_,_,_,rfl,rfl,by rw [AV.arr_of rfl,AK.vals_append]⟩
  ·cases h;exact⟨_,_,_,_,_,rfl,rfl,by rw [AV.arr_of rfl,AK.vals_append]⟩
  ·cases h;exact⟨_,_,_,_,_,rfl,rfl,by rw [AV.arr_of rfl,AK.vals_append]⟩
  ·cases h;exact⟨_,_,_,_,_,rfl,rfl,by rw [AV.arr_of rfl,AK.vals_append]⟩
  ·cases h;exact⟨_,_,_,_,_,rfl,rfl,by rw [AV.arr_of rfl,AK.vals_append]⟩
  ·cases h
 app:=AV.app
 app_ok:=fun a cs c h=>by
  unfold AV.app at h
  split at h
  ·split at h
   ·rename_i r hr
    cases h
    obtain⟨h1,h2⟩:=kwords.app_ok hr
    exact⟨h1,_,_,_,rfl,by rw [AV.arr_of rfl,h2]⟩
   ·cases h
  ·split at h
   ·rename_i r hr
    cases h
    obtain⟨h1,h2⟩:=kints.app_ok hr
    exact⟨h1,_,_,_,rfl,by rw [AV.arr_of rfl,h2]⟩
   ·cases h
  ·split at h
   ·rename_i r hr
    cases h
    obtain⟨h1,h2⟩:=knotes.app_ok hr
    exact⟨h1,_,_,_,rfl,by rw [AV.arr_of rfl,h2]⟩
   ·cases h
  ·split at h
   ·rename_i r hr
    cases h
    obtain⟨h1,h2⟩:=kops.app_ok hr
    exact⟨h1,_,_,_,rfl,by rw [AV.arr_of rfl,h2]⟩
   ·cases h
  ·split at h
   ·rename_i r hr
    cases h
    obtain⟨h1,h2⟩:=kbeats.app_ok hr
    exact⟨h1,_,_,_,rfl,by rw [AV.arr_of rfl,h2]⟩
   ·cases h
  ·split at h
   ·rename_i r hr
    cases h
    obtain⟨h1,h2⟩:=kspans.app_ok hr
    exact⟨h1,_,_,_,rfl,by rw [AV.arr_of rfl,h2]⟩
   ·cases h
  ·split at h
   ·rename_i r hr
    cases h
    obtain⟨h1,h2⟩:=kpairs.app_ok hr
    exact⟨h1,_,_,_,rfl,by rw [AV.arr_of rfl,h2]⟩
   ·cases h
  ·split at h
   ·rename_i r hr
    cases h
    obtain⟨h1,h2⟩:=kslots.app_ok hr
    exact⟨h1,_,_,_,rfl,by rw [AV.arr_of rfl,h2]⟩
   ·cases h
  ·cases h
 cut:=AV.cut
 cut_ok:=fun a i j c h=>by
  unfold AV.cut at h
  split at h
  ·cases h;exact⟨_,_,_,rfl,by rw [AV.arr_of rfl,AK.cut_ok]⟩
  ·cases h;exact⟨_,_,_,rfl,by rw [AV.arr_of rfl,AK.cut_ok]⟩
  ·cases h;exact⟨_,_,_,rfl,by rw [AV.arr_of rfl,AK.cut_ok]⟩
  ·cases h;exact⟨_,_,_,rfl,by rw [AV.arr_of rfl,AK.cut_ok]⟩
  ·cases h;exact⟨_,_,_,rfl,by rw [AV.arr_of rfl,AK.cut_ok]⟩
  ·cases h;exact⟨_,_,_,rfl,by rw [AV.arr_of rfl,AK.cut_ok]⟩
  ·cases h;exact⟨_,_,_,rfl,by rw [AV.arr_of rfl,AK.cut_ok]⟩
  ·cases h;exact⟨_,_,_,rfl,by rw [AV.arr_of rfl,AK.cut_ok]⟩
  ·cases h
 zer:=AV.zer
 zer_ok:=AV.zer_ok
end
end Go.Proofs.YtadmfaohjnjajaaGreatDoor
