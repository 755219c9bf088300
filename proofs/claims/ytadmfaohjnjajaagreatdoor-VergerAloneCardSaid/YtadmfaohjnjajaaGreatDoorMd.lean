import Derived.Test.YtadmfaohjnjajaaGreatDoorSxAr
import Derived.Test.YtadmfaohjnjajaaGreatDoorSxM
import Derived.Test.YtadmfaohjnjajaaGreatDoorChecked
import Derived.WalkKit
import Derived.LaidEql
import Derived.Stop.Asserts
import Derived.RowKitTokens
import Derived.Test.YtadmfaohjnjajaaGreatDoorSxT
import Derived.Test.YtadmfaohjnjajaaGreatDoorSxOf
set_option linter.unusedVariables false
set_option linter.unusedSimpArgs false
set_option maxHeartbeats 0
set_option maxRecDepth 100000
namespace Go.Sx
def kL:Cell->Option Int
 | .il .i64 n=>some n
 | .it .i64 n=>some n
 | .iv .i64 n _ _=>some n
 | .ir .i64 n _ _ _=>some n
 | _=>none
def bOf:Cell->Option Bool
 | .bl b=>some b
 | .bt b=>some b
 | _=>none
theorem dG {c:Cell} {n:Int} (h:kL c=some n):c.ay Nm.id=.int .i64 n /\ c.name=none:=by unfold kL at h;split at h<;>cases h<;>exact⟨rfl,rfl⟩
theorem sZ {c:Cell} {n:Bool} (h:bOf c=some n):c.ay Nm.id=.bool n /\ c.name=none:=by unfold bOf at h;split at h<;>cases h<;>exact⟨rfl,rfl⟩
structure W where
 ae:Int
 gen:Int
 tag:Int
 bU:Int
 mark:Bool
deriving DecidableEq,Inhabited
def W.enc (a:W):List Cell:=[.it .i64 a.ae,.it .i64 a.gen,.it .i64 a.tag,.it .i64 a.bU,.bt a.mark]
def W.jm:List Cell->Option W
 | [c0,c1,c2,c3,c4]=>(kL c0).bind fun x0=>(kL c1).bind fun x1=>(kL c2).bind fun x2=>(kL c3).bind fun x3=>(bOf c4).bind fun x4=>some ⟨x0,x1,x2,x3,x4⟩
 | _=>none
theorem W.ig (cs:List Cell) (a:W) (h:W.jm cs=some a):aF Nm.id a.enc=aF Nm.id cs /\ ∀c∈cs,c.name=none:=by
 unfold W.jm at h;split at h
 ·rename_i c0 c1 c2 c3 c4;obtain⟨x0,h0,h⟩:=aaM.1 h;have h0:=dG h0;obtain⟨x1,h1,h⟩:=aaM.1 h;have h1:=dG h1;obtain⟨x2,h2,h⟩:=aaM.1 h;have h2:=dG h2;obtain⟨x3,h3,h⟩:=aaM.1 h;have h3:=dG h3;obtain⟨x4,h4,h⟩:=aaM.1 h;have h4:=sZ h4;cases h;refine⟨by simp [W.enc,aF,Cell.ay,h0.1,h1.1,h2.1,h3.1,h4.1],fun c hc=>?_⟩;simp only [aaO,aaR,or_false] at hc;rcases hc with rfl | rfl | rfl | rfl | rfl
  ·exact h0.2
  ·exact h1.2
  ·exact h2.2
  ·exact h3.2
  ·exact h4.2
 ·cases h
def W.ak (ty:TypeId):AK W:=⟨5,by decide,ty,W.enc,fun _=>rfl,fun a c hc=>(by simp only [W.enc,aaO,aaR,or_false] at hc;rcases hc with rfl | rfl | rfl | rfl | rfl<;>rfl),W.jm,W.ig,⟨0,0,0,0,false⟩⟩
structure N1 where
 val:Int
deriving DecidableEq,Inhabited
def N1.enc (a:N1):List Cell:=[.it .i64 a.val]
def N1.jm:List Cell->Option N1
 | [c0]=>(kL c0).bind fun x0=>some ⟨x0⟩
 | _=>none
theorem N1.ig (cs:List Cell) (a:N1) (h:N1.jm cs=some a):aF Nm.id a.enc=aF Nm.id cs /\ ∀c∈cs,c.name=none:=by
 unfold N1.jm at h;split at h
 ·rename_i c0;obtain⟨x0,h0,h⟩:=aaM.1 h;have h0:=dG h0;cases h;refine⟨by simp [N1.enc,aF,Cell.ay,h0.1],fun c hc=>?_⟩;simp only [aaO,aaR,or_false] at hc;subst hc;exact h0.2
 ·cases h
def N1.ak (ty:TypeId):AK N1:=⟨1,by decide,ty,N1.enc,fun _=>rfl,fun a c hc=>(by simp only [N1.enc,aaO,aaR,or_false] at hc;subst hc;rfl),N1.jm,N1.ig,⟨0⟩⟩
structure Nt where
 ae:Int
 gen:Int
 tag:Int
 bU:Int
 mark:Bool
 Ah:Int
 Cu:Int
deriving DecidableEq,Inhabited
def Nt.enc (a:Nt):List Cell:=[.it .i64 a.ae,.it .i64 a.gen,.it .i64 a.tag,.it .i64 a.bU,.bt a.mark,.it .i64 a.Ah,.it .i64 a.Cu]
def Nt.jm:List Cell->Option Nt
 | [c0,c1,c2,c3,c4,c5,c6]=>(kL c0).bind fun x0=>(kL c1).bind fun x1=>(kL c2).bind fun x2=>(kL c3).bind fun x3=>(bOf c4).bind fun x4=>(kL c5).bind fun x5=>(kL c6).bind fun x6=>some ⟨x0,x1,x2,x3,x4,x5,x6⟩
 | _=>none
theorem Nt.ig (cs:List Cell) (a:Nt) (h:Nt.jm cs=some a):aF Nm.id a.enc=aF Nm.id cs /\ ∀c∈cs,c.name=none:=by
 unfold Nt.jm at h;split at h
 ·rename_i c0 c1 c2 c3 c4 c5 c6;obtain⟨x0,h0,h⟩:=aaM.1 h;have h0:=dG h0;obtain⟨x1,h1,h⟩:=aaM.1 h;have h1:=dG h1;obtain⟨x2,h2,h⟩:=aaM.1 h;have h2:=dG h2;obtain⟨x3,h3,h⟩:=aaM.1 h;have h3:=dG h3;obtain⟨x4,h4,h⟩:=aaM.1 h;have h4:=sZ h4;obtain⟨x5,h5,h⟩:=aaM.1 h;have h5:=dG h5;obtain⟨x6,h6,h⟩:=aaM.1 h;have h6:=dG h6;cases h;refine⟨by simp [Nt.enc,aF,Cell.ay,h0.1,h1.1,h2.1,h3.1,h4.1,h5.1,h6.1],fun c hc=>?_⟩;simp only [aaO,aaR,or_false] at hc;rcases hc with rfl | rfl | rfl | rfl | rfl | rfl | rfl
  ·exact h0.2
  ·exact h1.2
  ·exact h2.2
  ·exact h3.2
  ·exact h4.2
  ·exact h5.2
  ·exact h6.2
 ·cases h
def Nt.ak (ty:TypeId):AK Nt:=⟨7,by decide,ty,Nt.enc,fun _=>rfl,fun a c hc=>(by simp only [Nt.enc,aaO,aaR,or_false] at hc;rcases hc with rfl | rfl | rfl | rfl | rfl | rfl | rfl<;>rfl),Nt.jm,Nt.ig,⟨0,0,0,0,false,0,0⟩⟩
structure O where
 aj:Int
 key:Int
 val:Int
 bI:Int
deriving DecidableEq,Inhabited
def O.enc (a:O):List Cell:=[.it .i64 a.aj,.it .i64 a.key,.it .i64 a.val,.it .i64 a.bI]
def O.jm:List Cell->Option O
 | [c0,c1,c2,c3]=>(kL c0).bind fun x0=>(kL c1).bind fun x1=>(kL c2).bind fun x2=>(kL c3).bind fun x3=>some ⟨x0,x1,x2,x3⟩
 | _=>none
theorem O.ig (cs:List Cell) (a:O) (h:O.jm cs=some a):aF Nm.id a.enc=aF Nm.id cs /\ ∀c∈cs,c.name=none:=by
 unfold O.jm at h;split at h
 ·rename_i c0 c1 c2 c3;obtain⟨x0,h0,h⟩:=aaM.1 h;have h0:=dG h0;obtain⟨x1,h1,h⟩:=aaM.1 h;have h1:=dG h1;obtain⟨x2,h2,h⟩:=aaM.1 h;have h2:=dG h2;obtain⟨x3,h3,h⟩:=aaM.1 h;have h3:=dG h3;cases h;refine⟨by simp [O.enc,aF,Cell.ay,h0.1,h1.1,h2.1,h3.1],fun c hc=>?_⟩;simp only [aaO,aaR,or_false] at hc;rcases hc with rfl | rfl | rfl | rfl
  ·exact h0.2
  ·exact h1.2
  ·exact h2.2
  ·exact h3.2
 ·cases h
def O.ak (ty:TypeId):AK O:=⟨4,by decide,ty,O.enc,fun _=>rfl,fun a c hc=>(by simp only [O.enc,aaO,aaR,or_false] at hc;rcases hc with rfl | rfl | rfl | rfl<;>rfl),O.jm,O.ig,⟨0,0,0,0⟩⟩
structure Sp where
 is:Bool
 Cj:Int
 Ks:Int
deriving DecidableEq,Inhabited
def Sp.enc (a:Sp):List Cell:=[.bt a.is,.it .i64 a.Cj,.it .i64 a.Ks]
def Sp.jm:List Cell->Option Sp
 | [c0,c1,c2]=>(bOf c0).bind fun x0=>(kL c1).bind fun x1=>(kL c2).bind fun x2=>some ⟨x0,x1,x2⟩
 | _=>none
theorem Sp.ig (cs:List Cell) (a:Sp) (h:Sp.jm cs=some a):aF Nm.id a.enc=aF Nm.id cs /\ ∀c∈cs,c.name=none:=by
 unfold Sp.jm at h;split at h
 ·rename_i c0 c1 c2;obtain⟨x0,h0,h⟩:=aaM.1 h;have h0:=sZ h0;obtain⟨x1,h1,h⟩:=aaM.1 h;have h1:=dG h1;obtain⟨x2,h2,h⟩:=aaM.1 h;have h2:=dG h2;cases h;refine⟨by simp [Sp.enc,aF,Cell.ay,h0.1,h1.1,h2.1],fun c hc=>?_⟩;simp only [aaO,aaR,or_false] at hc;rcases hc with rfl | rfl | rfl
  ·exact h0.2
  ·exact h1.2
  ·exact h2.2
 ·cases h
def Sp.ak (ty:TypeId):AK Sp:=⟨3,by decide,ty,Sp.enc,fun _=>rfl,fun a c hc=>(by simp only [Sp.enc,aaO,aaR,or_false] at hc;rcases hc with rfl | rfl | rfl<;>rfl),Sp.jm,Sp.ig,⟨false,0,0⟩⟩
structure Pr where
 key:Int
 val:Int
deriving DecidableEq,Inhabited
def Pr.enc (a:Pr):List Cell:=[.it .i64 a.key,.it .i64 a.val]
def Pr.jm:List Cell->Option Pr
 | [c0,c1]=>(kL c0).bind fun x0=>(kL c1).bind fun x1=>some ⟨x0,x1⟩
 | _=>none
theorem Pr.ig (cs:List Cell) (a:Pr) (h:Pr.jm cs=some a):aF Nm.id a.enc=aF Nm.id cs /\ ∀c∈cs,c.name=none:=by
 unfold Pr.jm at h;split at h
 ·rename_i c0 c1;obtain⟨x0,h0,h⟩:=aaM.1 h;have h0:=dG h0;obtain⟨x1,h1,h⟩:=aaM.1 h;have h1:=dG h1;cases h;refine⟨by simp [Pr.enc,aF,Cell.ay,h0.1,h1.1],fun c hc=>?_⟩;simp only [aaO,aaR,or_false] at hc;rcases hc with rfl | rfl
  ·exact h0.2
  ·exact h1.2
 ·cases h
def Pr.ak (ty:TypeId):AK Pr:=⟨2,by decide,ty,Pr.enc,fun _=>rfl,fun a c hc=>(by simp only [Pr.enc,aaO,aaR,or_false] at hc;rcases hc with rfl | rfl<;>rfl),Pr.jm,Pr.ig,⟨0,0⟩⟩
structure Sl where
 gen:Int
 used:Bool
 cells:List W
deriving DecidableEq,Inhabited
def W.zero:W:=⟨0,0,0,0,false⟩
def Sl.at (a:Sl) (i:Nat):W:=a.cells.getD i W.zero
def Sl.enc (a:Sl):List Cell:=.it .i64 a.gen::.bt a.used::((a.at 0).enc++((a.at 1).enc++((a.at 2).enc++((a.at 3).enc++((a.at 4).enc++((a.at 5).enc++((a.at 6).enc++((a.at 7).enc++((a.at 8).enc++((a.at 9).enc++[]))))))))))
def Sl.jm:List Cell->Option Sl
 | c0::c1::r=>(kL c0).bind fun g=>(bOf c1).bind fun u=>((W.ak 0).BI 10 r).bind fun l=>some ⟨g,u,l⟩
 | _=>none
theorem N0 {α:Type} (K:AK α):∀{n:Nat} {cs:List Cell} {l:List α},K.BI n cs=some l->l.length=n
 | 0,[],l,h=>by simp only [AK.BI,aaf] at h;subst h;rfl
 | 0,_::_,l,h=>by simp [AK.BI] at h
 | n+1,cs,l,h=>by
   simp only [AK.BI] at h;split at h
   ·cases h
   ·split at h
    ·rename_i hl;cases h;simp [N0 K hl]
    ·cases h
theorem Sl.enc_eq (g:Int) (u:Bool) (l:List W) (hl:l.length=10):aF Nm.id (Sl.enc ⟨g,u,l⟩)=.int .i64 g::.bool u::(W.ak 0).aT l:=by
 match l,hl with
 | [w0,w1,w2,w3,w4,w5,w6,w7,w8,w9],_=>rfl
theorem Sl.ig (cs:List Cell) (a:Sl) (h:Sl.jm cs=some a):aF Nm.id a.enc=aF Nm.id cs /\ ∀c∈cs,c.name=none:=by
 unfold Sl.jm at h;split at h
 ·rename_i c0 c1 r;obtain⟨x0,h0,h⟩:=aaM.1 h;have h0:=dG h0;obtain⟨x1,h1,h⟩:=aaM.1 h;have h1:=sZ h1;obtain⟨l,h2,h⟩:=aaM.1 h;cases h;obtain⟨v1,v2⟩:=(W.ak 0).Ac h2;refine⟨?_,fun c hc=>?_⟩
  ·rw [Sl.enc_eq _ _ _ (N0 _ h2),v1];simp [aF,h0.1,h1.1]
  ·simp only [aaO] at hc;rcases hc with rfl | rfl | hc
   ·exact h0.2
   ·exact h1.2
   ·exact v2 c hc
 ·cases h
theorem W.FT (w:W):∀c∈w.enc,c.name=none:=(W.ak 0).nm w
theorem Sl.FT (a:Sl):∀c∈a.enc,c.name=none:=by
 intro c hc;simp only [Sl.enc,aaO,adg,aaR,or_false] at hc;rcases hc with rfl | rfl | h | h | h | h | h | h | h | h | h | h
 ·rfl
 ·rfl
 all_goals exact W.FT _ c h
def Sl.ak (ty:TypeId):AK Sl:=⟨52,by decide,ty,Sl.enc,fun _=>rfl,Sl.FT,Sl.jm,Sl.ig,⟨0,false,[]⟩⟩
def Sl.B8 (a:Sl) (k:Nat) (w:W):Sl:=⟨a.gen,a.used,(List.range 10).map fun j=>if j=k then w else a.at j⟩
theorem Sl.aj4 (a:Sl) (k:Nat) (w:W) (j:Nat) (hj:j < 10):(a.B8 k w).at j=if j=k then w else a.at j:=by unfold Sl.B8;simp only [Sl.at];rw [ac7,aeG,List.getElem?_range hj];rfl
theorem Sl.ZD (a:Sl) (k j:Nat) (hk:k < 10) (hj:j < 5):a.enc[2+5 * k+j]?=(a.at k).enc[j]?:=by
 have h:k=0 \/ k=1 \/ k=2 \/ k=3 \/ k=4 \/ k=5 \/ k=6 \/ k=7 \/ k=8 \/ k=9:=by omega
 have h':j=0 \/ j=1 \/ j=2 \/ j=3 \/ j=4:=by omega
 rcases h with rfl | rfl | rfl | rfl | rfl | rfl | rfl | rfl | rfl | rfl<;>rcases h' with rfl | rfl | rfl | rfl | rfl<;>rfl
theorem Sl.adD (a:Sl) (k:Nat) (w:W) (hk:k < 10):(a.B8 k w).enc=a.enc.take (2+5 * k)++(w.enc++a.enc.drop (2+5 * k+5)):=by
 have h:k=0 \/ k=1 \/ k=2 \/ k=3 \/ k=4 \/ k=5 \/ k=6 \/ k=7 \/ k=8 \/ k=9:=by omega
 have e:∀j,j < 10->(a.B8 k w).at j=if j=k then w else a.at j:=fun j hj=>a.aj4 k w j hj
 unfold Sl.enc;rw [e 0 (by decide),e 1 (by decide),e 2 (by decide),e 3 (by decide),e 4 (by decide),e 5 (by decide),e 6 (by decide),e 7 (by decide),e 8 (by decide),e 9 (by decide)];rcases h with rfl | rfl | rfl | rfl | rfl | rfl | rfl | rfl | rfl | rfl<;>rfl
def LR (K:AK Sl) (l:List Sl) (i e o n:Nat):Option (Bool×List Cell):=match Nat.beq e 52,Nat.beq n 5,o with
 | true,true,o'+2=>some (match decide (i < l.length) with | true=>(match decide (o' % 5=0) with | true=>decide (o' / 5 < 10) | false=>false) | false=>false,((l.getD i K.bK).at (o' / 5)).enc)
 | _,_,_=>none
def WH (K:AK Sl) (l:List Sl) (i e o:Nat) (cs:List Cell):Option (Bool×List Sl):=match Nat.beq e 52 with
 | false=>none
 | true=>match o with
   | 0=>match cs with
     | [c]=>match kL c with | some n=>some (decide (i < l.length),l.set i {l.getD i K.bK with gen:=n}) | none=>none
     | _=>none
   | 1=>match cs with
     | [c]=>match bOf c with | some b=>some (decide (i < l.length),l.set i {l.getD i K.bK with used:=b}) | none=>none
     | _=>none
   | o'+2=>match W.jm cs with
     | some w=>some (match decide (i < l.length) with | true=>(match decide (o' % 5=0) with | true=>decide (o' / 5 < 10) | false=>false) | false=>false,l.set i ((l.getD i K.bK).B8 (o' / 5) w))
     | none=>none
theorem afb {p q r:Prop} [Decidable p] [Decidable q] [Decidable r] (h:(match decide p with | true=>(match decide q with | true=>decide r | false=>false) | false=>false)=true):p /\ q /\ r:=by by_cases hp:p<;>by_cases hq:q<;>simp_all
section
variable {ty:TypeId} {l:List Sl} {lc:Sx.m9} {S:Nat->Prop} {w:World}
theorem WI {i e o n:Nat} {cs:List Cell} (hq:(Sl.ak ty).q l lc S w) (h:LR (Sl.ak ty) l i e o n=some (true,cs)):(∀c∈cs,c.name=none) /\ ∀(j:Nat) c,cs[j]?=some c->w.cell? ⟨lc.b,lc.o+i * e+o+j,none⟩=some (c.ay Nm.id):=by
 unfold LR at h;split at h
 ·rename_i o' h1 h2;have h1:=(aG _ _).1 h1;subst h1;simp only [aaf,aaB] at h;obtain⟨hb,rfl⟩:=h;obtain⟨hi,hm,hk⟩:=afb hb;refine⟨W.FT _,fun j c hc=>?_⟩;have hj:j < 5:=by have:=(aaS.1 hc).1;exact this
  have:=(Sl.ak ty).yf hq (idx:=i) (es:=52) (cs:=(l.getD i (Sl.ak ty).bK).enc) (by unfold AK.row;rw [show Nat.beq 52 (Sl.ak ty).es=true from rfl,aaC hi];rfl) (2+5 * (o' / 5)+j) c (by rw [Sl.ZD _ _ _ hk hj];exact hc);have ho:o'.succ.succ=2+5 * (o' / 5):=by omega
  rw [ho,adr (lc.o+i * 52)];exact this
 ·cases h
theorem zC:∀{l:List Cell} {n:Nat} {ys:List Cell},n+ys.length<=l.length->mB l n ys=some (l.take n++(ys++l.drop (n+ys.length)))
 | l,0,[],_=>by simp [mB]
 | [],0,_::_,h=>by simp at h
 | x::l,0,y::ys,h=>by have:=zC (l:=l) (n:=0) (ys:=ys) (by simpa using h);simp only [aby,List.take_zero,acB] at this;simp only [mB,this,aaQ,aby,List.take_zero,acB,List.drop_succ_cons,acY]
 | [],n+1,ys,h=>by simp at h
 | x::l,n+1,ys,h=>by have:=zC (l:=l) (n:=n) (ys:=ys) (by simp at h;omega);simp only [mB,this];rw [show n+1+ys.length=(n+ys.length)+1 by omega];simp
theorem WG {l':List Sl} {i e o:Nat} {cs:List Cell} (hq:(Sl.ak ty).q l lc S w) (h:WH (Sl.ak ty) l i e o cs=some (true,l')):(∀c∈cs,c.name=none) /\ S lc.b /\ ∃(row:List Value) (ty':TypeId),w.heap[lc.b]?=some (.cells row.toArray ty' (0,0)) /\ lc.o+i * e+o+cs.length<=row.length /\
 (Sl.ak ty).q l' lc S (w.setRow lc.b (row.take (lc.o+i * e+o)++(aF Nm.id cs++row.drop (lc.o+i * e+o+cs.length))).toArray):=by
 unfold WH at h;split at h
 ·cases h
 ·rename_i he;have he:=(aG _ _).1 he;subst he;have len:∀a:Sl,a.enc.length=52:=fun _=>rfl;split at h
  ·split at h
   ·rename_i c;split at h
    ·rename_i n hn;simp only [aaf,aaB,decide_eq_true_eq] at h;obtain⟨hi,rfl⟩:=h;obtain⟨e1,e2⟩:=dG hn;exact(Sl.ak ty).JG hq hi (zC (by show 0+1<=_;rw [show ((Sl.ak ty).enc (l.getD i (Sl.ak ty).bK)).length=52 from rfl];decide)) (by
      show aF Nm.id (Sl.enc _)=aF Nm.id ([]++([c]++(Sl.enc (l.getD i (Sl.ak ty).bK)).drop 1));simp only [Sl.enc,aF,acB,acY,List.drop_succ_cons,List.drop_zero,aaU,e1];rfl) (fun x hx=>by rw [aet.1 hx];exact e2)
    ·cases h
   ·cases h
  ·split at h
   ·rename_i c;split at h
    ·rename_i b hb;simp only [aaf,aaB,decide_eq_true_eq] at h;obtain⟨hi,rfl⟩:=h;obtain⟨e1,e2⟩:=sZ hb;exact(Sl.ak ty).JG hq hi (zC (by show 1+1<=_;rw [show ((Sl.ak ty).enc (l.getD i (Sl.ak ty).bK)).length=52 from rfl];decide)) (by
      show aF Nm.id (Sl.enc _)=aF Nm.id ((Sl.enc (l.getD i (Sl.ak ty).bK)).take 1++([c]++(Sl.enc (l.getD i (Sl.ak ty).bK)).drop 2));simp only [Sl.enc,aF,List.take_succ_cons,List.take_zero,acB,acY,List.drop_succ_cons,List.drop_zero,aaU,e1];rfl) (fun x hx=>by rw [aet.1 hx];exact e2)
    ·cases h
   ·cases h
  ·rename_i o';split at h
   ·rename_i v hv;simp only [aaf,aaB] at h;obtain⟨hb,rfl⟩:=h;obtain⟨hi,hm,hk⟩:=afb hb;obtain⟨e1,e2⟩:=W.ig _ _ hv;have hl:cs.length=5:=by have:=congrArg List.length e1;rw [dM,dM] at this;exact this.symm
    have ho:o'.succ.succ=2+5 * (o' / 5):=by omega
    rw [ho];exact(Sl.ak ty).JG hq hi (zC (by rw [hl,show ((Sl.ak ty).enc (l.getD i (Sl.ak ty).bK)).length=52 from rfl];omega)) (by
     show aF Nm.id (Sl.enc _)=_;rw [Sl.adD _ _ _ hk];show _=aF Nm.id (_++(cs++_));rw [hl];simp only [aF,adA] at e1 ⊢;rw [e1];rfl) e2
   ·cases h
end
end Go.Sx

namespace Go.Proofs.YtadmfaohjnjajaaGreatDoor
open Go Go.Sx Go.Proofs
structure ah where
 dX:List W
 aW:List Sl
 free:List N1
 steps:Int
 made:Int
 fault:Option (Int×Nat)
structure Ad where
 s:Int
 g:Int
 f:Int
structure An where
 mZ:Int
 val:Int
structure pB where
 aj:Int
 s:Int
 g:Int
 f:Int
 dy:W
 new:W
structure cJ where
 w:W
 ok:Bool
structure Cl where
 aj:Int
 dh:Ad
 dy:W
 new:W
 i:Int
 j:Int
 qB:An
structure H9 where
 h0:W
 h1:W
 h2:W
 h3:W
 h4:W
 h5:W
 h6:W
 h7:W
 h8:W
structure S3 where
 p0:Ad
 c0:W
 p1:Ad
 c1:W
 p2:Ad
 c2:W
structure ax where
 call:Cl
 step:Int
 acc:pB
 word:W
 clock:W
 index:Int
 seen:List W
 aS:List Nt
 au:Int
 me:Int
 dk:Int
 most:Int
 holds:H9
 span:Sp
 notes:List Nt
 dS:Int
 bD:cJ
structure dz where
 pc:Int
 last:Cl
 op:O
 node:W
 top:W
 val:Int
structure dj where
 pc:Int
 last:Cl
 op:O
 node:W
 h:W
 t:W
 n:W
 val:Int
structure bs where
 pc:Int
 last:Cl
 start:Ad
 key:Int
 prev:Ad
 cur:W
 next:W
 k:Int
 found:Bool
structure cU where
 pc:Int
 last:Cl
 start:Ad
 key:Int
 op:O
 walk:Option bs
 node:W
 val:Int
structure aQ where
 pc:Int
 last:Cl
 prev:Ad
 cur:W
 CA:Int
 level:Int
 next:W
 k:Int
 eJ:S3
 found:W
structure cD where
 pc:Int
 last:Cl
 op:O
 kY:Option aQ
 node:W
 level:Int
 inc:Int
 val:Int
structure ca where
 pc:Int
 last:Cl
 op:O
 size:Int
 wanted:Int
 bucket:Int
 child:Int
 base:W
 node:W
 sentinel:W
 walk:Option bs
 inner:Option cU
 answer:An
 count:W
inductive dV where
 | eu (j:dz)
 | dO (j:dj)
 | lit (j:cU)
 | pQ (j:ca)
 | pn (j:cD)
structure aA where
 sort:Int
 au:Int
 aP:ax
 aO:Int
 call:Cl
 op:O
 cF:Option dV
 answer:An
structure aY where
 st:Int
 aT:List N1
 aX:List Pr
end Go.Proofs.YtadmfaohjnjajaaGreatDoor

namespace Go.Sx
variable {AV:Type}
end Go.Sx

namespace Go.Proofs.YtadmfaohjnjajaaGreatDoor
section
open Go.RowKit Go.Extern.Stop Go.Stop Go.Extern
theorem Tryz.isTypeOf (v:Value) (w:World):(Extern.ReflectliteType.typeOf #[.iface 229 v]).run Tryz.prog w=.ok (.iface 175 (.agg #[.pointer (some ⟨7,229,none⟩)])) w:=by kernel_rfl
theorem Tryz.isComparable (w:World):((Extern.ReflectliteType.method fun t=>do Go.Extern.Rtype.noPackHeld "Comparable" t;(fun a=>Value.bool a.comparable) <$> typeInfo t) #[.agg #[.pointer (some ⟨7,229,none⟩)]]).run Tryz.prog w=.ok (.bool true) w:=by kernel_rfl
theorem Tryz.isMethodComparable (v:Value) (w:World):(Go.method 407 175 v "Comparable").run Tryz.prog w=.ok (224,v) w:=by kernel_rfl
theorem Tryz.isComp:(Tryz.prog.info? 229).map (·.comparable)=some true:=by kernel_rfl
theorem Tryz.isSize:(Tryz.prog.info? 295).map (·.size)=some 1:=by kernel_rfl
theorem Tryz.noIsE (v:Value) (xT:TypeId) (w:World):(Instr.typeAssert (.iface 229 v) xT 177 true).run Tryz.prog w=.ok (.tuple #[.nilIface,.bool false]) w:=run_typeAssert_lacksB Tryz.underlying177 (by kernel_rfl) (by kernel_rfl) v xT w
theorem Tryz.noUnwrapE (v:Value) (xT:TypeId) (w:World):(Instr.typeAssert (.iface 229 v) xT 180 true).run Tryz.prog w=.ok (.tuple #[.nilIface,.bool false]) w:=run_typeAssert_lacksB Tryz.underlying180 (by kernel_rfl) (by kernel_rfl) v xT w
theorem Tryz.noUnwrapsE (v:Value) (xT:TypeId) (w:World):(Instr.typeAssert (.iface 229 v) xT 181 true).run Tryz.prog w=.ok (.tuple #[.nilIface,.bool false]) w:=run_typeAssert_lacksB Tryz.underlying181 (by kernel_rfl) (by kernel_rfl) v xT w
theorem Tryz.noIsW (v:Value) (xT:TypeId) (w:World):(Instr.typeAssert (.iface 193 v) xT 177 true).run Tryz.prog w=.ok (.tuple #[.nilIface,.bool false]) w:=run_typeAssert_lacksB Tryz.underlying177 (by kernel_rfl) (by kernel_rfl) v xT w
theorem Tryz.hasUnwrapW (v:Value) (xT:TypeId) (w:World):(Instr.typeAssert (.iface 193 v) xT 180 true).run Tryz.prog w=.ok (.tuple #[.iface 193 v,.bool true]) w:=run_typeAssert_hasB Tryz.underlying180 (by kernel_rfl) v xT w
theorem Tryz.methodUnwrap (v:Value) (w:World):(Go.method 407 193 v "Unwrap").run Tryz.prog w=.ok (234,v) w:=by kernel_rfl
theorem acS (a:Addr) (w:World) :
 Calls Tryz.prog 16 #[.iface 229 (.pointer (some a)),.iface 229 (.pointer (some a))] w fun e w'=>e=.returned (.bool true) /\ w'=w:=by
 obtain⟨i,hi,hcmp⟩:=aaT.1 Tryz.isComp;obtain⟨j,hj,hjs⟩:=aaT.1 Tryz.isSize;have h8:=@run_callFunc_extern Tryz.prog 39 _ Extern.ReflectliteType.typeOf Tryz.func39 (by kernel_rfl) (by kernel_rfl) (by kernel_rfl) (by kernel_rfl);have h32:=@run_callFunc_extern Tryz.prog 224 _ (Extern.ReflectliteType.method fun t=>do Go.Extern.Rtype.noPackHeld "Comparable" t;pure (.bool (<- typeInfo t).comparable)) Tryz.func224 (by kernel_rfl) (by kernel_rfl) (by kernel_rfl) (by kernel_rfl)
 have tT:=Tryz.isTypeOf;have cT:=Tryz.isComparable;have mR:=Tryz.isMethodComparable;have heq:=run_eql_iface_ptr_same (P:=Tryz.prog) w a Tryz.underlying29 Tryz.underlying229 hi hcmp hj
 go_enter Tryz.func16,Tryz.ntmps16
 go_wp2
 refine wp_loop_rounds 1 ?_;rw [rounds_succ]
 go_wp2
 go_ret
 exact⟨rfl,rfl⟩
theorem Kj (pb po:Nat) (b:Addr) (w:World) (h1:w.cell? ⟨pb,po+1,none⟩=some (.iface 229 (.pointer (some b)))) :
 Calls Tryz.prog 16 #[.iface 193 (.pointer (some ⟨pb,po,none⟩)),.iface 229 (.pointer (some b))] w fun e w'=>e=.returned (.bool true) /\ w'=w:=by
 obtain⟨i,hi,hcmp⟩:=aaT.1 Tryz.isComp;obtain⟨j,hj,hjs⟩:=aaT.1 Tryz.isSize;have h8:=@run_callFunc_extern Tryz.prog 39 _ Extern.ReflectliteType.typeOf Tryz.func39 (by kernel_rfl) (by kernel_rfl) (by kernel_rfl) (by kernel_rfl);have h32:=@run_callFunc_extern Tryz.prog 224 _ (Extern.ReflectliteType.method fun t=>do Go.Extern.Rtype.noPackHeld "Comparable" t;pure (.bool (<- typeInfo t).comparable)) Tryz.func224 (by kernel_rfl) (by kernel_rfl) (by kernel_rfl) (by kernel_rfl)
 have tT:=Tryz.isTypeOf;have cT:=Tryz.isComparable;have mR:=Tryz.isMethodComparable;have nE:=Tryz.noIsE;have uE:=Tryz.noUnwrapE;have vE:=Tryz.noUnwrapsE;have nW:=Tryz.noIsW;have uW:=Tryz.hasUnwrapW;have mU:=Tryz.methodUnwrap;have heq:=run_eql_iface_ptr_same (P:=Tryz.prog) w b Tryz.underlying29 Tryz.underlying229 hi hcmp hj;have hty:=run_eql_iface_types (P:=Tryz.prog) 193 229 (.pointer (some ⟨pb,po,none⟩)) (.pointer (some b)) Tryz.underlying29 (by decide) w
 go_enter Tryz.func16,Tryz.ntmps16
 go_wp2
 refine wp_loop_rounds 2 ?_;rw [rounds_succ]
 go_wp2
 rw [rounds_succ]
 go_wp2
 go_ret
 exact⟨rfl,rfl⟩
end
section
open Go Go.Sx Go.Proofs
variable {AV:Type} {N:eI AV}
def LK:List SV->Hp AV->T (SV×Hp AV)
 | [.v (.c (.xP te (.op i a))),.v (.c (.xP tt (.op j b)))],H=>match Nat.beq te 229,Nat.beq tt 229,Nat.beq i j with
   | true,true,true=>.aE (decide (a=b)) (.aD (.v (.c (.bl true)),H))
   | _,_,_=>.fail "Is"
 | [.v (.c (.xP tw (.ptr n 0))),.v (.c (.xP tt (.op j b)))],H=>match Nat.beq tw 193,Nat.beq tt 229,af H n with
   | true,true,some (.cells [_,.xP te (.op i a)] _)=>match Nat.beq te 229,Nat.beq i j with
     | true,true=>.aE (decide (a=b)) (.aD (.v (.c (.bl true)),H))
     | _,_=>.fail "Is"
   | _,_,_=>.fail "Is"
 | _,_=>.fail "Is"
theorem tq {f:FuncId} {args:List SV} {H:Hp AV} {v:SV} (hC:eX N H) (hv:uA v)
 (hc:∀(ρ:Nm) (w:World),gF N ρ H w->Calls Tryz.prog f (args.map (SV.ay ρ)).toArray w fun e w'=>e=.returned (v.ay ρ) /\ w'=w) :
 gf H v /\ eX N H /\ ∀(ρ:Nm) (w:World),gF N ρ H w ->
  Calls Tryz.prog f (args.map (SV.ay ρ)).toArray w fun e w'=>∃ρ',e=.returned (v.ay ρ') /\ gF N ρ' H w' /\ lj N H.length ρ H w ρ' H w':=by
 refine⟨hv.cl _,hC,fun ρ w hO=>(hc ρ w hO).mono ?_⟩;rintro e w' ⟨rfl,rfl⟩;exact⟨ρ,rfl,hO,lj.refl _ _ _ _⟩
theorem plT:uA (.v (.c (.bl true))):=by intro c hc;simp [V1.cells] at hc;subst hc;rfl
theorem YJ:cE Tryz.prog N 16 LK:=by
 intro args H v H' h bZ hC;unfold LK at h;split at h
 ·rename_i te _ a tt _ b;split at h
  ·rename_i h1 h2 _;have h1:=(aG _ _).1 h1;have h2:=(aG _ _).1 h2;subst h1 h2;obtain⟨hab,h⟩:=fZ h;have hab:=aaF hab;subst hab;simp only [T.val,aaf,aaB] at h;obtain⟨rfl,rfl⟩:=h;exact tq hC plT fun ρ w _=>acS a w
  ·cases h
 ·rename_i tw n tt _ b;split at h
  ·rename_i p te _ a ty h1 h2 hn;split at h
   ·rename_i h3 _;have h1:=(aG _ _).1 h1;have h2:=(aG _ _).1 h2;have h3:=(aG _ _).1 h3;subst h1 h2 h3;obtain⟨hab,h⟩:=fZ h;have hab:=aaF hab;subst hab;simp only [T.val,aaf,aaB] at h;obtain⟨rfl,rfl⟩:=h;refine tq hC plT fun ρ w hO=>Kj (ρ n) 0 a w ?_;have:=Gb hO hn 1 _ rfl;exact this
   ·cases h
  ·cases h
 ·cases h
end
section
open Go Go.Sx Go.Proofs
inductive AV where
 | gH (i:Nat) | fD (l:List W) | ie (l:List N1) | notes (l:List Nt) | bY (l:List O) | fe (l:List Sp) | aX (l:List Pr) | aW (l:List Sl)
 | J3 (l:List O)
 | gi (m:ah) | Pt (d:Nat) (ty:TypeId) (cs:List (GC AV))
 | aP (m:ax) | eu (m:dz) | dO (m:dj) | walk (m:bs) | lit (m:cU) | kY (m:aQ) | pn (m:cD) | pQ (m:ca) | rE (m:aA) | cre (m:aY)
abbrev fg:AK W:=W.ak 60
abbrev gx:AK N1:=N1.ak 3
abbrev bx:AK Nt:=Nt.ak 151
abbrev CR:AK O:=O.ak 34
abbrev qi:AK Sp:=Sp.ak 139
abbrev cq:AK Pr:=Pr.ak 187
abbrev ic:AK Sl:=Sl.ak 127
structure Ar where
 α:Type
 K:AK α
 l:List α
def AV.ar:AV->Option Ar
 | .fD l=>some ⟨W,fg,l⟩
 | .ie l=>some ⟨N1,gx,l⟩
 | .notes l=>some ⟨Nt,bx,l⟩
 | .bY l=>some ⟨O,CR,l⟩
 | .fe l=>some ⟨Sp,qi,l⟩
 | .aX l=>some ⟨Pr,cq,l⟩
 | .aW l=>some ⟨Sl,ic,l⟩
 | _=>none
def AV.fix:AV->Option Ar
 | .J3 l=>some ⟨O,CR,l⟩
 | _=>none
def AV.su:AV->Option AV
 | .J3 l=>some (.bY l)
 | .fD l=>some (.fD l)
 | .ie l=>some (.ie l)
 | .notes l=>some (.notes l)
 | .bY l=>some (.bY l)
 | .fe l=>some (.fe l)
 | .aX l=>some (.aX l)
 | .aW l=>some (.aW l)
 | _=>none
def AV.xC:AV->Nat->Nat->Nat->List Cell->Option (Bool×AV)
 | .fD l,i,e,o,cs=>match fg.xC l i e o cs with | some (b,r)=>some (b,.fD r) | none=>none
 | .ie l,i,e,o,cs=>match gx.xC l i e o cs with | some (b,r)=>some (b,.ie r) | none=>none
 | .notes l,i,e,o,cs=>match bx.xC l i e o cs with | some (b,r)=>some (b,.notes r) | none=>none
 | .bY l,i,e,o,cs=>match CR.xC l i e o cs with | some (b,r)=>some (b,.bY r) | none=>none
 | .fe l,i,e,o,cs=>match qi.xC l i e o cs with | some (b,r)=>some (b,.fe r) | none=>none
 | .aX l,i,e,o,cs=>match cq.xC l i e o cs with | some (b,r)=>some (b,.aX r) | none=>none
 | .aW l,i,e,o,cs=>match WH ic l i e o cs with | some (b,r)=>some (b,.aW r) | none=>match ic.xC l i e o cs with | some (b,r)=>some (b,.aW r) | none=>none
 | _,_,_,_,_=>none
def AV.K2:AV->Nat->Nat->Nat->Nat->Option (Bool×List Cell)
 | .aW l,i,e,o,n=>LR ic l i e o n
 | _,_,_,_,_=>none
def AV.cat:AV->AV->Option AV
 | .fD l,.fD r=>some (.fD (l++r))
 | .ie l,.ie r=>some (.ie (l++r))
 | .notes l,.notes r=>some (.notes (l++r))
 | .bY l,.bY r=>some (.bY (l++r))
 | .fe l,.fe r=>some (.fe (l++r))
 | .aX l,.aX r=>some (.aX (l++r))
 | .aW l,.aW r=>some (.aW (l++r))
 | _,_=>none
def AV.Le:AV->List Cell->Option AV
 | .fD l,cs=>match fg.Le l cs with | some r=>some (.fD r) | none=>none
 | .ie l,cs=>match gx.Le l cs with | some r=>some (.ie r) | none=>none
 | .notes l,cs=>match bx.Le l cs with | some r=>some (.notes r) | none=>none
 | .bY l,cs=>match CR.Le l cs with | some r=>some (.bY r) | none=>none
 | .fe l,cs=>match qi.Le l cs with | some r=>some (.fe r) | none=>none
 | .aX l,cs=>match cq.Le l cs with | some r=>some (.aX r) | none=>none
 | .aW l,cs=>match ic.Le l cs with | some r=>some (.aW r) | none=>none
 | _,_=>none
def AV.cut:AV->Nat->Nat->Option AV
 | .fD l,i,j=>some (.fD ((l.take j).drop i))
 | .ie l,i,j=>some (.ie ((l.take j).drop i))
 | .notes l,i,j=>some (.notes ((l.take j).drop i))
 | .bY l,i,j=>some (.bY ((l.take j).drop i))
 | .fe l,i,j=>some (.fe ((l.take j).drop i))
 | .aX l,i,j=>some (.aX ((l.take j).drop i))
 | .aW l,i,j=>some (.aW ((l.take j).drop i))
 | _,_,_=>none
def AV.rar (a:AV):Option Ar:=match a.ar with
 | some r=>some r
 | none=>a.fix
def AV.row (a:AV) (i e:Nat):Option (Bool×List Cell):=match a.rar with
 | some r=>r.K.row r.l i e
 | none=>none
def AV.gb (a:AV):Option (Nat×TypeId×List Value):=match a.ar with
 | some r=>r.K.gb r.l
 | none=>none
def AV.len (a:AV):Nat:=match a.ar with
 | some r=>r.l.length
 | none=>0
structure Sg where
 σ:Nat->Addr
 R:Nat->Option Obj
instance:CoeFun Sg (fun _=>Nat->Addr):=⟨Sg.σ⟩
def Sg.has (σ:Sg) (w:World):Prop:=∀k o,σ.R k=some o->w.heap[k]?=some o
def adx (σ:Sg) {α:Type} (K:AK α) (l:List α) (lc:Sx.m9) (S:Nat->Prop):Prop:=(∀k,¬S k) /\ ∀w,σ.has w->Me lc (K.aT l) K.es w
def AV.q (σ:Sg) (a:AV) (l:Sx.m9) (S:Nat->Prop) (w:World):Prop:=match a with
 | .gH i=>(∀k,S k↔k=l.b) /\ w.heap[l.b]?=some (.cells #[.iface 229 (.pointer (some (σ i)))] 29 (0,0))
 | a=>match a.ar with
   | some r=>r.K.q r.l l S w
   | none=>match a.fix with
     | some r=>adx σ r.K r.l l S
     | none=>False
theorem AV.Mh {σ:Sg} {a:AV} {r:Ar} (h0:a.ar=none) (h:a.fix=some r) (l:Sx.m9) (S:Nat->Prop) (w:World):a.q σ l S w↔adx σ r.K r.l l S:=by cases a<;>simp only [AV.q,AV.ar,AV.fix] at h0 h ⊢<;>cases h<;>exact Iff.rfl
theorem AV.Po {σ:Sg} {a:AV} {r:Ar} (h:a.ar=some r) (l:Sx.m9) (S:Nat->Prop) (w:World):a.q σ l S w↔r.K.q r.l l S w:=by cases a<;>simp only [AV.q,AV.ar] at h ⊢<;>cases h<;>exact Iff.rfl
def AV.word (σ:Sg):AV->Option (List Cell)
 | .gH i=>some [.xP 229 (.op i (σ i))]
 | _=>none
def AV.rF:AV->AV->Bool
 | .gH i,.gH j=>Nat.beq i j
 | _,_=>false
theorem AV.Oj {a:AV} {x:Nat×TypeId×List Value} (h:a.gb=some x):∃r,a.ar=some r /\ x=(r.K.es,r.K.ty,r.K.aT r.l):=by
 unfold AV.gb at h;split at h
 ·rename_i r hr;cases h;exact⟨r,hr,rfl⟩
 ·cases h
theorem AV.KQ {a:AV} {r:Ar} (h:a.ar=some r):a.gb=some (r.K.es,r.K.ty,r.K.aT r.l):=by unfold AV.gb;rw [h];rfl
def agB {α:Type} (K:AK α) (z:List Cell) (es:Nat) (ty:TypeId) (n:Nat):Option (List α):=match Nat.beq ty K.ty,Nat.beq es K.es,K.jm z with
 | true,true,some a=>some (List.replicate n a)
 | _,_,_=>none
theorem aaZ {α:Type} {K:AK α} {z:List Cell} {es:Nat} {ty:TypeId} {n:Nat} {l:List α} (h:agB K z es ty n=some l):es=K.es /\ ty=K.ty /\ K.aT l=aF Nm.id (kR z n):=by
 unfold agB at h;split at h
 ·rename_i a h1 h2 h3;cases h;refine⟨(aG _ _).1 h2,(aG _ _).1 h1,?_⟩;have h4:=(K.ig _ _ h3).1;have hr:∀n,K.aT (List.replicate n a)=aF Nm.id (kR z n):=fun n=>by
   induction n with
   | zero=>rfl
   | succ n ih =>
     have e1:K.aT (List.replicate (n+1) a)=aF Nm.id (K.enc a)++K.aT (List.replicate n a):=by simp [AK.aT,List.replicate_succ]
     have e2:aF Nm.id (kR z (n+1))=aF Nm.id z++aF Nm.id (kR z n):=by simp [aF,kR]
     rw [e1,e2,ih,h4]
  exact hr n
 ·cases h
def AV.zer (z:List Cell) (es:Nat) (ty:TypeId) (n:Nat):Option AV:=match agB ic z es ty n with
 | some l=>some (.aW l)
 | none=>none
theorem AV.Az (z:List Cell) (es:Nat) (ty:TypeId) (n:Nat) (a:AV) (h:AV.zer z es ty n=some a):a.gb=some (es,ty,aF Nm.id (kR z n)):=by
 unfold AV.zer at h;split at h
 ·rename_i l hl;cases h;obtain⟨rfl,rfl,h3⟩:=aaZ hl;rw [AV.KQ rfl,<- h3]
 ·cases h
def avF (σ:Sg):gX AV where
 q:=AV.q σ
 loc:=fun a l S w w' hk hq=>by
  cases ha:a.ar with
  | some r=>exact(AV.Po ha l S w').2 (r.K.amZ hk ((AV.Po ha l S w).1 hq))
  | none =>
    cases hf:a.fix with
    | some r=>exact(AV.Mh ha hf l S w').2 ((AV.Mh ha hf l S w).1 hq)
    | none =>
      cases a with
      | gH i=>exact⟨hq.1,by rw [hk l.b ((hq.1 _).2 rfl)];exact hq.2⟩
      | _=>first | (cases ha;done) | (cases hf;done) | exact hq.elim
 dom:=fun a l S w k hq hk=>by
  cases ha:a.ar with
  | some r=>exact r.K.Xu ((AV.Po ha l S w).1 hq) hk
  | none =>
    cases hf:a.fix with
    | some r=>exact absurd hk (((AV.Mh ha hf l S w).1 hq).1 k)
    | none =>
      cases a with
      | gH i =>rw [(hq.1 k).1 hk];exact(ada.1 hq.2).1
      | _=>first | (cases ha;done) | (cases hf;done) | exact hq.elim
 row:=AV.row
 uV:=fun a idx es cs h=>by
  unfold AV.row at h;split at h
  ·rename_i r hr;exact r.K.uV h
  ·cases h
 R:=σ.R
 yf:=fun a l S w idx es cs hR hq h=>by
  unfold AV.row at h;split at h
  ·rename_i r hr;unfold AV.rar at hr;split at hr
   ·rename_i r' ha;cases hr;exact r.K.yf ((AV.Po ha l S w).1 hq) h
   ·rename_i ha;exact r.K.W9 (((AV.Mh ha hr l S w).1 hq).2 w hR) h
  ·cases h
 K2:=AV.K2
 A0:=fun a i e o n cs h=>by
  cases a<;>first
   | (cases h;done)
   | (rename_i l;have h:LR ic l i e o n=some (true,cs):=h;unfold LR at h;split at h
      ·simp only [aaf,aaB] at h;rw [<- h.2];exact W.FT _
      ·cases h)
 J1:=fun a l S w i e o n cs hR hq h=>by
  cases a<;>first
   | (cases h;done)
   | exact(WI ((AV.Po rfl l S w).1 hq) h).2
 xC:=AV.xC
 yd:=fun a l S w idx es off cs a' hq h=>by
  unfold AV.xC at h;split at h;all_goals first
   | (cases h;done)
   | (split at h
      ·rename_i hr;cases h;first | exact WG hq hr | exact AK.yd _ hq hr
      ·first | (cases h;done) | (split at h;(rename_i hr;cases h;exact ic.yd hq hr);cases h))
 word:=AV.word σ
 wy:=fun a cs h c hc=>by
  unfold AV.word at h;split at h
  ·cases h;rw [aet.1 hc];rfl
  ·cases h
 C1:=fun a l S w cs hq h j c hc=>by
  unfold AV.word at h;split at h
  ·cases h
   match j,hc with
   | 0,hc =>simp only [aeD,aaf] at hc;subst hc;simp [World.cell?,hq.2,Cell.ay]
  ·cases h
 rF:=AV.rF
 tq:=fun a b h=>by
  unfold AV.rF at h;split at h
  ·rw [(aG _ _).1 h]
  ·cases h
 gb:=AV.gb
 kZ:=fun a es ty vs h=>by obtain⟨r,hr,hx⟩:=AV.Oj h;simp only [aaB] at hx;obtain⟨rfl,rfl,rfl⟩:=hx;exact⟨r.K.VI r.l,fun l S w=>AV.Po hr l S w⟩
 su:=AV.su
 Ec:=fun a b es ty vs h hb l S w hR hq=>by
  unfold AV.su at h;split at h;all_goals first
   | (cases h;cases hb;exact((AV.Mh rfl rfl l S w).1 hq).2 w hR)
   | (cases h;cases hb;exact Hm ((AV.Po rfl l S w).1 hq))
   | cases h
 len:=AV.len
 tG:=fun a es ty vs h=>by obtain⟨r,hr,hx⟩:=AV.Oj h;simp only [aaB] at hx;obtain⟨rfl,rfl,rfl⟩:=hx;rw [r.K.jZ];unfold AV.len;rw [hr]
 cat:=AV.cat
 KP:=fun a b c h=>by
  unfold AV.cat at h;split at h;all_goals first | (cases h;exact⟨_,_,_,_,_,rfl,rfl,by rw [AV.KQ rfl,AK.mm]⟩) | cases h
 Le:=AV.Le
 BS:=fun a cs c h=>by
  unfold AV.Le at h;split at h;all_goals first
   | (cases h;done)
   | (split at h;(rename_i hr;cases h;obtain⟨h1,h2⟩:=AK.BS _ hr;exact⟨h1,_,_,_,rfl,by rw [AV.KQ rfl,h2]⟩);cases h)
 cut:=AV.cut
 BL:=fun a i j c h=>by
  unfold AV.cut at h;split at h;all_goals first | (cases h;exact⟨_,_,_,rfl,by rw [AV.KQ rfl,AK.BL]⟩) | cases h
 zer:=AV.zer
 Az:=AV.Az
