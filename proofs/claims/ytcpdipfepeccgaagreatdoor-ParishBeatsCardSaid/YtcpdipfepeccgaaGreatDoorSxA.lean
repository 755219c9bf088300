import Derived.Tactics
import Derived.Orders
import Derived.Laws.CopyRow
import Derived.Laws.Cells
import Derived.KernelRfl
set_option linter.unusedVariables false
set_option linter.unusedSimpArgs false
set_option maxHeartbeats 4000000
namespace Go.Sx
noncomputable section
structure Loc where
 b:Nat
 o:Nat:=0
 c:Nat:=0
structure Nm where
 L:Nat->Loc
 S:Nat->Nat->Prop
abbrev Nm.f (ρ:Nm) (n:Nat):Nat:=(ρ.L n).b
instance:CoeFun Nm (fun _=>Nat->Nat):=⟨Nm.f⟩
def Nm.id:Nm:=⟨fun n=>⟨n,0,0⟩,fun _ _=>False⟩
inductive SfF where
 | rest (o l es:Nat) | non (f:SfF) | head (o es:Nat)
deriving DecidableEq
def SfF.ap:SfF->Loc->Loc
 | .rest o l es=>fun q=>if q.c=0 then⟨0,0,0⟩ else if q.c - 1 - o=l then⟨q.b,q.o+o * es,1⟩ else⟨q.b,q.o+(o+l) * es,q.c - (o+l)⟩
 | .non f=>fun q=>if (f.ap q).c=0 then⟨0,0,0⟩ else⟨(f.ap q).b,(f.ap q).o,1⟩
 | .head o es=>fun q=>⟨q.b,q.o+o * es,q.c⟩
inductive Cell where
 | bl (b:Bool) | bt (b:Bool)
 | il (k:IntKind) (n:Int) | it (k:IntKind) (n:Int)
 | iv (k:IntKind) (n:Int) (cs:List Int) (h:∀c∈cs,(n==c)=false)
 | ir (k:IntKind) (n lo hi:Int) (h:lo<=n /\ n < hi)
 | st (s:ByteArray) | sv (s:ByteArray)
 | ptr (n off:Nat) | vel (n idx es off:Nat) | pnil
 | sl (n o len cap:Nat) | snil | sx (a:Option Addr) (cap:Nat) | vs (n o len es:Nat) (kn:Bool)
 | sf (n o es:Nat) (z:Bool) (f:SfF) (h:∀l,(f.ap l).c<=1 \/ z=false /\ f.ap l=⟨l.b,l.o+o * es,l.c - o⟩)
 | ifc (t:TypeId) (c:Cell) | inil
 | fn (f:FuncId) | nfn
 | op (i:Nat) (a:Addr) | mp (r:Option Nat)
def aG (l:Loc) (o len es:Nat):Value :=
 if len=0 /\ l.c=0 then .slice none 0 0 else .slice (some ⟨l.b,l.o+o * es,none⟩) len (l.c - 1 - o)
def Cell.den (ρ:Nm):Cell->Value
 | .bl b=>.bool b
 | .bt b=>.bool b
 | .il k n=>.int k n
 | .it k n=>.int k n
 | .iv k n _ _=>.int k n
 | .ir k n _ _ _=>.int k n
 | .st s=>.string s
 | .sv s=>.string s
 | .ptr n off=>.pointer (some ⟨ρ n,off,none⟩)
 | .vel n idx es off=>.pointer (some ⟨ρ n,(ρ.L n).o+idx * es+off,none⟩)
 | .pnil=>.pointer none
 | .sl n o len cap=>.slice (some ⟨ρ n,o,none⟩) len cap
 | .snil=>.slice none 0 0
 | .sx a cap=>.slice a 0 cap
 | .vs n o len es _=>aG (ρ.L n) o len es
 | .sf n _ es _ f _=>aG (f.ap (ρ.L n)) 0 0 es
 | .ifc t c=>.iface t (c.den ρ)
 | .inil=>.nilIface
 | .fn f=>.func (.func f) #[] #[]
 | .nfn=>.nilFunc
 | .op _ a=>.pointer (some a)
 | .mp r=>.map (r.map ρ.f)
def Cell.name:Cell->Option Nat
 | .ptr n _=>some n
 | .vel n _ _ _=>some n
 | .sl n _ _ _=>some n
 | .vs n _ _ _ _=>some n
 | .sf n _ _ _ _ _=>some n
 | .ifc _ c=>c.name
 | .mp r=>r
 | _=>none
inductive V1 where
 | c (x:Cell) | agg (l:List Cell)
inductive SV where
 | v (x:V1) | tup (l:List V1) | unk | clo (f:FuncId) (l:List Cell)
def V1.cells:V1->List Cell
 | .c x=>[x]
 | .agg l=>l
def ae (ρ:Nm) (l:List Cell):List Value:=l.map (Cell.den ρ)
def V1.den (ρ:Nm):V1->Value
 | .c x=>x.den ρ
 | .agg l=>.agg (ae ρ l).toArray
def SV.den (ρ:Nm):SV->Value
 | .v x=>x.den ρ
 | .tup l=>.tuple (l.map (V1.den ρ)).toArray
 | .unk=>.tuple #[]
 | .clo f l=>.func (.func f) #[] (ae ρ l).toArray
inductive T (α:Type) where
 | leaf (a:α) | ite (b:Bool) (t e:T α) | need (b:Bool) (t:T α) | fail (why:String)
def T.bind {α β:Type}:T α->(α->T β)->T β
 | .leaf a,f=>f a
 | .ite b t e,f=>.ite b (t.bind f) (e.bind f)
 | .need b t,f=>.need b (t.bind f)
 | .fail w,_=>.fail w
def T.map {α β:Type} (f:α->β):T α->T β
 | .leaf a=>.leaf (f a)
 | .ite b t e=>.ite b (t.map f) (e.map f)
 | .need b t=>.need b (t.map f)
 | .fail w=>.fail w
def T.val {α:Type}:T α->Option α
 | .leaf a=>some a
 | .ite b t e=>match b with | true=>t.val | false=>e.val
 | .need b t=>match b with | true=>t.val | false=>none
 | .fail _=>none
theorem T.val_bind {α β:Type} (t:T α) (f:α->T β):(t.bind f).val=t.val.bind fun a=>(f a).val:=by
 induction t with
 | leaf a=>rfl
 | ite b t e iht ihe=>cases b<;>simp [T.bind,T.val,iht,ihe]
 | need b t ih=>cases b<;>simp [T.bind,T.val,ih]
 | fail w=>rfl
theorem T.val_map {α β:Type} (t:T α) (f:α->β):(t.map f).val=t.val.map f:=by
 induction t with
 | leaf a=>rfl
 | ite b t e iht ihe=>cases b<;>simp [T.map,T.val,iht,ihe]
 | need b t ih=>cases b<;>simp [T.map,T.val,ih]
 | fail w=>rfl
theorem T.bind_some {α β:Type} {t:T α} {f:α->T β} {y:β} (h:(t.bind f).val=some y):∃x,t.val=some x /\ (f x).val=some y:=by
 rw [T.val_bind] at h
 exact Option.bind_eq_some_iff.1 h
inductive FK where
 | bool | int (k:IntKind) | str
 deriving DecidableEq
def eI:Cell->Option (IntKind×Int×Bool)
 | .il k n=>some (k,n,true)
 | .it k n=>some (k,n,false)
 | .iv k n _ _=>some (k,n,false)
 | .ir k n _ _ _=>some (k,n,false)
 | _=>none
def di:Cell->Option (Bool×Bool)
 | .bl b=>some (b,true)
 | .bt b=>some (b,false)
 | _=>none
def qJ (a b:Bool):Bool:=match a with | true=>b | false=>false
def zd:Cell->Option (ByteArray×Bool)
 | .st s=>some (s,true)
 | .sv s=>some (s,false)
 | _=>none
def Ms:List UInt8->List UInt8->Bool
 | [],[]=>true
 | x::xs,y::ys=>match Nat.beq x.toNat y.toNat with | true=>Ms xs ys | false=>false
 | _,_=>false
def sJ (a b:ByteArray):Bool:=Ms a.data.toList b.data.toList
def eqC (x y:Cell):Option (Bool×Bool) :=
 match di x,di y with
 | some (a,ka),some (b,kb)=>some (a==b,qJ ka kb)
 | _,_=>match eI x,eI y with
   | some (_,a,ka),some (_,b,kb)=>some (a==b,qJ ka kb)
   | _,_=>match zd x,zd y with
     | some (a,ka),some (b,kb)=>some (sJ a b,qJ ka kb)
     | _,_=>none
def eqL:List Cell->List Cell->Option (Bool×Bool)
 | [],[]=>some (true,true)
 | x::xs,y::ys=>match eqC x y with
   | some (b,kb)=>match eqL xs ys with
     | some (c,kc)=>match kb with
       | true=>match b with
         | true=>some (c,kc)
         | false=>some (false,true)
       | false=>match kc with
         | true=>match c with
           | true=>some (b,false)
           | false=>some (false,true)
         | false=>some (b&&c,false)
     | none=>none
   | none=>none
 | _,_=>none
def ng:Cell->Option FK
 | .bl _=>some .bool
 | .bt _=>some .bool
 | .il k _=>some (.int k)
 | .it k _=>some (.int k)
 | .iv k _ _ _=>some (.int k)
 | .ir k _ _ _ _=>some (.int k)
 | .st _=>some .str
 | .sv _=>some .str
 | _=>none
def kindsB:List FK->List Cell->Bool
 | [],[]=>true
 | k::ks,c::cs=>match ng c with
   | some k'=>match decide (k=k') with | true=>kindsB ks cs | false=>false
   | none=>false
 | _,_=>false
def IM (x y:V1):Bool:=match eqL x.cells y.cells with | some (b,_)=>b | none=>false
def SL (ks:List FK) (ag:Bool):V1->Bool
 | .c x=>match ag with | true=>false | false=>kindsB ks [x]
 | .agg l=>match ag with | true=>kindsB ks l | false=>false
def Iv (k z:V1):List (V1×V1)->V1×Bool
 | []=>(z,false)
 | e::r=>match IM k e.1 with | true=>(e.2,true) | false=>Iv k z r
def RA (k v:V1):List (V1×V1)->List (V1×V1)
 | []=>[(k,v)]
 | e::r=>match IM k e.1 with | true=>(e.1,v)::r | false=>e::RA k v r
def Tz (k:V1):List (V1×V1)->List (V1×V1)
 | []=>[]
 | e::r=>match IM k e.1 with | true=>r | false=>e::Tz k r
def Uf (l:Loc) (S:Nat->Prop) (es:List (V1×V1)) (w:World):Prop :=
 (∀k,S k↔k=l.b) /\ ∃(en:Array MapEntry) (clock:Nat),w.heap[l.b]?=some (.map en clock) /\ en.toList.map (fun e=>(e.key,e.val))=es.map fun e=>(e.1.den Nm.id,e.2.den Nm.id)
def fQ (l:Loc) (S:Nat->Prop) (cs:List Value) (es:Nat) (ty:TypeId) (w:World):Prop :=
 (l.c<=1 /\ cs=[] /\ ∀k,¬S k) \/ (0 < l.c /\ (∀k,S k↔k=l.b) /\ ∃row:List Value,w.heap[l.b]?=some (.cells row.toArray ty (0,0)) /\ l.o+(l.c - 1) * es<=row.length /\ cs.length<=(l.c - 1) * es /\ ∀(j:Nat) v,cs[j]?=some v->row[l.o+j]?=some v)
def zt (l:Loc) (cs:List Value) (es:Nat) (w:World):Prop:=cs.length<=(l.c - 1) * es /\ ∀(j:Nat) v,cs[j]?=some v->w.cell? ((⟨l.b,l.o,none⟩:Addr).add j)=some v
def repsL (z:List Cell):Nat->List Cell
 | 0=>[]
 | n+1=>z++repsL z n
structure Intf (AV:Type) where
 q:AV->Loc->(Nat->Prop)->World->Prop
 loc:∀a l S w w',(∀k,S k->w'.heap[k]?=w.heap[k]?)->q a l S w->q a l S w'
 dom:∀a l S w k,q a l S w->S k->k < w.heap.size
 row:AV->Nat->Nat->Option (Bool×List Cell)
 row_nm:∀a idx es cs,row a idx es=some (true,cs)->∀c∈cs,c.name=none
 R:Nat->Option Obj:=fun _=>none
 row_ok:∀a l S w idx es cs,(∀k o,R k=some o->w.heap[k]?=some o)->q a l S w->row a idx es=some (true,cs)->∀j c,cs[j]?=some c->w.cell? ⟨l.b,l.o+idx * es+j,none⟩=some (c.den Nm.id)
 prt:AV->Nat->Nat->Nat->Nat->Option (Bool×List Cell):=fun _ _ _ _ _=>none
 prt_nm:∀a i e o n cs,prt a i e o n=some (true,cs)->∀c∈cs,c.name=none:=by intro _ _ _ _ _ _ h;cases h
 prt_ok:∀a l S w i e o n cs,(∀k o,R k=some o->w.heap[k]?=some o)->q a l S w->prt a i e o n=some (true,cs)->∀j c,cs[j]?=some c->w.cell? ⟨l.b,l.o+i * e+o+j,none⟩=some (c.den Nm.id):=by intro _ _ _ _ _ _ _ _ _ _ _ h;cases h
 upd:AV->Nat->Nat->Nat->List Cell->Option (Bool×AV)
 upd_ok:∀a l S w idx es off cs a',q a l S w->upd a idx es off cs=some (true,a')->(∀c∈cs,c.name=none) /\ S l.b /\ ∃(row:List Value) (ty:TypeId),w.heap[l.b]?=some (.cells row.toArray ty (0,0)) /\ l.o+idx * es+off+cs.length<=row.length /\
  q a' l S (w.setRow l.b (row.take (l.o+idx * es+off)++(ae Nm.id cs++row.drop (l.o+idx * es+off+cs.length))).toArray)
 word:AV->Option (List Cell):=fun _=>none
 word_nm:∀a cs,word a=some cs->∀c∈cs,c.name=none:=by intro _ _ h;cases h
 word_ok:∀a l S w cs,q a l S w->word a=some cs->∀j c,cs[j]?=some c->w.cell? ⟨l.b,j,none⟩=some (c.den Nm.id):=by intro _ _ _ _ _ _ h;cases h
 same:AV->AV->Bool:=fun _ _=>false
 same_ok:∀a b,same a b=true->a=b:=by intro _ _ h;cases h
 arr:AV->Option (Nat×TypeId×List Value):=fun _=>none
 arr_q:∀a es ty vs,arr a=some (es,ty,vs)->(∀v∈vs,v.oneCell'=true) /\ ∀l S w,q a l S w↔fQ l S vs es ty w:=by intro _ _ _ _ h;cases h
 src:AV->Option AV:=fun _=>none
 src_ok:∀a b es ty vs,src a=some b->arr b=some (es,ty,vs)->∀l S w,(∀k o,R k=some o->w.heap[k]?=some o)->q a l S w->zt l vs es w:=by intro _ _ _ _ _ h;cases h
 len:AV->Nat:=fun _=>0
 len_ok:∀a es ty vs,arr a=some (es,ty,vs)->vs.length=len a * es:=by intro _ _ _ _ h;cases h
 cat:AV->AV->Option AV:=fun _ _=>none
 cat_ok:∀a b c,cat a b=some c->∃es ty ty' vs us,arr a=some (es,ty,vs) /\ arr b=some (es,ty',us) /\ arr c=some (es,ty,vs++us):=by intro _ _ _ h;cases h
 app:AV->List Cell->Option AV:=fun _ _=>none
 app_ok:∀a cs c,app a cs=some c->(∀x∈cs,x.name=none) /\ ∃es ty vs,arr a=some (es,ty,vs) /\ arr c=some (es,ty,vs++ae Nm.id cs):=by intro _ _ _ h;cases h
 cut:AV->Nat->Nat->Option AV:=fun _ _ _=>none
 cut_ok:∀a i j c,cut a i j=some c->∃es ty vs,arr a=some (es,ty,vs) /\ arr c=some (es,ty,(vs.take (j * es)).drop (i * es)):=by intro _ _ _ _ h;cases h
 zer:List Cell->Nat->TypeId->Nat->Option AV:=fun _ _ _ _=>none
 zer_ok:∀z es ty n a,zer z es ty n=some a->arr a=some (es,ty,ae Nm.id (repsL z n)):=by intro _ _ _ _ _ h;cases h
 txt:AV->Option (List Int):=fun _=>none
 txt_ok:∀a s,txt a=some s->∃ty,arr a=some (1,ty,s.map (Value.int .u8)):=by intro _ _ h;cases h
 mp:AV->Option (List FK×Bool×List (V1×V1)):=fun _=>none
 mp_q:∀a ks ag es,mp a=some (ks,ag,es)->(∀e∈es,SL ks ag e.1=true /\ (∀c∈e.1.cells,c.name=none) /\ ∀c∈e.2.cells,c.name=none) /\ ∀l S w,q a l S w↔Uf l S es w:=by intro _ _ _ _ h;cases h
 mnew:List FK->Bool->Option AV:=fun _ _=>none
 mnew_ok:∀ks ag a,mnew ks ag=some a->mp a=some (ks,ag,[]):=by intro _ _ _ h;cases h
 mlook:AV->V1->V1->Option (V1×Bool×Bool):=fun _ _ _=>none
 mlook_ok:∀a k z v b kn,mlook a k z=some (v,b,kn)->∃ks ag es,mp a=some (ks,ag,es) /\ (Iv k z es).2=b /\ (∀c∈v.cells,c.name=none) /\ ∀ρ,v.den ρ=(Iv k z es).1.den ρ:=by intro _ _ _ _ _ _ h;cases h
 mput:AV->V1->V1->Option AV:=fun _ _ _=>none
 mput_ok:∀a k v a',mput a k v=some a'->(∀c∈k.cells,c.name=none) /\ (∀c∈v.cells,c.name=none) /\ ∃ks ag es es',mp a=some (ks,ag,es) /\ mp a'=some (ks,ag,es') /\ es'.map (fun e=>(e.1.den Nm.id,e.2.den Nm.id))=(RA k v es).map fun e=>(e.1.den Nm.id,e.2.den Nm.id):=by intro _ _ _ _ h;cases h
 mdel:AV->V1->Option AV:=fun _ _=>none
 mdel_ok:∀a k a',mdel a k=some a'->∃ks ag es,mp a=some (ks,ag,es) /\ mp a'=some (ks,ag,Tz k es):=by intro _ _ _ h;cases h
 mlen:AV->Option (Nat×Bool):=fun _=>none
 mlen_ok:∀a n kn,mlen a=some (n,kn)->∃ks ag es,mp a=some (ks,ag,es) /\ n=es.length:=by intro _ _ _ h;cases h
inductive Chunk (AV:Type) where
 | cells (l:List Cell) (ty:TypeId)
 | vec (l:List Cell) (es:Nat) (ty:TypeId)
 | dead
 | abs (a:AV)
abbrev Hp (AV:Type):=List (Option (Chunk AV))
def hget {AV:Type}:Hp AV->Nat->Option (Chunk AV)
 | [],_=>none
 | x::_,0=>x
 | _::r,n+1=>hget r n
def nth {α:Type}:List α->Nat->Option α
 | [],_=>none
 | x::_,0=>some x
 | _::r,n+1=>nth r n
def lset {α:Type}:List α->Nat->α->List α
 | [],_,_=>[]
 | _::r,0,y=>y::r
 | x::r,n+1,y=>x::lset r n y
abbrev Ev:=List (Nat×SV)
structure St (AV:Type) where
 E:Ev
 H:Hp AV
def bc:SV:=.tup []
def look:Ev->Nat->SV
 | [],_=>bc
 | (k,v)::r,n=>match Nat.beq k n with | true=>v | false=>look r n
def ltake:List Cell->Nat->Option (List Cell)
 | _,0=>some []
 | [],_+1=>none
 | x::l,n+1=>match ltake l n with | some r=>some (x::r) | none=>none
def lsub:List Cell->Nat->Nat->Option (List Cell)
 | l,0,n=>ltake l n
 | [],_+1,_=>none
 | _::l,k+1,n=>lsub l k n
def lput:List Cell->Nat->List Cell->Option (List Cell)
 | l,0,[]=>some l
 | [],0,_::_=>none
 | _::l,0,y::ys=>match lput l 0 ys with | some r=>some (y::r) | none=>none
 | [],_+1,_=>none
 | x::l,n+1,ys=>match lput l n ys with | some r=>some (x::r) | none=>none
def Cell.ofValue:Value->Option Cell
 | .bool b=>some (.bl b)
 | .int k n=>some (.il k n)
 | .string s=>some (.st s)
 | .pointer none=>some .pnil
 | .slice none 0 0=>some .snil
 | .nilIface=>some .inil
 | .nilFunc=>some .nfn
 | .map none=>some (.mp none)
 | _=>none
def fH:List Value->Option (List Cell)
 | []=>some []
 | v::r=>match Cell.ofValue v with
   | some c=>match fH r with | some l=>some (c::l) | none=>none
   | none=>none
def yD:Value->Option SV
 | .agg cs=>match fH cs.toList with | some l=>some (.v (.agg l)) | none=>none
 | v=>match Cell.ofValue v with | some c=>some (.v (.c c)) | none=>none
def evl {AV:Type} (G:Nat) (H:Hp AV) (E:Ev):Operand->Option SV
 | .tmp t=>match look E t with
   | .unk=>none
   | v=>some v
 | .const v=>yD v
 | .global g=>match Nat.blt g G,hget H g with
   | true,some _=>some (.v (.c (.ptr g 0)))
   | _,_=>none
 | .func f=>some (.v (.c (.fn f)))
def evls (ev:Operand->Option SV):List Operand->Option (List SV)
 | []=>some []
 | x::r=>match ev x with
   | some v=>match evls ev r with | some l=>some (v::l) | none=>none
   | none=>none
def evlP (ev:Operand->Option SV):List (Nat×Operand)->Option (List (Nat×V1))
 | []=>some []
 | (i,x)::r=>match ev x with
   | some (.v v)=>match evlP ev r with | some l=>some ((i,v)::l) | none=>none
   | _=>none
def cellsV:List SV->Option (List Cell)
 | []=>some []
 | .v (.c c)::r=>match cellsV r with | some l=>some (c::l) | none=>none
 | _::_=>none
def svs:List Cell->List SV
 | []=>[]
 | c::r=>.v (.c c)::svs r
def namesL:List Cell->List Nat
 | []=>[]
 | c::r=>match c.name with | some n=>n::namesL r | none=>namesL r
section closed
variable {AV:Type}
def isS {α:Type}:Option α->Bool
 | some _=>true
 | none=>false
def clC (H:Hp AV) (c:Cell):Bool:=match c.name with | some n=>isS (hget H n) | none=>true
def clNs (H:Hp AV):List Nat->Bool
 | []=>true
 | n::r=>match isS (hget H n) with | true=>clNs H r | false=>false
def clL (H:Hp AV) (l:List Cell):Bool:=clNs H (namesL l)
def clV1 (H:Hp AV):V1->Bool
 | .c x=>clC H x
 | .agg l=>clL H l
def clV1s (H:Hp AV):List V1->Bool
 | []=>true
 | x::r=>match clV1 H x with | true=>clV1s H r | false=>false
def clV (H:Hp AV):SV->Bool
 | .v x=>clV1 H x
 | .tup l=>clV1s H l
 | .unk=>true
 | .clo _ l=>clL H l
def clVs (H:Hp AV):List SV->Bool
 | []=>true
 | x::r=>match clV H x with | true=>clVs H r | false=>false
def clCk (H:Hp AV):Chunk AV->Bool
 | .cells l _=>clL H l
 | .vec l _ _=>clL H l
 | .dead=>true
 | .abs _=>true
def clHs (H:Hp AV):Hp AV->Bool
 | []=>true
 | none::r=>clHs H r
 | some c::r=>match clCk H c with | true=>clHs H r | false=>false
end closed
structure FdI where
 off:Nat
 size:Nat
 ty:TypeId
 agg:Bool
inductive Kd where
 | bool | int (k:IntKind) | str | map (k e:TypeId) | ptr | slice (esz:Nat) | arr (len esz:Nat) (ag:Bool) | struct (fs:List FdI) | iface | other
structure TI where
 kd:Kd
 size:Nat
 zero:Option (List Cell)
 flat:Option (List FK)
def iS:Kd->Bool
 | .arr _ _ _=>true
 | .struct _=>true
 | _=>false
section table
variable (P:Program)
def b5 (t:TypeId):Option Bool :=
 match P.underlying t with
 | some (.struct _)=>some true
 | some (.array _ _)=>some true
 | some _=>some false
 | none=>none
def gC (t:TypeId):Option Nat:=match P.info? t with | some i=>some i.size | none=>none
def yv:List Field->Option (List FdI)
 | []=>some []
 | f::r=>match gC P f.type,b5 P f.type,yv r with
   | some n,some a,some l=>some (⟨f.offset,n,f.type,a⟩::l)
   | _,_,_=>none
def kdT (t:TypeId):Option Kd :=
 match P.underlying t with
 | some .bool=>some .bool
 | some (.int k)=>some (.int k)
 | some .string=>some .str
 | some (.pointer _)=>some .ptr
 | some (.slice e)=>match gC P e with | some n=>some (.slice n) | none=>none
 | some (.array len e)=>match gC P e,b5 P e with | some n,some a=>some (.arr len n a) | _,_=>none
 | some (.struct fs)=>match yv P fs.toList with | some l=>some (.struct l) | none=>none
 | some (.interface _)=>some .iface
 | some (.map k e)=>some (.map k e)
 | some _=>some .other
 | none=>none
def kH (rec:TypeId->Option (List FK)):List Field->Nat->Option (List FK)
 | [],_=>some []
 | f::r,off=>match f.name == "_" with
   | true=>none
   | false=>match Nat.beq f.offset off with
     | false=>none
     | true=>match rec f.type with
       | none=>none
       | some ks=>match gC P f.type with
         | none=>none
         | some n=>match Nat.beq n ks.length with
           | false=>none
           | true=>match kH rec r (off+n) with
             | some l=>some (ks++l)
             | none=>none
def DV (e:TypeId) (n i:Nat):Field:={name := "x",type:=e,offset:=i * n,embedded:=false,tag := "",pkgPath := "",byteOffset:=0}
def xw (e:TypeId) (n:Nat):Nat->Nat->List Field
 | 0,_=>[]
 | k+1,i=>DV e n i::xw e n k (i+1)
def g8:Nat->TypeId->Option (List FK)
 | 0,_=>none
 | d+1,t=>match P.underlying t with
   | some .bool=>some [.bool]
   | some (.int k)=>some [.int k]
   | some .string=>some [.str]
   | some (.struct fs)=>match P.stoodInHeld t with
     | true=>none
     | false=>kH P (g8 d) fs.toList 0
   | some (.array len e)=>match gC P e with
     | some n=>kH P (g8 d) (xw e n len 0) 0
     | none=>none
   | _=>none
def EZ (t:TypeId):Option TI :=
 match P.info? t,kdT P t with
 | some i,some k=>some {
    kd:=k
    size:=i.size
    zero:=match i.zero with | some v=>fH v.cells.toList | none=>none
    flat:=match P.eqGuardType P.depth t with | true=>none | false=>g8 P 12 t}
 | _,_=>none
end table
inductive Tr (α:Type) where
 | lf | nd (x:Option α) (l r:Tr α)
def Tr.get {α:Type}:Tr α->Nat->Option α
 | .lf,_=>none
 | .nd x l r,n=>match Nat.beq n 0 with
   | true=>x
   | false=>match Nat.beq (n % 2) 1 with
     | true=>l.get (n / 2)
     | false=>r.get ((n - 1) / 2)
structure SI where
 e:TypeId
 size:Nat
 bytes:Nat
 zero:List Cell
def lO (P:Program) (t:TypeId):Option SI :=
 match P.underlying t with
 | some (.slice e)=>match P.info? e with
   | some i=>match i.zero with
     | some z=>match fH z.cells.toList with
       | some l=>match Nat.beq l.length i.size,Nat.blt 0 i.size with
         | true,true=>some ⟨e,i.size,i.bytes,l⟩
         | _,_=>none
       | none=>none
     | none=>none
   | none=>none
 | _=>none
def lim:Nat:=1099511627776
inductive Ex where
 | normal | exit (id:Nat) | ret
structure Env (AV:Type) where
 tt:Tr TI
 ft:Tr Func
 gu:Tr (List Nat)
 G:Nat
 F:Intf AV
 hv:Op->List SV->Hp AV->T (SV×Hp AV):=fun _ _ _=>.fail "heavy"
 lp:FuncId->Nat->Option (St AV->T (Ex×St AV)):=fun _ _=>none
 mt:TypeId->String->Option FuncId:=fun _ _=>none
 sl:Tr SI:=.lf
 orc:Option Nat:=none
section
variable {AV:Type} (N:Env AV)
def part1 (agg:Bool) (n:Nat) (l:List Cell) (off:Nat):Option V1 :=
 match agg with
 | true=>match lsub l off n with | some x=>some (.agg x) | none=>none
 | false=>match nth l off with | some x=>some (.c x) | none=>none
def partV (t:TypeId) (l:List Cell) (off:Nat):Option V1 :=
 match N.tt.get t with
 | some i=>part1 (iS i.kd) i.size l off
 | none=>none
def fieldsT (t:TypeId):Option (List FdI):=match N.tt.get t with | some ⟨.struct fs,_,_,_⟩=>some fs | _=>none
def mkB (b:Bool) (lit:Bool):V1:=.c (match lit with | true=>.bl b | false=>.bt b)
def mkI (k:IntKind) (n:Int) (lit:Bool):V1:=.c (match lit with | true=>.il k n | false=>.it k n)
def JK (op:BinOp) (k:IntKind) (a b:Int):Int :=
 match op with
 | .and=>k.wrap ((BitVec.ofInt k.bits a &&& BitVec.ofInt k.bits b).toNat:Int)
 | .or=>k.wrap ((BitVec.ofInt k.bits a ||| BitVec.ofInt k.bits b).toNat:Int)
 | .xor=>k.wrap ((BitVec.ofInt k.bits a ^^^ BitVec.ofInt k.bits b).toNat:Int)
 | .andNot=>k.wrap ((BitVec.ofInt k.bits a &&& ~~~BitVec.ofInt k.bits b).toNat:Int)
 | _=>0
def jH (op:BinOp) (k:IntKind) (a b:Int) (lit:Bool):T V1 :=
 match op with
 | .add=>.leaf (mkI k (k.wrap (a+b)) lit)
 | .sub=>.leaf (mkI k (k.wrap (a - b)) lit)
 | .mul=>.leaf (mkI k (k.wrap (a * b)) lit)
 | .eql=>.leaf (mkB (a==b) lit)
 | .neq=>.leaf (mkB (a != b) lit)
 | .lss=>.leaf (mkB (decide (a < b)) lit)
 | .leq=>.leaf (mkB (decide (a<=b)) lit)
 | .gtr=>.leaf (mkB (decide (a > b)) lit)
 | .geq=>.leaf (mkB (decide (a>=b)) lit)
 | .quo=>.need (b != 0) (.leaf (mkI k (k.wrap (a.tdiv b)) lit))
 | .rem=>.need (b != 0) (.leaf (mkI k (a.tmod b) lit))
 | .and=>.leaf (mkI k (JK .and k a b) lit)
 | .or=>.leaf (mkI k (JK .or k a b) lit)
 | .xor=>.leaf (mkI k (JK .xor k a b) lit)
 | .andNot=>.leaf (mkI k (JK .andNot k a b) lit)
 | _=>.fail "binI"
def isConst:Operand->Bool
 | .const _=>true
 | _=>false
def kD:BinOp->Bool
 | .shl=>true
 | .shr=>true
 | _=>false
def Pd:Cell->Cell->Option Bool
 | .snil,.snil=>some true
 | .vs _ _ (_+1) _ true,.snil=>some false
 | .sl _ _ _ _,.snil=>some false
 | _,_=>none
def eqV (t:TypeId) (cst:Bool):V1->V1->Option (Bool×Bool)
 | .agg xs,.agg ys=>match N.tt.get t with
   | some ⟨kd,_,_,some ks⟩=>match iS kd with
     | false=>none
     | true=>match kindsB ks xs with
       | false=>none
       | true=>match kindsB ks ys with
         | false=>none
         | true=>eqL xs ys
   | _=>none
 | .c x,.c y=>match N.tt.get t with
   | some ⟨.bool,_,_,_⟩=>match di x,di y with
     | some (a,ka),some (b,kb)=>some (a==b,match ka with | true=>kb | false=>false)
     | _,_=>none
   | some ⟨.ptr,_,_,_⟩=>match x,y with
     | .pnil,.pnil=>some (true,true)
     | .pnil,.ptr _ _=>some (false,true)
     | .ptr _ _,.pnil=>some (false,true)
     | .pnil,.op _ _=>some (false,true)
     | .op _ _,.pnil=>some (false,true)
     | _,_=>none
   | some ⟨.iface,_,_,_⟩=>match x,y with
     | .inil,.inil=>match cst with | true=>some (true,true) | false=>none
     | .inil,.ifc _ _=>some (false,true)
     | .ifc _ _,.inil=>some (false,true)
     | _,_=>none
   | some ⟨.slice _,_,_,_⟩=>match Pd x y with
     | some b=>some (b,true)
     | none=>none
   | _=>none
 | _,_=>none
def O9:Option (Bool×Bool)->T V1
 | some (b,k)=>.leaf (mkB b k)
 | none=>.fail "=="
def O8:Option (Bool×Bool)->T V1
 | some (b,k)=>.leaf (mkB (!b) k)
 | none=>.fail "!="
def jD {α:Type} (known b:Bool) (a:α):T α :=
 match known with
 | true=>match b with | true=>.leaf a | false=>.fail "guard"
 | false=>.need b (.leaf a)
def uN:V1->V1->Option (IntKind×Int×Bool×IntKind×Int×Bool)
 | .c x,.c y=>match eI x with
   | some (k,a,ka)=>match eI y with
     | some (k',b,kb)=>some (k,a,ka,k',b,kb)
     | none=>none
   | none=>none
 | _,_=>none
def I2:List Int->Int->Bool
 | [],_=>false
 | x::r,n=>match decide (x=n) with | true=>true | false=>I2 r n
def Pw (op:BinOp):V1->V1->Option V1
 | .c (.iv _ _ cs _),.c (.il _ c)=>match I2 cs c with
   | false=>none
   | true=>match op with
     | .eql=>some (.c (.bl false))
     | .neq=>some (.c (.bl true))
     | _=>none
 | _,_=>none
def EB:V1->Option (Int×Int)
 | .c (.il _ c)=>some (c,c+1)
 | .c (.ir _ _ lo hi _)=>some (lo,hi)
 | _=>none
def hD (t f:Bool):Option Bool:=match t with
 | true=>some true
 | false=>match f with | true=>some false | false=>none
def Mj (op:BinOp) (l1 h1 l2 h2:Int):Option Bool:=match op with
 | .lss=>hD (decide (h1<=l2)) (decide (h2<=l1+1))
 | .leq=>hD (decide (h1<=l2+1)) (decide (h2<=l1))
 | .gtr=>hD (decide (h2<=l1)) (decide (h1<=l2+1))
 | .geq=>hD (decide (h2<=l1+1)) (decide (h1<=l2))
 | .eql=>hD false (match decide (h1<=l2) with | true=>true | false=>decide (h2<=l1))
 | .neq=>hD (match decide (h1<=l2) with | true=>true | false=>decide (h2<=l1)) false
 | _=>none
theorem KO {a lo hi m:Int} (h:lo<=a /\ a < hi) (h0:0<=lo /\ 0 < m):0<=a.tmod m /\ a.tmod m < m :=
 ⟨Int.tmod_nonneg _ (by omega),Int.tmod_lt_of_pos _ h0.2⟩
theorem MF {c n lo hi:Int} (h:lo<=n /\ n < hi):c+lo<=c+n /\ c+n < c+hi:=by omega
def Qd (op:BinOp):V1->V1->Option V1
 | .c (.ir k a lo _hi h),.c (.il _ m)=>match op with
   | .rem=>match decide (0<=lo /\ 0 < m) with
     | true=>if h0:0<=lo /\ 0 < m then some (.c (.ir k (a.tmod m) 0 m (KO h h0))) else none
     | false=>none
   | _=>none
 | .c (.il k c),.c (.ir _ n lo hi h)=>match op,k with
   | .add,.i64=>match decide (-9223372036854775808<=c+lo /\ c+hi<=9223372036854775808) with
     | true=>some (.c (.ir .i64 (c+n) (c+lo) (c+hi) (MF h)))
     | false=>none
   | _,_=>none
 | _,_=>none
def isR:V1->Bool
 | .c (.ir _ _ _ _ _)=>true
 | _=>false
def LJ (op:BinOp) (x y:V1):Option V1:=match isR x,isR y with
 | false,false=>none
 | _,_=>match Qd op x y with
   | some r=>some r
   | none=>match EB x,EB y with
     | some (l1,h1),some (l2,h2)=>match Mj op l1 h1 l2 h2 with
       | some b=>some (.c (.bl b))
       | none=>none
     | _,_=>none
def DU:V1->V1->Option (ByteArray×Bool×ByteArray×Bool)
 | .c x,.c y=>match zd x with
   | some (a,ka)=>match zd y with
     | some (b,kb)=>some (a,ka,b,kb)
     | none=>none
   | none=>none
 | _,_=>none
def mkS (s:ByteArray) (lit:Bool):V1:=.c (match lit with | true=>.st s | false=>.sv s)
def Bo (a b:ByteArray):ByteArray:=⟨⟨a.data.toList++b.data.toList⟩⟩
def dW (a:ByteArray):Nat:=a.data.toList.length
def xK (op:BinOp) (a b:ByteArray) (lit:Bool):T V1 :=
 match op with
 | .eql=>.leaf (mkB (sJ a b) lit)
 | .neq=>.leaf (mkB (!sJ a b) lit)
 | .add=>jD lit (Nat.ble (dW a+dW b) 9223372036854775807) (mkS (Bo a b) lit)
 | _=>.fail "strBin"
def bin (op:BinOp) (t:TypeId) (cst:Bool) (x y:V1):T V1 :=
 match uN x y with
 | some (k,a,ka,k',b,kb)=>match decide (k=k') with
   | true=>match Pw op x y with
     | some r=>.leaf r
     | none=>match LJ op x y with
       | some r=>.leaf r
       | none=>jH op k a b (match ka with | true=>kb | false=>false)
   | false=>.fail "kinds"
 | none=>match DU x y with
   | some (a,ka,b,kb)=>xK op a b (qJ ka kb)
   | none=>match op with
     | .eql=>O9 (eqV N t cst x y)
     | .neq=>O8 (eqV N t cst x y)
     | _=>.fail "binOp"
def shI (op:BinOp) (k:IntKind) (a b:Int):Int :=
 match op with
 | .shl=>k.wrap (a * 2 ^ min b.toNat k.bits)
 | _=>a.fdiv (2 ^ min b.toNat k.bits)
def BL (op:BinOp) (x y:V1):T V1 :=
 match uN x y with
 | some (k,a,ka,_,b,kb)=>jD kb (decide (0<=b)) (mkI k (shI op k a b) (qJ ka kb))
 | none=>.fail "shift"
def rq (s:ByteArray) (n:Int):Int:=match nth s.data.toList n.toNat with
 | some b=>(b.toNat:Int)
 | none=>0
def fillP (fs:List FdI):List Cell->List (Nat×V1)->Option (List Cell)
 | l,[]=>some l
 | l,(i,x)::r=>match nth fs i with
   | some f=>match Nat.beq f.size x.cells.length with
     | true=>match lput l f.off x.cells with | some l'=>fillP fs l' r | none=>none
     | false=>none
   | none=>none
def fillA (esz:Nat):List Cell->List (Nat×V1)->Option (List Cell)
 | l,[]=>some l
 | l,(i,x)::r=>match Nat.beq esz x.cells.length with
   | true=>match lput l (i * esz) x.cells with | some l'=>fillA esz l' r | none=>none
   | false=>none
def wM (k:Int):Nat->Nat->T Nat
 | 0,_=>.fail "index"
 | 1,j=>.need (decide (k=(j:Int))) (.leaf j)
 | c+2,j=>.ite (decide (k=(j:Int))) (.leaf j) (wM k (c+1) (j+1))
theorem uq {k:Int}:∀{c j m:Nat},(wM k c j).val=some m->k=(m:Int) /\ j<=m /\ m < j+c
 | 0,j,m,h=>by simp [wM,T.val] at h
 | 1,j,m,h=>by
   simp only [wM,T.val] at h
   split at h
   ·rename_i hb
    cases h
    exact⟨of_decide_eq_true hb,Nat.le_refl _,by omega⟩
   ·cases h
 | c+2,j,m,h=>by
   simp only [wM,T.val] at h
   split at h
   ·rename_i hb
    cases h
    exact⟨of_decide_eq_true hb,Nat.le_refl _,by omega⟩
   ·obtain⟨h1,h2,h3⟩:=uq h
    exact⟨h1,by omega,by omega⟩
def DH (o:Option Nat) (k:Int) (len:Nat):T Nat:=match o with
 | none=>wM k len 0
 | some j=>.need (decide (k=(j:Int))) (match Nat.blt j len with | true=>.leaf j | false=>.fail "index")
theorem Cj {o:Option Nat} {k:Int} {len m:Nat} (h:(DH o k len).val=some m):k=(m:Int) /\ m < len:=by
 cases o with
 | none=>obtain⟨h1,_,h3⟩:=uq h;exact⟨h1,by omega⟩
 | some j =>
   simp only [DH,T.val] at h
   split at h
   ·rename_i hb
    split at h
    ·rename_i hl
     cases h
     exact⟨of_decide_eq_true hb,Nat.le_of_ble_eq_true hl⟩
    ·cases h
   ·cases h
theorem vp (n:Int):0<=IntKind.u64.wrap n /\ IntKind.u64.wrap n < 18446744073709551616:=by
 have e:IntKind.u64.wrap n=n % 18446744073709551616:=by unfold IntKind.wrap;simp [IntKind.bits,IntKind.signed]
 rw [e];omega
theorem CM {n:Int} (h:-9223372036854775808<=n /\ n < 9223372036854775808):IntKind.i64.wrap n=n:=by
 have e:IntKind.i64.wrap n=if n % 18446744073709551616>=9223372036854775808 then n % 18446744073709551616 - 18446744073709551616 else n % 18446744073709551616:=by unfold IntKind.wrap;simp [IntKind.bits,IntKind.signed]
 rw [e];split<;>omega
def xk (k:IntKind) (c:Cell) (n:Int) (lit:Bool):V1:=match lit with
 | true=>.c (.il k (k.wrap n))
 | false=>match k with
   | .u64=>.c (.ir .u64 (IntKind.u64.wrap n) 0 18446744073709551616 (vp n))
   | .i64=>match c with
     | .ir _ m lo hi h=>match decide (0<=lo /\ hi<=9223372036854775808) with
       | true=>.c (.ir .i64 m lo hi h)
       | false=>.c (.it .i64 (IntKind.i64.wrap n))
     | _=>.c (.it .i64 (IntKind.i64.wrap n))
   | k=>.c (.it k (k.wrap n))
def O7 (x off:Nat):Nat:=@Nat.rec (fun _=>Nat) x (fun _ ih=>ih.succ) off
theorem offN_eq (x:Nat):∀off,O7 x off=x+off
 | 0=>rfl
 | n+1=>congrArg Nat.succ (offN_eq x n)
def one (t:Option V1) (why:String):T SV:=match t with | some x=>.leaf (.v x) | none=>.fail why
def DR (s:ByteArray) (l h:Nat):ByteArray:=⟨((s.data.toList.take h).drop l).toArray⟩
def Qb:SV->Option (Int×Bool)
 | .v (.c c)=>match eI c with
   | some (_,n,k)=>some (n,k)
   | none=>none
 | _=>none
def rF (ev:Operand->Option SV) (d:Int):Option Operand->Option (Int×Bool)
 | none=>some (d,true)
 | some x=>match ev x with
   | some v=>Qb v
   | none=>none
def txO (ev:Operand->Option SV):Op->Bool
 | .slice _ x _ _ mx=>match mx with
   | some _=>false
   | none=>match ev x with
     | some (.v (.c c))=>isS (zd c)
     | _=>false
 | _=>false
def cutO (ev:Operand->Option SV) (t:TypeId) (x:Operand) (lo hi:Option Operand):T SV:=match N.tt.get t,ev x with
 | some ⟨.str,_,_,_⟩,some (.v (.c c))=>match zd c with
   | some (s,ks)=>match rF ev 0 lo,rF ev (dW s) hi with
     | some (l,k),some (h,k')=>.need (decide (0<=l /\ l<=h /\ h<=(dW s:Int))) (.leaf (.v (mkS (DR s l.toNat h.toNat) (qJ ks (qJ k k')))))
     | _,_=>.fail "slice: text"
   | none=>.fail "slice: text"
 | _,_=>.fail "slice: text"
def pureOp (ev:Operand->Option SV):Op->Option (T SV)
 | .move x=>some (match ev x with | some v=>.leaf v | none=>.fail "move")
 | .assign x=>some (match ev x with | some v=>.leaf v | none=>.fail "assign")
 | .pick c a b=>some (match ev c,ev a,ev b with
   | some (.v (.c c)),some x,some y=>match di c with
     | some (t,true)=>match t with | true=>.leaf x | false=>.leaf y
     | some (t,false)=>.ite t (.leaf x) (.leaf y)
     | none=>.fail "pick"
   | _,_,_=>.fail "pick")
 | .build t parts=>some (match N.tt.get t,evlP ev parts.toList with
   | some ⟨.struct fs,_,some z,_⟩,some ps=>match fillP fs z ps with
     | some l=>.leaf (.v (.agg l))
     | none=>.fail "build"
   | some ⟨.arr _ esz _,_,some z,_⟩,some ps=>match fillA esz z ps with
     | some l=>.leaf (.v (.agg l))
     | none=>.fail "build"
   | _,_=>.fail "build")
 | .nilCheck x=>some (match ev x with
   | some (.v (.c (.ptr n off)))=>.leaf (.v (.c (.ptr n off)))
   | some (.v (.c (.vel n i e off)))=>.leaf (.v (.c (.vel n i e off)))
   | some (.v (.c (.ifc t c)))=>.leaf (.v (.c (.ifc t c)))
   | some (.v (.c (.fn f)))=>.leaf (.v (.c (.fn f)))
   | some (.clo f l)=>.leaf (.clo f l)
   | _=>.fail "nilCheck")
 | .makeFunc fn first captured=>some (match fn,first.toList,evls ev captured.toList with
   | .func f,[],some l=>match cellsV l with
     | some cs=>.leaf (.clo f cs)
     | none=>.fail "makeFunc"
   | _,_,_=>.fail "makeFunc")
 | .fieldAddr t x i=>some (match ev x,fieldsT N t with
   | some (.v (.c (.ptr n off))),some fs=>match nth fs i with
     | some f=>match Nat.beq f.size 0 with
       | false=>.leaf (.v (.c (.ptr n (off+f.off))))
       | true=>.fail "fieldAddr"
     | none=>.fail "fieldAddr"
   | some (.v (.c (.vel n k e off))),some fs=>match nth fs i with
     | some f=>match Nat.beq f.size 0 with
       | false=>.leaf (.v (.c (.vel n k e (off+f.off))))
       | true=>.fail "fieldAddr"
     | none=>.fail "fieldAddr"
   | _,_=>.fail "fieldAddr")
 | .field t x i=>some (match ev x,fieldsT N t with
   | some (.v (.agg l)),some fs=>match nth fs i with
     | some f=>one (part1 f.agg f.size l f.off) "field"
     | none=>.fail "field"
   | _,_=>.fail "field")
 | .binOp op t x y _=>some (match ev x,ev y with
   | some (.v a),some (.v b)=>match kD op with
     | true=>(BL op a b).map .v
     | false=>(bin N op t (match isConst x with | true=>true | false=>isConst y) a b).map .v
   | _,_=>.fail "binOp")
 | .unOp .not _ x=>some (match ev x with
   | some (.v (.c c))=>match di c with
     | some (b,k)=>.leaf (.v (mkB (!b) k))
     | none=>.fail "not"
   | _=>.fail "not")
 | .unOp .neg _ x=>some (match ev x with
   | some (.v (.c c))=>match eI c with
     | some (k,n,l)=>.leaf (.v (mkI k (k.wrap (0 - n)) l))
     | none=>.fail "neg"
   | _=>.fail "neg")
 | .slice t x lo hi mx=>match txO ev (.slice t x lo hi mx) with
   | true=>some (cutO N ev t x lo hi)
   | false=>none
 | .extract x i=>some (match ev x with
   | some (.tup l)=>match nth l i with | some v=>.leaf (.v v) | none=>.fail "extract"
   | _=>.fail "extract")
 | .makeInterface t x=>some (match ev x,N.tt.get t with
   | some (.v (.c c)),some ⟨k,_,_,_⟩=>match k with
     | .iface=>.fail "makeInterface"
     | _=>.leaf (.v (.c (.ifc t c)))
   | _,_=>.fail "makeInterface")
 | .indexAddr t x i=>some (match ev x,ev i,N.tt.get t with
   | some (.v (.c (.ptr n off))),some (.v (.c (.il _ k))),some ⟨.arr len sz _,_,_,_⟩=>match decide (0<=k /\ k < len) with
     | true=>.leaf (.v (.c (.ptr n (off+k.toNat * sz))))
     | false=>.fail "indexAddr"
   | some (.v (.c (.vel n k0 e off))),some (.v (.c (.il _ k))),some ⟨.arr len sz _,_,_,_⟩=>match decide (0<=k /\ k < len) with
     | true=>.leaf (.v (.c (.vel n k0 e (off+k.toNat * sz))))
     | false=>.fail "indexAddr"
   | some (.v (.c (.sl n o len _))),some (.v (.c (.il _ k))),some ⟨.slice sz,_,_,_⟩=>match decide (0<=k /\ k < len) with
     | true=>.leaf (.v (.c (.ptr n (o+k.toNat * sz))))
     | false=>.fail "indexAddr"
   | some (.v (.c (.vs n o len es kn))),some (.v (.c ix)),some ⟨.slice sz,_,_,_⟩=>match Nat.beq es sz with
     | true=>match eI ix with
       | some (_,k,lit)=>jD (qJ lit kn) (decide (0<=k /\ k < len)) (.v (.c (.vel n (o+k.toNat) sz 0)))
       | none=>.fail "indexAddr"
     | false=>.fail "indexAddr"
   | some (.v (.c (.ptr n off))),some (.v (.c ix)),some ⟨.arr len sz _,_,_,_⟩=>match eI ix,Nat.ble len 16 with
     | some (_,k,_),true=>(DH N.orc k len).map fun j=>.v (.c (.ptr n (off+j * sz)))
     | _,_=>.fail "indexAddr"
   | some (.v (.c (.vel n k0 e off))),some (.v (.c ix)),some ⟨.arr len sz _,_,_,_⟩=>match eI ix with
     | some (_,k,_)=>.need (decide (0<=k /\ k < len)) (.leaf (.v (.c (.vel n k0 e (O7 (k.toNat * sz) off)))))
     | none=>.fail "indexAddr"
   | _,_,_=>.fail "indexAddr")
 | .convert src dst x=>some (match ev x,N.tt.get src,N.tt.get dst with
   | some (.v (.c c)),some _,some ⟨.int k,_,_,_⟩=>match eI c with
     | some (_,n,lit)=>.leaf (.v (xk k c n lit))
     | none=>.fail "convert"
   | _,_,_=>.fail "convert")
 | .index t x i=>some (match ev x,ev i,N.tt.get t with
   | some (.v (.c (.st s))),some (.v (.c ix)),some ⟨.str,_,_,_⟩=>match eI ix with
     | some (_,n,lit)=>(jD lit (decide (0<=n /\ n < (s.data.toList.length:Int))) (mkI .u8 (rq s n) lit)).map .v
     | none=>.fail "index"
   | some (.v (.c (.sv s))),some (.v (.c ix)),some ⟨.str,_,_,_⟩=>match eI ix with
     | some (_,n,_)=>(jD false (decide (0<=n /\ n < (s.data.toList.length:Int))) (.c (.it .u8 (rq s n)))).map .v
     | none=>.fail "index"
   | some (.v (.agg l)),some (.v (.c (.il _ k))),some ⟨.arr len sz ag,_,_,_⟩=>match decide (0<=k /\ k < len) with
     | true=>one (part1 ag sz l (k.toNat * sz)) "index"
     | false=>.fail "index"
   | _,_,_=>.fail "index")
 | .call c=>match c.callee with
   | .builtin .len=>some (match c.args.toList,c.argTypes.toList with
     | [x],[t]=>match ev x,N.tt.get t with
       | some (.v (.c (.sl _ _ len _))),some ⟨.slice _,_,_,_⟩=>.leaf (.v (.c (.il .i64 len)))
       | some (.v (.c .snil)),some ⟨.slice _,_,_,_⟩=>.leaf (.v (.c (.il .i64 0)))
       | some (.v (.c (.sx _ _))),some ⟨.slice _,_,_,_⟩=>.leaf (.v (.c (.il .i64 0)))
       | some (.v (.c (.sf _ _ _ _ _ _))),some ⟨.slice _,_,_,_⟩=>.leaf (.v (.c (.il .i64 0)))
       | some (.v (.c (.vs _ _ len _ kn))),some ⟨.slice _,_,_,_⟩=>.leaf (.v (mkI .i64 len kn))
       | some (.v (.c (.st s))),some ⟨.str,_,_,_⟩=>.leaf (.v (.c (.il .i64 (dW s))))
       | some (.v (.c (.sv s))),some ⟨.str,_,_,_⟩=>.leaf (.v (.c (.it .i64 (dW s))))
       | _,_=>.fail "len"
     | _,_=>.fail "len")
   | _=>none
 | _=>none
def prtV (t:TypeId) (a:AV) (idx es off:Nat):Option (T SV):=match N.tt.get t with
 | some i=>match N.F.prt a idx es off i.size with
   | some (b,l)=>some (.need b (one (part1 (iS i.kd) i.size l 0) "load: range"))
   | none=>none
 | none=>none
def loadV (t:TypeId) (H:Hp AV):SV->T SV
 | .v (.c (.ptr n off))=>match hget H n with
   | some (.cells l _)=>one (partV N t l off) "load: range"
   | some (.abs a)=>match N.F.word a with
     | some l=>one (partV N t l off) "load: range"
     | none=>.fail "load: no chunk"
   | _=>.fail "load: no chunk"
 | .v (.c (.vel n idx es off))=>match hget H n with
   | some (.abs a)=>match prtV N t a idx es off with
     | some t=>t
     | none=>match N.F.row a idx es with
       | some (b,l)=>.need b (one (partV N t l off) "load: range")
       | none=>.fail "load: row"
   | some (.vec l _ _)=>one (partV N t l (idx * es+off)) "load: range"
   | _=>.fail "load: no chunk"
 | _=>.fail "load: no pointer"
def dv (E:Ev) (dst:Option Nat) (v:SV):Ev:=match dst with | some d=>(d,v)::E | none=>E
def updH (H:Hp AV):Option (Nat×Chunk AV)->Hp AV
 | none=>H
 | some (n,c)=>lset H n (some c)
inductive Tgt where
 | fn (f:FuncId) | op (o:Op)
abbrev Callee (AV:Type):=Tgt->List SV->Hp AV->T (SV×Hp AV)
def namesV1s:List V1->List Nat
 | []=>[]
 | x::r=>namesL x.cells++namesV1s r
def namesV:SV->List Nat
 | .v x=>namesL x.cells
 | .tup l=>namesV1s l
 | .unk=>[]
 | .clo _ l=>namesL l
def namesVs:List SV->List Nat
 | []=>[]
 | x::r=>namesV x++namesVs r
def hasN:List Nat->Nat->Bool
 | [],_=>false
 | x::r,n=>match Nat.beq x n with | true=>true | false=>hasN r n
def reach (H:Hp AV):Nat->List Nat->List Nat->List Nat
 | 0,_,acc=>acc
 | _+1,[],acc=>acc
 | f+1,n::r,acc=>match hasN acc n with
   | true=>reach H f r acc
   | false=>match hget H n with
     | some (.cells l _)=>reach H f (namesL l++r) (n::acc)
     | some (.vec l _ _)=>reach H f (namesL l++r) (n::acc)
     | _=>reach H f r (n::acc)
def bitsOf:List Nat->Nat
 | []=>0
 | n::r=>Nat.lor (Nat.shiftLeft 1 n) (bitsOf r)
def sees (R:List Nat) (n:Nat):Bool:=match Nat.land (Nat.shiftRight (bitsOf R) n) 1 with
 | 0=>false
 | _+1=>true
def maskH (R:List Nat):Nat->Hp AV->Hp AV
 | _,[]=>[]
 | i,x::r=>(match sees R i with | true=>x | false=>none)::maskH R (i+1) r
def mergeH (R:List Nat):Nat->Hp AV->Hp AV->Hp AV
 | _,[],b=>b
 | _,a,[]=>a
 | i,none::r,_::q=>none::mergeH R (i+1) r q
 | i,some x::r,y::q=>(match sees R i with | true=>y | false=>some x)::mergeH R (i+1) r q
def persB:Hp AV->Hp AV->Bool
 | [],_=>true
 | none::r,none::q=>persB r q
 | some _::r,some _::q=>persB r q
 | _,_=>false
def callV (cal:Callee AV) (gn:List Nat) (f:Tgt) (args:List SV) (H:Hp AV):T (SV×Hp AV) :=
 match maskH (reach H 400 (namesVs args++gn) []) 0 H with
 | A=>match clVs A args with
   | false=>.fail "call: arguments"
   | true=>match clHs A A with
     | false=>.fail "call: heap"
     | true=>(cal f args A).bind fun r=>match persB A r.2 with
       | false=>.fail "call: lost"
       | true=>.leaf (r.1,mergeH (reach H 400 (namesVs args++gn) []) 0 H r.2)
def gnames:Tgt->List Nat
 | .fn f=>match N.gu.get f with | some l=>l | none=>[]
 | .op _=>[]
abbrev Arr:=List Cell×Nat×TypeId×Nat
def mkMake (t:TypeId) (a b:Option SV):Option Arr :=
 match N.sl.get t,a,b with
 | some si,some (.v (.c (.il _ n))),some (.v (.c (.il _ c)))=>match decide (0<=n /\ n<=c /\ c.toNat * (si.bytes+1)<=lim) with
   | true=>some (repsL si.zero c.toNat,si.size,si.e,n.toNat)
   | false=>none
 | _,_,_=>none
def mkBuild (t:TypeId) (len:Nat) (ps:Option (List (Nat×V1))):Option Arr :=
 match N.sl.get t,ps with
 | some si,some ps=>match fillA si.size (repsL si.zero len) ps,Nat.ble (len * si.size) 16777216 with
   | some l,true=>some (l,si.size,si.e,len)
   | _,_=>none
 | _,_=>none
def lightArr (nm:Nat) (H:Hp AV):Option Arr->T (SV×Option (Nat×Chunk AV))
 | some (l,es,e,len)=>match hget H nm,Nat.blt nm H.length,Nat.blt nm N.G with
   | none,true,false=>.leaf (.v (.c (.vs nm 0 len es true)),some (nm,.vec l es e))
   | _,_,_=>.fail "make"
 | none=>.fail "make"
def mkOpen (t:TypeId) (a b:Option SV):Option (Bool×AV×Nat×Nat) :=
 match N.sl.get t,a,b with
 | some si,some (.v (.c x)),some (.v (.c y))=>match eI x,eI y with
   | some (_,n,_),some (_,c,_)=>match N.F.zer si.zero si.size si.e n.toNat with
     | some a=>some (decide (0<=n /\ n=c /\ n.toNat * (si.bytes+1)<=lim),a,si.size,n.toNat)
     | none=>none
   | _,_=>none
 | _,_,_=>none
def lightAbs (nm:Nat) (H:Hp AV):Option (Bool×AV×Nat×Nat)->T (SV×Option (Nat×Chunk AV))
 | some (b,a,es,len)=>match hget H nm,Nat.blt nm H.length,Nat.blt nm N.G with
   | none,true,false=>.need b (.leaf (.v (.c (.vs nm 0 len es false)),some (nm,.abs a)))
   | _,_,_=>.fail "make"
 | none=>.fail "make"
def lightMk (nm:Nat) (H:Hp AV) (k:Option Arr) (z:Option (Bool×AV×Nat×Nat)):T (SV×Option (Nat×Chunk AV)):=match k with
 | some a=>lightArr N nm H (some a)
 | none=>lightAbs N nm H z
def rG (ev:Operand->Option SV) (d:Nat):Option Operand->Option Nat
 | none=>some d
 | some x=>match ev x with
   | some (.v (.c (.il _ n)))=>match decide (0<=n) with | true=>some n.toNat | false=>none
   | _=>none
structure SPt where
 t:TypeId
 n:Nat
 o:Nat
 es:Nat
 len:Nat
 l:Nat
 h:Nat
def kT (ev:Operand->Option SV):Op->Option SPt
 | .slice t x lo hi mx=>match mx with
   | some _=>none
   | none=>match ev x with
     | some (.v (.c (.vs n o len es true)))=>match rG ev 0 lo,rG ev len hi with
       | some l,some h=>match Nat.blt l h,Nat.ble h len with
         | true,true=>some ⟨t,n,o,es,len,l,h⟩
         | _,_=>none
       | _,_=>none
     | _=>none
 | _=>none
def lightSl (H:Hp AV) (p:SPt):T (SV×Option (Nat×Chunk AV)):=match N.sl.get p.t,hget H p.n with
 | some si,some (.vec lst es2 _)=>match Nat.beq p.es si.size,Nat.beq p.es es2,Nat.ble ((p.o+p.len) * p.es) lst.length with
   | true,true,true=>.leaf (.v (.c (.vs p.n (p.o+p.l) (p.h - p.l) p.es true)),none)
   | _,_,_=>.fail "slice"
 | _,_=>.fail "slice"
def light (nm:Nat) (ev:Operand->Option SV) (H:Hp AV) (o:Op):T (SV×Option (Nat×Chunk AV)) :=
 match pureOp N ev o with
 | some t=>t.map fun v=>(v,none)
 | none=>match o with
   | .alloc t=>match N.tt.get t,hget H nm,Nat.blt nm H.length,Nat.blt nm N.G with
     | some ⟨_,_,some z,_⟩,none,true,false=>.leaf (.v (.c (.ptr nm 0)),some (nm,.cells z t))
     | _,_,_,_=>.fail "alloc"
   | .box t x=>match ev x,hget H nm,Nat.blt nm H.length,Nat.blt nm N.G with
     | some (.v v),none,true,false=>.leaf (.v (.c (.ptr nm 0)),some (nm,.cells v.cells t))
     | _,_,_,_=>.fail "box"
   | .load t a=>match ev a with
     | some v=>(loadV N t H v).map fun v=>(v,none)
     | none=>.fail "load"
   | .store t a x=>match ev a,ev x with
     | some (.v (.c (.ptr n off))),some (.v v)=>match hget H n,N.tt.get t with
       | some (.cells l ty),some i=>match Nat.beq i.size v.cells.length with
         | true=>match lput l off v.cells with
           | some l'=>.leaf (bc,some (n,.cells l' ty))
           | none=>.fail "store: range"
         | false=>.fail "store: size"
       | _,_=>.fail "store: no chunk"
     | some (.v (.c (.vel n idx es off))),some (.v v)=>match hget H n,N.tt.get t with
       | some (.vec l ve ty),some i=>match Nat.beq i.size v.cells.length with
         | true=>match Nat.beq i.size 0 with
           | true=>.fail "store: size"
           | false=>match lput l (idx * es+off) v.cells with
             | some l'=>.leaf (bc,some (n,.vec l' ve ty))
             | none=>.fail "store: range"
         | false=>.fail "store: size"
       | some (.abs a),some i=>match Nat.beq i.size v.cells.length with
         | true=>match N.F.upd a idx es off v.cells with
           | some (b,a')=>.need b (.leaf (bc,some (n,.abs a')))
           | none=>.fail "store: upd"
         | false=>.fail "store: size"
       | _,_=>.fail "store: no chunk"
     | _,_=>.fail "store: no pointer"
   | .makeSlice t x y=>lightMk N nm H (mkMake N t (ev x) (ev y)) (mkOpen N t (ev x) (ev y))
   | .buildSlice t len parts=>lightArr N nm H (mkBuild N t len (evlP ev parts.toList))
   | .slice t x lo hi mx=>match kT ev (.slice t x lo hi mx) with
     | some p=>lightSl N H p
     | none=>.fail "op"
   | _=>.fail "op"
def heavy:Op->Bool
 | .slice _ _ _ _ _=>true
 | .makeMap _ _=>true
 | .lookup _ _ _ _=>true
 | .mapUpdate _ _ _ _=>true
 | .call c=>match c.callee with
   | .builtin .append=>true
   | .builtin .copy=>true
   | .builtin .delete=>true
   | .builtin .clear=>true
   | .builtin .min=>true
   | .builtin .max=>true
   | _=>false
 | _=>false
def slC:Cell->Bool
 | .vs _ _ _ _ _=>true
 | .snil=>true
 | .sx _ _=>true
 | .sf _ _ _ _ _ _=>true
 | _=>false
def mpC:Cell->Bool
 | .mp _=>true
 | _=>false
def xp (f:Cell->Bool):Option SV->Bool
 | some (.v (.c c))=>f c
 | _=>false
def heavyE (ev:Operand->Option SV) (o:Op):Bool:=match heavy o with
 | true=>match kT ev o with
   | some _=>false
   | none=>(match txO ev o with | true=>false | false=>true)
 | false=>match o with
   | .convert _ _ x=>xp slC (ev x)
   | .call c=>match c.callee with
     | .builtin .len=>match c.args.toList with
       | [x]=>xp mpC (ev x)
       | _=>false
     | _=>false
   | _=>false
def callee? (ev:Operand->Option SV) (o:Op):Option (Option (Tgt×List SV)) :=
 match heavyE ev o with
 | true=>some (match evls ev o.operands.toList with
   | some l=>some (.op o,l)
   | none=>none)
 | false=>match o with
   | .call c=>match c.callee with
     | .value f=>some (match ev f,evls ev c.args.toList with
       | some (.v (.c (.fn g))),some l=>match N.ft.get g with
         | some _=>some (.fn g,l)
         | none=>none
       | some (.clo g cs),some l=>match N.ft.get g with
         | some _=>some (.fn g,l++svs cs)
         | none=>none
       | _,_=>none)
     | .invoke r m=>some (match ev r,evls ev c.args.toList with
       | some (.v (.c (.ifc t x))),some l=>match N.mt t m with
         | some g=>match N.ft.get g with
           | some _=>some (.fn g,.v (.c x)::l)
           | none=>none
         | none=>none
       | _,_=>none)
     | _=>none
   | _=>none
inductive Tri where
 | yes | no | cond (b:Bool)
def Tri.ok:Tri->Bool
 | .yes=>true
 | .no=>false
 | .cond b=>b
inductive Ent where
 | pure | rd (n:Nat) | wr (n:Nat) | call (R:List Nat) (U:Nat->Tri)
def gb (l:List Cell) (t:TypeId) (l':List Cell) (t':TypeId):Bool:=@decide (l=l' /\ t=t') (Classical.propDecidable _)
def IP:Option (Chunk AV)->Option (Chunk AV)->Tri
 | some (.abs a),some (.abs b)=>match N.F.same a b with | true=>.yes | false=>.no
 | some (.cells l t),some (.cells l' t')=>.cond (gb l t l' t')
 | _,_=>.no
def keptU (R:List Nat) (H H':Hp AV) (n:Nat):Tri:=match sees R n with
 | true=>IP N (hget H n) (hget H' n)
 | false=>.no
def entOf (nm:Nat) (ev:Operand->Option SV) (H H':Hp AV) (o:Op):Ent :=
 match callee? N ev o with
 | some (some (g,l))=>.call (reach H 400 (namesVs l++gnames N g) []) (keptU N (reach H 400 (namesVs l++gnames N g) []) H H')
 | some none=>.pure
 | none=>match o with
   | .alloc _=>.wr nm
   | .box _ _=>.wr nm
   | .makeSlice _ _ _=>.wr nm
   | .buildSlice _ _ _=>.wr nm
   | .load _ a=>match ev a with
     | some (.v (.c (.ptr n _)))=>.rd n
     | some (.v (.c (.vel n _ _ _)))=>.rd n
     | _=>.pure
   | .store _ a _=>match ev a with
     | some (.v (.c (.ptr n _)))=>.wr n
     | some (.v (.c (.vel n _ _ _)))=>.wr n
     | _=>.pure
   | .slice t x lo hi mx=>match kT ev (.slice t x lo hi mx) with
     | some p=>.rd p.n
     | none=>.pure
   | _=>.pure
def stepOp (cal:Callee AV) (nm:Nat) (o:Oper) (s:St AV):T (St AV) :=
 match callee? N (evl N.G s.H s.E) o.op with
 | some (some (g,l))=>(callV cal (gnames N g) g l s.H).bind fun r=>.leaf {E:=dv s.E o.dst r.1,H:=r.2}
 | some none=>.fail "call"
 | none=>(light N nm (evl N.G s.H s.E) s.H o.op).bind fun r=>.leaf {E:=dv s.E o.dst r.1,H:=updH s.H r.2}
def lP:Op->Bool
 | .alloc _=>true
 | .box _ _=>true
 | .makeSlice _ _ _=>true
 | .buildSlice _ _ _=>true
 | _=>false
def countMk:List Oper->Nat
 | []=>0
 | o::r=>match lP o.op with | true=>countMk r+1 | false=>countMk r
def nmOf:List Oper->Nat->Nat->Nat
 | [],b,_=>b
 | _,b,0=>b
 | o::r,b,i+1=>match lP o.op with | true=>nmOf r (b+1) i | false=>nmOf r b i
def nones (AV:Type):Nat->Hp AV
 | 0=>[]
 | n+1=>none::nones AV n
def growH (H:Hp AV) (k:Nat):Hp AV:=match k with
 | 0=>H
 | k+1=>H++nones AV (k+1)
theorem growH_eq (H:Hp AV) (k:Nat):growH H k=H++nones AV k:=by
 cases k with
 | zero=>simp [growH,nones]
 | succ k=>rfl
def wantedS (all:List Oper) (o:Oper) (E:Ev):Option (Bool×Bool) :=
 match o.guard with
 | none=>some (true,true)
 | some (j,want)=>match nth all j with
   | some oj=>match oj.dst with
     | some d=>match look E d with
       | .unk=>none
       | .v (.c c)=>match di c with
         | some (b,k)=>some (b==want,k)
         | none=>some (false,true)
       | _=>some (false,true)
     | none=>some (false,true)
   | none=>some (false,true)
def gB (cal:Callee AV) (base:Nat) (all:List Oper) (i:Nat) (o:Oper) (s:St AV):T (St AV×Ent) :=
 match wantedS all o s.E with
 | none=>.fail "guard"
 | some (b,true)=>match b with
   | true=>(stepOp N cal (nmOf all base i) o s).map fun s'=>(s',entOf N (nmOf all base i) (evl N.G s.H s.E) s.H s'.H o.op)
   | false=>.leaf ({s with E:=dv s.E o.dst bc},.pure)
 | some (b,false)=>.ite b ((stepOp N cal (nmOf all base i) o s).map fun s'=>(s',entOf N (nmOf all base i) (evl N.G s.H s.E) s.H s'.H o.op)) (.leaf ({s with E:=dv s.E o.dst bc},.pure))
def hI (cal:Callee AV) (base:Nat) (all:List Oper):Nat->List Oper->St AV->T (St AV)
 | _,[],s=>.leaf s
 | i,o::r,s=>(gB N cal base all i o s).bind fun x=>hI cal base all (i+1) r x.1
def compatE:Ent->Ent->Bool
 | .pure,_=>true
 | _,.pure=>true
 | .rd _,.rd _=>true
 | .rd n,.wr m=>!Nat.beq n m
 | .wr n,.rd m=>!Nat.beq n m
 | .wr n,.wr m=>!Nat.beq n m
 | .rd n,.call R U=>match sees R n with | true=>(U n).ok | false=>true
 | .wr n,.call R _=>!sees R n
 | .call R U,.rd n=>match sees R n with | true=>(U n).ok | false=>true
 | .call R _,.wr n=>!sees R n
 | .call _ _,.call _ _=>false
def hasEdge:List Edge->Nat->Bool
 | [],_=>false
 | e::r,i=>match Region.binds .any e with
   | true=>match Nat.beq e.on i with | true=>true | false=>hasEdge r i
   | false=>hasEdge r i
def anyE (rec:Nat->Bool):List Edge->Bool
 | []=>false
 | e::r=>match Region.binds .any e with
   | true=>match rec e.on with | true=>true | false=>anyE rec r
   | false=>anyE rec r
def isAnc (all:List Oper):Nat->Nat->Nat->Bool
 | 0,_,_=>false
 | f+1,j,i=>match nth all j with
   | none=>false
   | some o=>match hasEdge o.after.toList i with
     | true=>true
     | false=>anyE (fun k=>isAnc all f k i) o.after.toList
def tY (all:List Oper) (j:Nat) (en:Ent):List (Nat×Ent)->Bool
 | []=>true
 | (i,x)::r=>match compatE x en with
   | true=>tY all j en r
   | false=>match isAnc all 12 j i with
     | true=>tY all j en r
     | false=>false
def compatC:Ent->Ent->Tri
 | .rd n,.call R U=>match sees R n with | true=>U n | false=>.yes
 | .call R U,.rd n=>match sees R n with | true=>U n | false=>.yes
 | a,b=>match compatE a b with | true=>.yes | false=>.no
def logC (all:List Oper) (j:Nat) (en:Ent):List (Nat×Ent)->Option (List Bool)
 | []=>some []
 | (i,x)::r=>match compatC x en with
   | .yes=>logC all j en r
   | .no=>match isAnc all 12 j i with
     | true=>logC all j en r
     | false=>none
   | .cond b=>match isAnc all 12 j i with
     | true=>logC all j en r
     | false=>match logC all j en r with
       | some l=>some (b::l)
       | none=>none
def needs {α:Type}:List Bool->T α->T α
 | [],t=>t
 | b::r,t=>.need b (needs r t)
def edgesBelow (i:Nat):List Edge->Bool
 | []=>true
 | e::r=>match Region.binds .any e with
   | true=>match Nat.blt e.on i with | true=>edgesBelow i r | false=>false
   | false=>edgesBelow i r
def iA (ops:Array Oper) (j:Nat) (oj:Oper):Nat->List Oper->Bool
 | _,[]=>true
 | i,oi::r=>match Nat.blt i j with
   | false=>true
   | true=>match hasEdge oj.after.toList i with
     | true=>iA ops j oj (i+1) r
     | false=>match oi.apart ops oj with | true=>iA ops j oj (i+1) r | false=>false
def jd (ops:Array Oper) (all:List Oper):Nat->List Oper->Bool
 | _,[]=>true
 | j,oj::r=>match iA ops j oj 0 all with | true=>jd ops all (j+1) r | false=>false
def fE (cal:Callee AV) (base:Nat) (all:List Oper):Nat->List Oper->List (Nat×Ent)->St AV->T (St AV)
 | _,[],_,s=>.leaf s
 | i,o::r,log,s=>match edgesBelow i o.after.toList with
   | false=>.fail "an edge upwards"
   | true=>(gB N cal base all i o s).bind fun x=>match tY all i x.2 log with
     | true=>fE cal base all (i+1) r ((i,x.2)::log) x.1
     | false=>.fail "the order matters"
abbrev Asm:=List (Nat×Bool)
def lookA:Asm->Nat->Option Bool
 | [],_=>none
 | (k,b)::r,n=>match Nat.beq k n with | true=>some b | false=>lookA r n
def dropA:Asm->Nat->Asm
 | [],_=>[]
 | (k,b)::r,n=>match Nat.beq k n with | true=>dropA r n | false=>(k,b)::dropA r n
def dropD (A:Asm):Option Nat->Asm
 | none=>A
 | some d=>dropA A d
def gTmp (all:List Oper) (o:Oper):Option (Nat×Bool) :=
 match o.guard with
 | none=>none
 | some (j,want)=>match nth all j with
   | none=>none
   | some oj=>match oj.dst with
     | none=>none
     | some d=>some (d,want)
def pickK (A:Asm) (ev:Operand->Option SV):Op->Option (T SV)
 | .pick (.tmp t) a b=>match lookA A t with
   | none=>none
   | some x=>some (match ev (.tmp t),ev a,ev b with
     | some (.v (.c c)),some p,some q=>match di c with
       | some _=>match x with | true=>.leaf p | false=>.leaf q
       | none=>.fail "pick"
     | _,_,_=>.fail "pick")
 | _=>none
def execA (cal:Callee AV) (base:Nat) (all:List Oper) (i:Nat) (o:Oper) (A B:Asm) (s:St AV):T (St AV×Ent×Asm) :=
 match pickK A (evl N.G s.H s.E) o.op with
 | some t=>t.map fun v=>({s with E:=dv s.E o.dst v},.pure,dropD B o.dst)
 | none=>(stepOp N cal (nmOf all base i) o s).map fun s'=>(s',entOf N (nmOf all base i) (evl N.G s.H s.E) s.H s'.H o.op,dropD B o.dst)
def step1A (cal:Callee AV) (base:Nat) (all:List Oper) (i:Nat) (o:Oper) (A:Asm) (s:St AV):T (St AV×Ent×Asm) :=
 match wantedS all o s.E with
 | none=>.fail "guard"
 | some (b,true)=>match b with
   | true=>execA N cal base all i o A A s
   | false=>.leaf ({s with E:=dv s.E o.dst bc},.pure,dropD A o.dst)
 | some (b,false)=>match gTmp all o with
   | none=>.fail "guard"
   | some (d,want)=>match lookA A d with
     | some x=>match x==want with
       | true=>execA N cal base all i o A A s
       | false=>.leaf ({s with E:=dv s.E o.dst bc},.pure,dropD A o.dst)
     | none=>.ite b (execA N cal base all i o A ((d,want)::A) s) (.leaf ({s with E:=dv s.E o.dst bc},.pure,dropD ((d,!want)::A) o.dst))
def T5:Ent->Bool
 | .pure=>true
 | .rd _=>true
 | .wr _=>false
 | .call [] _=>true
 | .call (_::_) _=>false
def quietS (q:Bool) (en:Ent) (H H':Hp AV):Bool :=
 match q with
 | false=>false
 | true=>match en with
   | .pure=>true
   | .rd _=>true
   | .wr _=>false
   | .call [] _=>Nat.beq H.length H'.length
   | .call (_::_) _=>false
def stepOpsA (cal:Callee AV) (base:Nat) (all:List Oper):Nat->List Oper->Asm->Bool->St AV->T (St AV×Bool)
 | _,[],_,q,s=>.leaf (s,q)
 | i,o::r,A,q,s=>(step1A N cal base all i o A s).bind fun x=>stepOpsA cal base all (i+1) r x.2.2 (quietS q x.2.1 s.H x.1.H) x.1
def stepOpsDA (cal:Callee AV) (base:Nat) (all:List Oper):Nat->List Oper->List (Nat×Ent)->Asm->Bool->St AV->T (St AV×Bool)
 | _,[],_,_,q,s=>.leaf (s,q)
 | i,o::r,log,A,q,s=>match edgesBelow i o.after.toList with
   | false=>.fail "an edge upwards"
   | true=>(step1A N cal base all i o A s).bind fun x=>match logC all i x.2.1 log with
     | some l=>needs l (stepOpsDA cal base all (i+1) r ((i,x.2.1)::log) x.2.2 (quietS q x.2.1 s.H x.1.H) x.1)
     | none=>.fail "the order matters"
def wG (b:Bool) (x y:Cell):Option Cell :=
 match di x,di y with
 | some (p,kp),some (q,kq)=>match qJ (qJ kp kq) (p==q) with
   | true=>some (.bl p)
   | false=>some (.bt (match b with | true=>p | false=>q))
 | _,_=>match eI x,eI y with
   | some (k,p,_),some (k',q,_)=>match decide (k=k') with
     | true=>some (.it k (match b with | true=>p | false=>q))
     | false=>none
   | _,_=>none
def joinL (b:Bool):List Cell->List Cell->Option (List Cell)
 | [],[]=>some []
 | x::xs,y::ys=>match wG b x y with
   | some c=>match joinL b xs ys with | some l=>some (c::l) | none=>none
   | none=>none
 | _,_=>none
def joinV (b:Bool):SV->SV->SV
 | .v (.c x),.v (.c y)=>match wG b x y with | some c=>.v (.c c) | none=>.unk
 | .v (.agg x),.v (.agg y)=>match joinL b x y with | some l=>.v (.agg l) | none=>.unk
 | _,_=>.unk
def joinZ (b:Bool):Ev->Ev->Option Ev
 | [],[]=>some []
 | (k,v)::r,(k',u)::q=>match Nat.beq k k' with
   | true=>match joinZ b r q with
     | some z=>some ((k,joinV b v u)::z)
     | none=>none
   | false=>none
 | _,_=>none
def uX (n:Option Bool):Option Ev->Option (Option Bool×Ev)
 | some z=>some (n,z)
 | none=>none
def firstN:Nat->Ev->Ev
 | 0,_=>[]
 | _+1,[]=>[]
 | n+1,x::r=>x::firstN n r
def joinT (E:Ev):T (St AV×Bool)->Option (Option Bool×Ev)
 | .leaf s=>match s.2 with
   | true=>some (none,firstN (s.1.E.length - E.length) s.1.E)
   | false=>none
 | .need b t=>match joinT E t with
   | some (none,W)=>some (some b,W)
   | some (some n,W)=>some (some (match b with | true=>n | false=>false),W)
   | none=>none
 | .ite b t e=>match joinT E t,joinT E e with
   | some (none,W),some (none,X)=>uX none (joinZ b W X)
   | some (some n,W),some (none,X)=>uX (some (match b with | true=>n | false=>true)) (joinZ b W X)
   | some (none,W),some (some m,X)=>uX (some (match b with | true=>true | false=>m)) (joinZ b W X)
   | some (some n,W),some (some m,X)=>uX (some (match b with | true=>n | false=>m)) (joinZ b W X)
   | _,_=>none
 | .fail _=>none
def Uo {α:Type}:T α->Bool
 | .leaf _=>true
 | _=>false
def joinR (s:St AV) (t:T (St AV×Bool)):T (St AV) :=
 match Uo t with
 | true=>t.map fun r=>r.1
 | false=>match joinT s.E t with
   | some (none,W)=>.leaf {s with E:=W++s.E}
   | some (some n,W)=>.need n (.leaf {s with E:=W++s.E})
   | none=>t.map fun r=>r.1
def dstsOk (nt:Nat):List Oper->Bool
 | []=>true
 | o::r=>match o.dst with
   | none=>dstsOk nt r
   | some d=>match Nat.blt d nt with | true=>dstsOk nt r | false=>false
def kL:Code->Option Nat
 | .region id _ _=>some id
 | .seq a b=>match kL a with | some n=>some n | none=>kL b
 | .cond _ a b=>match kL a with | some n=>some n | none=>kL b
 | .block _ c=>kL c
 | .loop c=>kL c
 | _=>none
def tidy (E:Ev):Nat->Ev
 | 0=>[]
 | k+1=>(k,look E k)::tidy E k
def rounds (nt:Nat) (body:St AV->T (Ex×St AV)):Nat->St AV->T (Ex×St AV)
 | 0,_=>.fail "loop: too many rounds"
 | n+1,s=>(body s).bind fun r=>match r.1 with
   | .normal=>rounds nt body n {r.2 with E:=tidy r.2.E nt}
   | e=>.leaf (e,r.2)
def xc (cal:Callee AV) (lp:Nat->Option (St AV->T (Ex×St AV))) (nt:Nat):Code->St AV->T (Ex×St AV)
 | .skip,s=>.leaf (.normal,s)
 | .label _,s=>.leaf (.normal,s)
 | .region _ ops d,s=>match dstsOk nt ops.toList with
   | false=>.fail "temporaries"
   | true=>match d with
     | false=>(joinR {s with H:=growH s.H (countMk ops.toList)} (stepOpsA N cal s.H.length ops.toList 0 ops.toList [] true {s with H:=growH s.H (countMk ops.toList)})).bind fun s=>.leaf (.normal,s)
     | true=>match jd ops ops.toList 0 ops.toList,Nat.ble N.G s.H.length with
       | false,_=>.fail "not apart"
       | true,false=>.fail "variables"
       | true,true=>(joinR {s with H:=growH s.H (countMk ops.toList)} (stepOpsDA N cal s.H.length ops.toList 0 ops.toList [] [] true {s with H:=growH s.H (countMk ops.toList)})).bind fun s=>.leaf (.normal,s)
 | .seq a b,s=>(xc cal lp nt a s).bind fun r=>match r.1 with
   | .normal=>xc cal lp nt b r.2
   | e=>.leaf (e,r.2)
 | .cond c a b,s=>match evl N.G s.H s.E c with
   | some (.v (.c x))=>match di x with
     | some (t,true)=>match t with | true=>xc cal lp nt a s | false=>xc cal lp nt b s
     | some (t,false)=>.ite t (xc cal lp nt a s) (xc cal lp nt b s)
     | none=>.fail "cond"
   | _=>.fail "cond"
 | .block id c,s=>(xc cal lp nt c s).bind fun r=>match r.1 with
   | .exit j=>match Nat.beq j id with | true=>.leaf (.normal,r.2) | false=>.leaf r
   | _=>.leaf r
 | .exit id,s=>.leaf (.exit id,s)
 | .ret,s=>.leaf (.ret,s)
 | .loop c,s=>match kL c with
   | none=>.fail "loop"
   | some id=>match lp id with
     | some g=>g s
     | none=>rounds nt (xc cal lp nt c) 3000 s
 | _,_=>.fail "code"
def resV (s:St AV):List ResultVar->T (List V1)
 | []=>.leaf []
 | .tmp t::r=>match look s.E t with
   | .v x=>(resV s r).map fun l=>x::l
   | _=>.fail "result"
 | .cell a t::r=>match look s.E a with
   | .v (.c (.ptr n off))=>match hget s.H n with
     | some (.cells l _)=>match partV N t l off with
       | some x=>(resV s r).map fun l=>x::l
       | none=>.fail "result"
     | _=>.fail "result"
   | _=>.fail "result"
def fF:List V1->SV
 | [x]=>.v x
 | l=>.tup l
def sweep (len:Nat) (R:List Nat):Nat->Hp AV->Hp AV
 | _,[]=>[]
 | i,x::r=>(match Nat.blt i len with | true=>x | false=>match hasN R i with | true=>x | false=>none)::sweep len R (i+1) r
def trim:Nat->Hp AV->Hp AV
 | 0,[]=>[]
 | 0,none::r=>match trim 0 r with
   | []=>[]
   | q=>none::q
 | 0,some c::r=>some c::trim 0 r
 | _+1,[]=>[]
 | n+1,x::r=>x::trim n r
def namesH:Nat->Hp AV->List Nat
 | 0,_=>[]
 | _+1,[]=>[]
 | n+1,some (.cells l _)::r=>namesL l++namesH n r
 | n+1,some (.vec l _ _)::r=>namesL l++namesH n r
 | n+1,_::r=>namesH n r
def gcH (len:Nat) (v:SV) (H:Hp AV):Hp AV :=
 trim len (sweep len (reach H 400 (namesV v++namesH len H) []) 0 H)
def pad:Nat->List SV->Ev
 | _,[]=>[]
 | n,x::r=>(n,x)::pad (n+1) r
def runF (cal:Callee AV) (f:FuncId) (args:List SV) (H:Hp AV):T (SV×Hp AV) :=
 match N.ft.get f with
 | some fn=>match fn.body with
   | some c=>match Nat.ble args.length fn.ntmps with
     | false=>.fail "arguments"
     | true=>(xc N cal (N.lp f) fn.ntmps c {E:=pad 0 args,H:=H}).bind fun r=>match r.1 with
       | .exit _=>.fail "exit"
       | _=>(resV N r.2 fn.results.toList).bind fun l=>match gcH H.length (fF l) r.2.H with
         | H'=>match clV H' (fF l) with
           | false=>.fail "result: names"
           | true=>match clHs H' H' with
             | false=>.fail "result: heap"
             | true=>.leaf (fF l,H')
   | none=>.fail "no body"
 | none=>.fail "no function"
def joinCT (len:Nat):T (SV×Hp AV)->Option (Option Bool×SV)
 | .leaf r=>match Nat.beq r.2.length len with
   | true=>some (none,r.1)
   | false=>none
 | .need b t=>match joinCT len t with
   | some (none,v)=>some (some b,v)
   | some (some n,v)=>some (some (match b with | true=>n | false=>false),v)
   | none=>none
 | .ite b t e=>match joinCT len t,joinCT len e with
   | some (none,v),some (none,u)=>some (none,joinV b v u)
   | some (some n,v),some (none,u)=>some (some (match b with | true=>n | false=>true),joinV b v u)
   | some (none,v),some (some m,u)=>some (some (match b with | true=>true | false=>m),joinV b v u)
   | some (some n,v),some (some m,u)=>some (some (match b with | true=>n | false=>m),joinV b v u)
   | _,_=>none
 | .fail _=>none
def allNone:Hp AV->Bool
 | []=>true
 | none::r=>allNone r
 | some _::_=>false
def IW:SV->Bool
 | .unk=>true
 | _=>false
def joinCal (cal:Callee AV):Callee AV:=fun f args A =>
 match allNone A with
 | false=>cal f args A
 | true=>match cal f args A with
   | .leaf r=>.leaf r
   | t=>match joinCT A.length t with
     | some (n,v)=>match IW v with
       | true=>t
       | false=>match clV A v,persB A A with
         | true,true=>match n with
           | none=>.leaf (v,A)
           | some b=>.need b (.leaf (v,A))
         | _,_=>t
     | none=>t
def yr (N:Env AV) (o:Op) (args:List SV) (H:Hp AV):T (SV×Hp AV):=N.hv o args H
def lv (tab:FuncId->Option (List SV->Hp AV->T (SV×Hp AV))):Nat->Callee AV
 | 0=>fun g args H=>match g with
   | .op o=>yr N o args H
   | .fn f=>match tab f with
     | some g=>g args H
     | none=>.fail "depth"
 | n+1=>fun g args H=>match g with
   | .op o=>yr N o args H
   | .fn f=>match tab f with
     | some g=>g args H
     | none=>runF N (joinCal (lv tab n)) f args H
end
end
end Go.Sx
