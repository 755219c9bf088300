import Derived.Tactics
import Derived.Orders
import Derived.Laws.CopyRow
import Derived.Laws.Cells
import Derived.KernelRfl
set_option linter.unusedVariables false
set_option linter.unusedSimpArgs false
set_option maxHeartbeats 4000000
namespace Go.Sx
noncomputable section
structure Loc where
 b:Nat
 o:Nat:=0
 c:Nat:=0
structure Nm where
 L:Nat->Loc
 S:Nat->Nat->Prop
abbrev Nm.f (ρ:Nm) (n:Nat):Nat:=(ρ.L n).b
instance:CoeFun Nm (fun _=>Nat->Nat):=⟨Nm.f⟩
def Nm.id:Nm:=⟨fun n=>⟨n,0,0⟩,fun _ _=>False⟩
inductive SfF where
 | rest (o l es:Nat) | non (f:SfF) | head (o es:Nat)
deriving DecidableEq
def SfF.ap:SfF->Loc->Loc
 | .rest o l es=>fun q=>if q.c=0 then⟨0,0,0⟩ else if q.c - 1 - o=l then⟨q.b,q.o+o * es,1⟩ else⟨q.b,q.o+(o+l) * es,q.c - (o+l)⟩
 | .non f=>fun q=>if (f.ap q).c=0 then⟨0,0,0⟩ else⟨(f.ap q).b,(f.ap q).o,1⟩
 | .head o es=>fun q=>⟨q.b,q.o+o * es,q.c⟩
inductive Cell where
 | bl (b:Bool) | bt (b:Bool)
 | il (k:IntKind) (n:Int) | it (k:IntKind) (n:Int)
 | iv (k:IntKind) (n:Int) (cs:List Int) (h:∀c∈cs,(n==c)=false)
 | ir (k:IntKind) (n lo hi:Int) (h:lo<=n /\ n < hi)
 | st (s:ByteArray) | sv (s:ByteArray)
 | ptr (n off:Nat) | vel (n idx es off:Nat) | pnil
 | sl (n o len cap:Nat) | snil | sx (a:Option Addr) (cap:Nat) | vs (n o len es:Nat) (kn:Bool)
 | sf (n o es:Nat) (z:Bool) (f:SfF) (h:∀l,(f.ap l).c<=1 \/ z=false /\ f.ap l=⟨l.b,l.o+o * es,l.c - o⟩)
 | ifc (t:TypeId) (c:Cell) | inil
 | fn (f:FuncId) | nfn
 | op (i:Nat) (a:Addr) | mp (r:Option Nat)
def aW (l:Loc) (o len es:Nat):Value :=
 if len=0 /\ l.c=0 then .slice none 0 0 else .slice (some ⟨l.b,l.o+o * es,none⟩) len (l.c - 1 - o)
def Cell.den (ρ:Nm):Cell->Value
 | .bl b=>.bool b
 | .bt b=>.bool b
 | .il k n=>.int k n
 | .it k n=>.int k n
 | .iv k n _ _=>.int k n
 | .ir k n _ _ _=>.int k n
 | .st s=>.string s
 | .sv s=>.string s
 | .ptr n off=>.pointer (some ⟨ρ n,off,none⟩)
 | .vel n idx es off=>.pointer (some ⟨ρ n,(ρ.L n).o+idx * es+off,none⟩)
 | .pnil=>.pointer none
 | .sl n o len cap=>.slice (some ⟨ρ n,o,none⟩) len cap
 | .snil=>.slice none 0 0
 | .sx a cap=>.slice a 0 cap
 | .vs n o len es _=>aW (ρ.L n) o len es
 | .sf n _ es _ f _=>aW (f.ap (ρ.L n)) 0 0 es
 | .ifc t c=>.iface t (c.den ρ)
 | .inil=>.nilIface
 | .fn f=>.func (.func f) #[] #[]
 | .nfn=>.nilFunc
 | .op _ a=>.pointer (some a)
 | .mp r=>.map (r.map ρ.f)
def Cell.name:Cell->Option Nat
 | .ptr n _=>some n
 | .vel n _ _ _=>some n
 | .sl n _ _ _=>some n
 | .vs n _ _ _ _=>some n
 | .sf n _ _ _ _ _=>some n
 | .ifc _ c=>c.name
 | .mp r=>r
 | _=>none
inductive V1 where
 | c (x:Cell) | agg (l:List Cell)
inductive SV where
 | v (x:V1) | tup (l:List V1) | unk | clo (f:FuncId) (l:List Cell)
def V1.cells:V1->List Cell
 | .c x=>[x]
 | .agg l=>l
def ah (ρ:Nm) (l:List Cell):List Value:=l.map (Cell.den ρ)
def V1.den (ρ:Nm):V1->Value
 | .c x=>x.den ρ
 | .agg l=>.agg (ah ρ l).toArray
def SV.den (ρ:Nm):SV->Value
 | .v x=>x.den ρ
 | .tup l=>.tuple (l.map (V1.den ρ)).toArray
 | .unk=>.tuple #[]
 | .clo f l=>.func (.func f) #[] (ah ρ l).toArray
inductive T (α:Type) where
 | leaf (a:α) | ite (b:Bool) (t e:T α) | need (b:Bool) (t:T α) | fail (why:String)
def T.bind {α β:Type}:T α->(α->T β)->T β
 | .leaf a,f=>f a
 | .ite b t e,f=>.ite b (t.bind f) (e.bind f)
 | .need b t,f=>.need b (t.bind f)
 | .fail w,_=>.fail w
def T.map {α β:Type} (f:α->β):T α->T β
 | .leaf a=>.leaf (f a)
 | .ite b t e=>.ite b (t.map f) (e.map f)
 | .need b t=>.need b (t.map f)
 | .fail w=>.fail w
def T.val {α:Type}:T α->Option α
 | .leaf a=>some a
 | .ite b t e=>match b with | true=>t.val | false=>e.val
 | .need b t=>match b with | true=>t.val | false=>none
 | .fail _=>none
theorem T.val_bind {α β:Type} (t:T α) (f:α->T β):(t.bind f).val=t.val.bind fun a=>(f a).val:=by
 induction t with
 | leaf a=>rfl
 | ite b t e iht ihe=>cases b<;>simp [T.bind,T.val,iht,ihe]
 | need b t ih=>cases b<;>simp [T.bind,T.val,ih]
 | fail w=>rfl
theorem T.val_map {α β:Type} (t:T α) (f:α->β):(t.map f).val=t.val.map f:=by
 induction t with
 | leaf a=>rfl
 | ite b t e iht ihe=>cases b<;>simp [T.map,T.val,iht,ihe]
 | need b t ih=>cases b<;>simp [T.map,T.val,ih]
 | fail w=>rfl
theorem T.bind_some {α β:Type} {t:T α} {f:α->T β} {y:β} (h:(t.bind f).val=some y):∃x,t.val=some x /\ (f x).val=some y:=by
 rw [T.val_bind] at h
 exact Option.bind_eq_some_iff.1 h
inductive FK where
 | bool | int (k:IntKind) | str
 deriving DecidableEq
def jD:Cell->Option (IntKind×Int×Bool)
 | .il k n=>some (k,n,true)
 | .it k n=>some (k,n,false)
 | .iv k n _ _=>some (k,n,false)
 | .ir k n _ _ _=>some (k,n,false)
 | _=>none
def gq:Cell->Option (Bool×Bool)
 | .bl b=>some (b,true)
 | .bt b=>some (b,false)
 | _=>none
def yC (a b:Bool):Bool:=match a with | true=>b | false=>false
def Ci:Cell->Option (ByteArray×Bool)
 | .st s=>some (s,true)
 | .sv s=>some (s,false)
 | _=>none
def Qo:List UInt8->List UInt8->Bool
 | [],[]=>true
 | x::xs,y::ys=>match Nat.beq x.toNat y.toNat with | true=>Qo xs ys | false=>false
 | _,_=>false
def wu (a b:ByteArray):Bool:=Qo a.data.toList b.data.toList
def eqC (x y:Cell):Option (Bool×Bool) :=
 match gq x,gq y with
 | some (a,ka),some (b,kb)=>some (a==b,yC ka kb)
 | _,_=>match jD x,jD y with
   | some (_,a,ka),some (_,b,kb)=>some (a==b,yC ka kb)
   | _,_=>match Ci x,Ci y with
     | some (a,ka),some (b,kb)=>some (wu a b,yC ka kb)
     | _,_=>none
def eqL:List Cell->List Cell->Option (Bool×Bool)
 | [],[]=>some (true,true)
 | x::xs,y::ys=>match eqC x y with
   | some (b,kb)=>match eqL xs ys with
     | some (c,kc)=>match kb with
       | true=>match b with
         | true=>some (c,kc)
         | false=>some (false,true)
       | false=>match kc with
         | true=>match c with
           | true=>some (b,false)
           | false=>some (false,true)
         | false=>some (b&&c,false)
     | none=>none
   | none=>none
 | _,_=>none
def rU:Cell->Option FK
 | .bl _=>some .bool
 | .bt _=>some .bool
 | .il k _=>some (.int k)
 | .it k _=>some (.int k)
 | .iv k _ _ _=>some (.int k)
 | .ir k _ _ _ _=>some (.int k)
 | .st _=>some .str
 | .sv _=>some .str
 | _=>none
def cY:List FK->List Cell->Bool
 | [],[]=>true
 | k::ks,c::cs=>match rU c with
   | some k'=>match decide (k=k') with | true=>cY ks cs | false=>false
   | none=>false
 | _,_=>false
def Ms (x y:V1):Bool:=match eqL x.cells y.cells with | some (b,_)=>b | none=>false
def WK (ks:List FK) (ag:Bool):V1->Bool
 | .c x=>match ag with | true=>false | false=>cY ks [x]
 | .agg l=>match ag with | true=>cY ks l | false=>false
def LZ (k z:V1):List (V1×V1)->V1×Bool
 | []=>(z,false)
 | e::r=>match Ms k e.1 with | true=>(e.2,true) | false=>LZ k z r
def V5 (k v:V1):List (V1×V1)->List (V1×V1)
 | []=>[(k,v)]
 | e::r=>match Ms k e.1 with | true=>(e.1,v)::r | false=>e::V5 k v r
def Xp (k:V1):List (V1×V1)->List (V1×V1)
 | []=>[]
 | e::r=>match Ms k e.1 with | true=>r | false=>e::Xp k r
def X0 (l:Loc) (S:Nat->Prop) (es:List (V1×V1)) (w:World):Prop :=
 (∀k,S k↔k=l.b) /\ ∃(en:Array MapEntry) (clock:Nat),w.heap[l.b]?=some (.map en clock) /\ en.toList.map (fun e=>(e.key,e.val))=es.map fun e=>(e.1.den Nm.id,e.2.den Nm.id)
def iC (l:Loc) (S:Nat->Prop) (cs:List Value) (es:Nat) (ty:TypeId) (w:World):Prop :=
 (l.c<=1 /\ cs=[] /\ ∀k,¬S k) \/ (0 < l.c /\ (∀k,S k↔k=l.b) /\ ∃row:List Value,w.heap[l.b]?=some (.cells row.toArray ty (0,0)) /\ l.o+(l.c - 1) * es<=row.length /\ cs.length<=(l.c - 1) * es /\ ∀(j:Nat) v,cs[j]?=some v->row[l.o+j]?=some v)
def CA (l:Loc) (cs:List Value) (es:Nat) (w:World):Prop:=cs.length<=(l.c - 1) * es /\ ∀(j:Nat) v,cs[j]?=some v->w.cell? ((⟨l.b,l.o,none⟩:Addr).add j)=some v
def fW (z:List Cell):Nat->List Cell
 | 0=>[]
 | n+1=>z++fW z n
structure Intf (AV:Type) where
 q:AV->Loc->(Nat->Prop)->World->Prop
 loc:∀a l S w w',(∀k,S k->w'.heap[k]?=w.heap[k]?)->q a l S w->q a l S w'
 dom:∀a l S w k,q a l S w->S k->k < w.heap.size
 row:AV->Nat->Nat->Option (Bool×List Cell)
 row_nm:∀a idx es cs,row a idx es=some (true,cs)->∀c∈cs,c.name=none
 R:Nat->Option Obj:=fun _=>none
 row_ok:∀a l S w idx es cs,(∀k o,R k=some o->w.heap[k]?=some o)->q a l S w->row a idx es=some (true,cs)->∀j c,cs[j]?=some c->w.cell? ⟨l.b,l.o+idx * es+j,none⟩=some (c.den Nm.id)
 prt:AV->Nat->Nat->Nat->Nat->Option (Bool×List Cell):=fun _ _ _ _ _=>none
 prt_nm:∀a i e o n cs,prt a i e o n=some (true,cs)->∀c∈cs,c.name=none:=by intro _ _ _ _ _ _ h;cases h
 prt_ok:∀a l S w i e o n cs,(∀k o,R k=some o->w.heap[k]?=some o)->q a l S w->prt a i e o n=some (true,cs)->∀j c,cs[j]?=some c->w.cell? ⟨l.b,l.o+i * e+o+j,none⟩=some (c.den Nm.id):=by intro _ _ _ _ _ _ _ _ _ _ _ h;cases h
 upd:AV->Nat->Nat->Nat->List Cell->Option (Bool×AV)
 upd_ok:∀a l S w idx es off cs a',q a l S w->upd a idx es off cs=some (true,a')->(∀c∈cs,c.name=none) /\ S l.b /\ ∃(row:List Value) (ty:TypeId),w.heap[l.b]?=some (.cells row.toArray ty (0,0)) /\ l.o+idx * es+off+cs.length<=row.length /\
  q a' l S (w.setRow l.b (row.take (l.o+idx * es+off)++(ah Nm.id cs++row.drop (l.o+idx * es+off+cs.length))).toArray)
 word:AV->Option (List Cell):=fun _=>none
 word_nm:∀a cs,word a=some cs->∀c∈cs,c.name=none:=by intro _ _ h;cases h
 word_ok:∀a l S w cs,q a l S w->word a=some cs->∀j c,cs[j]?=some c->w.cell? ⟨l.b,j,none⟩=some (c.den Nm.id):=by intro _ _ _ _ _ _ h;cases h
 same:AV->AV->Bool:=fun _ _=>false
 same_ok:∀a b,same a b=true->a=b:=by intro _ _ h;cases h
 arr:AV->Option (Nat×TypeId×List Value):=fun _=>none
 arr_q:∀a es ty vs,arr a=some (es,ty,vs)->(∀v∈vs,v.oneCell'=true) /\ ∀l S w,q a l S w↔iC l S vs es ty w:=by intro _ _ _ _ h;cases h
 src:AV->Option AV:=fun _=>none
 src_ok:∀a b es ty vs,src a=some b->arr b=some (es,ty,vs)->∀l S w,(∀k o,R k=some o->w.heap[k]?=some o)->q a l S w->CA l vs es w:=by intro _ _ _ _ _ h;cases h
 len:AV->Nat:=fun _=>0
 len_ok:∀a es ty vs,arr a=some (es,ty,vs)->vs.length=len a * es:=by intro _ _ _ _ h;cases h
 cat:AV->AV->Option AV:=fun _ _=>none
 cat_ok:∀a b c,cat a b=some c->∃es ty ty' vs us,arr a=some (es,ty,vs) /\ arr b=some (es,ty',us) /\ arr c=some (es,ty,vs++us):=by intro _ _ _ h;cases h
 app:AV->List Cell->Option AV:=fun _ _=>none
 app_ok:∀a cs c,app a cs=some c->(∀x∈cs,x.name=none) /\ ∃es ty vs,arr a=some (es,ty,vs) /\ arr c=some (es,ty,vs++ah Nm.id cs):=by intro _ _ _ h;cases h
 cut:AV->Nat->Nat->Option AV:=fun _ _ _=>none
 cut_ok:∀a i j c,cut a i j=some c->∃es ty vs,arr a=some (es,ty,vs) /\ arr c=some (es,ty,(vs.take (j * es)).drop (i * es)):=by intro _ _ _ _ h;cases h
 zer:List Cell->Nat->TypeId->Nat->Option AV:=fun _ _ _ _=>none
 zer_ok:∀z es ty n a,zer z es ty n=some a->arr a=some (es,ty,ah Nm.id (fW z n)):=by intro _ _ _ _ _ h;cases h
 txt:AV->Option (List Int):=fun _=>none
 txt_ok:∀a s,txt a=some s->∃ty,arr a=some (1,ty,s.map (Value.int .u8)):=by intro _ _ h;cases h
 mp:AV->Option (List FK×Bool×List (V1×V1)):=fun _=>none
 mp_q:∀a ks ag es,mp a=some (ks,ag,es)->(∀e∈es,WK ks ag e.1=true /\ (∀c∈e.1.cells,c.name=none) /\ ∀c∈e.2.cells,c.name=none) /\ ∀l S w,q a l S w↔X0 l S es w:=by intro _ _ _ _ h;cases h
 mnew:List FK->Bool->Option AV:=fun _ _=>none
 mnew_ok:∀ks ag a,mnew ks ag=some a->mp a=some (ks,ag,[]):=by intro _ _ _ h;cases h
 mlook:AV->V1->V1->Option (V1×Bool×Bool):=fun _ _ _=>none
 mlook_ok:∀a k z v b kn,mlook a k z=some (v,b,kn)->∃ks ag es,mp a=some (ks,ag,es) /\ (LZ k z es).2=b /\ (∀c∈v.cells,c.name=none) /\ ∀ρ,v.den ρ=(LZ k z es).1.den ρ:=by intro _ _ _ _ _ _ h;cases h
 mput:AV->V1->V1->Option AV:=fun _ _ _=>none
 mput_ok:∀a k v a',mput a k v=some a'->(∀c∈k.cells,c.name=none) /\ (∀c∈v.cells,c.name=none) /\ ∃ks ag es es',mp a=some (ks,ag,es) /\ mp a'=some (ks,ag,es') /\ es'.map (fun e=>(e.1.den Nm.id,e.2.den Nm.id))=(V5 k v es).map fun e=>(e.1.den Nm.id,e.2.den Nm.id):=by intro _ _ _ _ h;cases h
 mdel:AV->V1->Option AV:=fun _ _=>none
 mdel_ok:∀a k a',mdel a k=some a'->∃ks ag es,mp a=some (ks,ag,es) /\ mp a'=some (ks,ag,Xp k es):=by intro _ _ _ h;cases h
 mlen:AV->Option (Nat×Bool):=fun _=>none
 mlen_ok:∀a n kn,mlen a=some (n,kn)->∃ks ag es,mp a=some (ks,ag,es) /\ n=es.length:=by intro _ _ _ h;cases h
inductive Chunk (AV:Type) where
 | cells (l:List Cell) (ty:TypeId)
 | vec (l:List Cell) (es:Nat) (ty:TypeId)
 | dead
 | abs (a:AV)
abbrev Hp (AV:Type):=List (Option (Chunk AV))
def ab {AV:Type}:Hp AV->Nat->Option (Chunk AV)
 | [],_=>none
 | x::_,0=>x
 | _::r,n+1=>ab r n
def nth {α:Type}:List α->Nat->Option α
 | [],_=>none
 | x::_,0=>some x
 | _::r,n+1=>nth r n
def bC {α:Type}:List α->Nat->α->List α
 | [],_,_=>[]
 | _::r,0,y=>y::r
 | x::r,n+1,y=>x::bC r n y
abbrev Ev:=List (Nat×SV)
structure St (AV:Type) where
 E:Ev
 H:Hp AV
def bV:SV:=.tup []
def look:Ev->Nat->SV
 | [],_=>bV
 | (k,v)::r,n=>match Nat.beq k n with | true=>v | false=>look r n
def jz:List Cell->Nat->Option (List Cell)
 | _,0=>some []
 | [],_+1=>none
 | x::l,n+1=>match jz l n with | some r=>some (x::r) | none=>none
def kJ:List Cell->Nat->Nat->Option (List Cell)
 | l,0,n=>jz l n
 | [],_+1,_=>none
 | _::l,k+1,n=>kJ l k n
def gZ:List Cell->Nat->List Cell->Option (List Cell)
 | l,0,[]=>some l
 | [],0,_::_=>none
 | _::l,0,y::ys=>match gZ l 0 ys with | some r=>some (y::r) | none=>none
 | [],_+1,_=>none
 | x::l,n+1,ys=>match gZ l n ys with | some r=>some (x::r) | none=>none
def Cell.ofValue:Value->Option Cell
 | .bool b=>some (.bl b)
 | .int k n=>some (.il k n)
 | .string s=>some (.st s)
 | .pointer none=>some .pnil
 | .slice none 0 0=>some .snil
 | .nilIface=>some .inil
 | .nilFunc=>some .nfn
 | .map none=>some (.mp none)
 | _=>none
def ie:List Value->Option (List Cell)
 | []=>some []
 | v::r=>match Cell.ofValue v with
   | some c=>match ie r with | some l=>some (c::l) | none=>none
   | none=>none
def Fh:Value->Option SV
 | .agg cs=>match ie cs.toList with | some l=>some (.v (.agg l)) | none=>none
 | v=>match Cell.ofValue v with | some c=>some (.v (.c c)) | none=>none
def evl {AV:Type} (G:Nat) (H:Hp AV) (E:Ev):Operand->Option SV
 | .tmp t=>match look E t with
   | .unk=>none
   | v=>some v
 | .const v=>Fh v
 | .global g=>match Nat.blt g G,ab H g with
   | true,some _=>some (.v (.c (.ptr g 0)))
   | _,_=>none
 | .func f=>some (.v (.c (.fn f)))
def yU (ev:Operand->Option SV):List Operand->Option (List SV)
 | []=>some []
 | x::r=>match ev x with
   | some v=>match yU ev r with | some l=>some (v::l) | none=>none
   | none=>none
def sa (ev:Operand->Option SV):List (Nat×Operand)->Option (List (Nat×V1))
 | []=>some []
 | (i,x)::r=>match ev x with
   | some (.v v)=>match sa ev r with | some l=>some ((i,v)::l) | none=>none
   | _=>none
def BP:List SV->Option (List Cell)
 | []=>some []
 | .v (.c c)::r=>match BP r with | some l=>some (c::l) | none=>none
 | _::_=>none
def svs:List Cell->List SV
 | []=>[]
 | c::r=>.v (.c c)::svs r
def cg:List Cell->List Nat
 | []=>[]
 | c::r=>match c.name with | some n=>n::cg r | none=>cg r
section closed
variable {AV:Type}
def isS {α:Type}:Option α->Bool
 | some _=>true
 | none=>false
def clC (H:Hp AV) (c:Cell):Bool:=match c.name with | some n=>isS (ab H n) | none=>true
def Nl (H:Hp AV):List Nat->Bool
 | []=>true
 | n::r=>match isS (ab H n) with | true=>Nl H r | false=>false
def clL (H:Hp AV) (l:List Cell):Bool:=Nl H (cg l)
def I7 (H:Hp AV):V1->Bool
 | .c x=>clC H x
 | .agg l=>clL H l
def Dw (H:Hp AV):List V1->Bool
 | []=>true
 | x::r=>match I7 H x with | true=>Dw H r | false=>false
def clV (H:Hp AV):SV->Bool
 | .v x=>I7 H x
 | .tup l=>Dw H l
 | .unk=>true
 | .clo _ l=>clL H l
def clVs (H:Hp AV):List SV->Bool
 | []=>true
 | x::r=>match clV H x with | true=>clVs H r | false=>false
def Nn (H:Hp AV):Chunk AV->Bool
 | .cells l _=>clL H l
 | .vec l _ _=>clL H l
 | .dead=>true
 | .abs _=>true
def clHs (H:Hp AV):Hp AV->Bool
 | []=>true
 | none::r=>clHs H r
 | some c::r=>match Nn H c with | true=>clHs H r | false=>false
end closed
structure FdI where
 off:Nat
 size:Nat
 ty:TypeId
 agg:Bool
inductive Kd where
 | bool | int (k:IntKind) | str | map (k e:TypeId) | ptr | slice (esz:Nat) | arr (len esz:Nat) (ag:Bool) | struct (fs:List FdI) | iface | other
structure TI where
 kd:Kd
 size:Nat
 zero:Option (List Cell)
 flat:Option (List FK)
def oy:Kd->Bool
 | .arr _ _ _=>true
 | .struct _=>true
 | _=>false
section table
variable (P:Program)
def cQ (t:TypeId):Option Bool :=
 match P.underlying t with
 | some (.struct _)=>some true
 | some (.array _ _)=>some true
 | some _=>some false
 | none=>none
def jo (t:TypeId):Option Nat:=match P.info? t with | some i=>some i.size | none=>none
def BG:List Field->Option (List FdI)
 | []=>some []
 | f::r=>match jo P f.type,cQ P f.type,BG r with
   | some n,some a,some l=>some (⟨f.offset,n,f.type,a⟩::l)
   | _,_,_=>none
def kdT (t:TypeId):Option Kd :=
 match P.underlying t with
 | some .bool=>some .bool
 | some (.int k)=>some (.int k)
 | some .string=>some .str
 | some (.pointer _)=>some .ptr
 | some (.slice e)=>match jo P e with | some n=>some (.slice n) | none=>none
 | some (.array len e)=>match jo P e,cQ P e with | some n,some a=>some (.arr len n a) | _,_=>none
 | some (.struct fs)=>match BG P fs.toList with | some l=>some (.struct l) | none=>none
 | some (.interface _)=>some .iface
 | some (.map k e)=>some (.map k e)
 | some _=>some .other
 | none=>none
def mY (rec:TypeId->Option (List FK)):List Field->Nat->Option (List FK)
 | [],_=>some []
 | f::r,off=>match f.name == "_" with
   | true=>none
   | false=>match Nat.beq f.offset off with
     | false=>none
     | true=>match rec f.type with
       | none=>none
       | some ks=>match jo P f.type with
         | none=>none
         | some n=>match Nat.beq n ks.length with
           | false=>none
           | true=>match mY rec r (off+n) with
             | some l=>some (ks++l)
             | none=>none
def Hf (e:TypeId) (n i:Nat):Field:={name := "x",type:=e,offset:=i * n,embedded:=false,tag := "",pkgPath := "",byteOffset:=0}
def AE (e:TypeId) (n:Nat):Nat->Nat->List Field
 | 0,_=>[]
 | k+1,i=>Hf e n i::AE e n k (i+1)
def jU:Nat->TypeId->Option (List FK)
 | 0,_=>none
 | d+1,t=>match P.underlying t with
   | some .bool=>some [.bool]
   | some (.int k)=>some [.int k]
   | some .string=>some [.str]
   | some (.struct fs)=>match P.stoodInHeld t with
     | true=>none
     | false=>mY P (jU d) fs.toList 0
   | some (.array len e)=>match jo P e with
     | some n=>mY P (jU d) (AE e n len 0) 0
     | none=>none
   | _=>none
def Iu (t:TypeId):Option TI :=
 match P.info? t,kdT P t with
 | some i,some k=>some {
    kd:=k
    size:=i.size
    zero:=match i.zero with | some v=>ie v.cells.toList | none=>none
    flat:=match P.eqGuardType P.depth t with | true=>none | false=>jU P 12 t}
 | _,_=>none
end table
inductive Tr (α:Type) where
 | lf | nd (x:Option α) (l r:Tr α)
def Tr.get {α:Type}:Tr α->Nat->Option α
 | .lf,_=>none
 | .nd x l r,n=>match Nat.beq n 0 with
   | true=>x
   | false=>match Nat.beq (n % 2) 1 with
     | true=>l.get (n / 2)
     | false=>r.get ((n - 1) / 2)
structure SI where
 e:TypeId
 size:Nat
 bytes:Nat
 zero:List Cell
def rI (P:Program) (t:TypeId):Option SI :=
 match P.underlying t with
 | some (.slice e)=>match P.info? e with
   | some i=>match i.zero with
     | some z=>match ie z.cells.toList with
       | some l=>match Nat.beq l.length i.size,Nat.blt 0 i.size with
         | true,true=>some ⟨e,i.size,i.bytes,l⟩
         | _,_=>none
       | none=>none
     | none=>none
   | none=>none
 | _=>none
def lim:Nat:=1099511627776
inductive Ex where
 | normal | exit (id:Nat) | ret
structure Env (AV:Type) where
 tt:Tr TI
 ft:Tr Func
 gu:Tr (List Nat)
 G:Nat
 F:Intf AV
 hv:Op->List SV->Hp AV->T (SV×Hp AV):=fun _ _ _=>.fail "heavy"
 lp:FuncId->Nat->Option (St AV->T (Ex×St AV)):=fun _ _=>none
 mt:TypeId->String->Option FuncId:=fun _ _=>none
 sl:Tr SI:=.lf
 orc:Option Nat:=none
section
variable {AV:Type} (N:Env AV)
def n6 (agg:Bool) (n:Nat) (l:List Cell) (off:Nat):Option V1 :=
 match agg with
 | true=>match kJ l off n with | some x=>some (.agg x) | none=>none
 | false=>match nth l off with | some x=>some (.c x) | none=>none
def mg (t:TypeId) (l:List Cell) (off:Nat):Option V1 :=
 match N.tt.get t with
 | some i=>n6 (oy i.kd) i.size l off
 | none=>none
def rX (t:TypeId):Option (List FdI):=match N.tt.get t with | some ⟨.struct fs,_,_,_⟩=>some fs | _=>none
def mkB (b:Bool) (lit:Bool):V1:=.c (match lit with | true=>.bl b | false=>.bt b)
def mkI (k:IntKind) (n:Int) (lit:Bool):V1:=.c (match lit with | true=>.il k n | false=>.it k n)
def Nz (op:BinOp) (k:IntKind) (a b:Int):Int :=
 match op with
 | .and=>k.wrap ((BitVec.ofInt k.bits a &&& BitVec.ofInt k.bits b).toNat:Int)
 | .or=>k.wrap ((BitVec.ofInt k.bits a ||| BitVec.ofInt k.bits b).toNat:Int)
 | .xor=>k.wrap ((BitVec.ofInt k.bits a ^^^ BitVec.ofInt k.bits b).toNat:Int)
 | .andNot=>k.wrap ((BitVec.ofInt k.bits a &&& ~~~BitVec.ofInt k.bits b).toNat:Int)
 | _=>0
def mD (op:BinOp) (k:IntKind) (a b:Int) (lit:Bool):T V1 :=
 match op with
 | .add=>.leaf (mkI k (k.wrap (a+b)) lit)
 | .sub=>.leaf (mkI k (k.wrap (a - b)) lit)
 | .mul=>.leaf (mkI k (k.wrap (a * b)) lit)
 | .eql=>.leaf (mkB (a==b) lit)
 | .neq=>.leaf (mkB (a != b) lit)
 | .lss=>.leaf (mkB (decide (a < b)) lit)
 | .leq=>.leaf (mkB (decide (a<=b)) lit)
 | .gtr=>.leaf (mkB (decide (a > b)) lit)
 | .geq=>.leaf (mkB (decide (a>=b)) lit)
 | .quo=>.need (b != 0) (.leaf (mkI k (k.wrap (a.tdiv b)) lit))
 | .rem=>.need (b != 0) (.leaf (mkI k (a.tmod b) lit))
 | .and=>.leaf (mkI k (Nz .and k a b) lit)
 | .or=>.leaf (mkI k (Nz .or k a b) lit)
 | .xor=>.leaf (mkI k (Nz .xor k a b) lit)
 | .andNot=>.leaf (mkI k (Nz .andNot k a b) lit)
 | _=>.fail "binI"
def isConst:Operand->Bool
 | .const _=>true
 | _=>false
def pa:BinOp->Bool
 | .shl=>true
 | .shr=>true
 | _=>false
def Wh:Cell->Cell->Option Bool
 | .snil,.snil=>some true
 | .vs _ _ (_+1) _ true,.snil=>some false
 | .sl _ _ _ _,.snil=>some false
 | _,_=>none
def eqV (t:TypeId) (cst:Bool):V1->V1->Option (Bool×Bool)
 | .agg xs,.agg ys=>match N.tt.get t with
   | some ⟨kd,_,_,some ks⟩=>match oy kd with
     | false=>none
     | true=>match cY ks xs with
       | false=>none
       | true=>match cY ks ys with
         | false=>none
         | true=>eqL xs ys
   | _=>none
 | .c x,.c y=>match N.tt.get t with
   | some ⟨.bool,_,_,_⟩=>match gq x,gq y with
     | some (a,ka),some (b,kb)=>some (a==b,match ka with | true=>kb | false=>false)
     | _,_=>none
   | some ⟨.ptr,_,_,_⟩=>match x,y with
     | .pnil,.pnil=>some (true,true)
     | .pnil,.ptr _ _=>some (false,true)
     | .ptr _ _,.pnil=>some (false,true)
     | .pnil,.op _ _=>some (false,true)
     | .op _ _,.pnil=>some (false,true)
     | _,_=>none
   | some ⟨.iface,_,_,_⟩=>match x,y with
     | .inil,.inil=>match cst with | true=>some (true,true) | false=>none
     | .inil,.ifc _ _=>some (false,true)
     | .ifc _ _,.inil=>some (false,true)
     | _,_=>none
   | some ⟨.slice _,_,_,_⟩=>match Wh x y with
     | some b=>some (b,true)
     | none=>none
   | _=>none
 | _,_=>none
def Wc:Option (Bool×Bool)->T V1
 | some (b,k)=>.leaf (mkB b k)
 | none=>.fail "=="
def Wa:Option (Bool×Bool)->T V1
 | some (b,k)=>.leaf (mkB (!b) k)
 | none=>.fail "!="
def qy {α:Type} (known b:Bool) (a:α):T α :=
 match known with
 | true=>match b with | true=>.leaf a | false=>.fail "guard"
 | false=>.need b (.leaf a)
def Az:V1->V1->Option (IntKind×Int×Bool×IntKind×Int×Bool)
 | .c x,.c y=>match jD x with
   | some (k,a,ka)=>match jD y with
     | some (k',b,kb)=>some (k,a,ka,k',b,kb)
     | none=>none
   | none=>none
 | _,_=>none
def MK:List Int->Int->Bool
 | [],_=>false
 | x::r,n=>match decide (x=n) with | true=>true | false=>MK r n
def WM (op:BinOp):V1->V1->Option V1
 | .c (.iv _ _ cs _),.c (.il _ c)=>match MK cs c with
   | false=>none
   | true=>match op with
     | .eql=>some (.c (.bl false))
     | .neq=>some (.c (.bl true))
     | _=>none
 | _,_=>none
def HX:V1->Option (Int×Int)
 | .c (.il _ c)=>some (c,c+1)
 | .c (.ir _ _ lo hi _)=>some (lo,hi)
 | _=>none
def jV (t f:Bool):Option Bool:=match t with
 | true=>some true
 | false=>match f with | true=>some false | false=>none
def Qd (op:BinOp) (l1 h1 l2 h2:Int):Option Bool:=match op with
 | .lss=>jV (decide (h1<=l2)) (decide (h2<=l1+1))
 | .leq=>jV (decide (h1<=l2+1)) (decide (h2<=l1))
 | .gtr=>jV (decide (h2<=l1)) (decide (h1<=l2+1))
 | .geq=>jV (decide (h2<=l1+1)) (decide (h1<=l2))
 | .eql=>jV false (match decide (h1<=l2) with | true=>true | false=>decide (h2<=l1))
 | .neq=>jV (match decide (h1<=l2) with | true=>true | false=>decide (h2<=l1)) false
 | _=>none
theorem OR {a lo hi m:Int} (h:lo<=a /\ a < hi) (h0:0<=lo /\ 0 < m):0<=a.tmod m /\ a.tmod m < m :=
 ⟨Int.tmod_nonneg _ (by omega),Int.tmod_lt_of_pos _ h0.2⟩
theorem Qx {c n lo hi:Int} (h:lo<=n /\ n < hi):c+lo<=c+n /\ c+n < c+hi:=by omega
def Uc (op:BinOp):V1->V1->Option V1
 | .c (.ir k a lo _hi h),.c (.il _ m)=>match op with
   | .rem=>match decide (0<=lo /\ 0 < m) with
     | true=>if h0:0<=lo /\ 0 < m then some (.c (.ir k (a.tmod m) 0 m (OR h h0))) else none
     | false=>none
   | _=>none
 | .c (.il k c),.c (.ir _ n lo hi h)=>match op,k with
   | .add,.i64=>match decide (-9223372036854775808<=c+lo /\ c+hi<=9223372036854775808) with
     | true=>some (.c (.ir .i64 (c+n) (c+lo) (c+hi) (Qx h)))
     | false=>none
   | _,_=>none
 | _,_=>none
def isR:V1->Bool
 | .c (.ir _ _ _ _ _)=>true
 | _=>false
def Tu (op:BinOp) (x y:V1):Option V1:=match isR x,isR y with
 | false,false=>none
 | _,_=>match Uc op x y with
   | some r=>some r
   | none=>match HX x,HX y with
     | some (l1,h1),some (l2,h2)=>match Qd op l1 h1 l2 h2 with
       | some b=>some (.c (.bl b))
       | none=>none
     | _,_=>none
def Nx:V1->V1->Option (ByteArray×Bool×ByteArray×Bool)
 | .c x,.c y=>match Ci x with
   | some (a,ka)=>match Ci y with
     | some (b,kb)=>some (a,ka,b,kb)
     | none=>none
   | none=>none
 | _,_=>none
def mkS (s:ByteArray) (lit:Bool):V1:=.c (match lit with | true=>.st s | false=>.sv s)
def D5 (a b:ByteArray):ByteArray:=⟨⟨a.data.toList++b.data.toList⟩⟩
def gF (a:ByteArray):Nat:=a.data.toList.length
def D7 (op:BinOp) (a b:ByteArray) (lit:Bool):T V1 :=
 match op with
 | .eql=>.leaf (mkB (wu a b) lit)
 | .neq=>.leaf (mkB (!wu a b) lit)
 | .add=>qy lit (Nat.ble (gF a+gF b) 9223372036854775807) (mkS (D5 a b) lit)
 | _=>.fail "strBin"
def bin (op:BinOp) (t:TypeId) (cst:Bool) (x y:V1):T V1 :=
 match Az x y with
 | some (k,a,ka,k',b,kb)=>match decide (k=k') with
   | true=>match WM op x y with
     | some r=>.leaf r
     | none=>match Tu op x y with
       | some r=>.leaf r
       | none=>mD op k a b (match ka with | true=>kb | false=>false)
   | false=>.fail "kinds"
 | none=>match Nx x y with
   | some (a,ka,b,kb)=>D7 op a b (yC ka kb)
   | none=>match op with
     | .eql=>Wc (eqV N t cst x y)
     | .neq=>Wa (eqV N t cst x y)
     | _=>.fail "binOp"
def shI (op:BinOp) (k:IntKind) (a b:Int):Int :=
 match op with
 | .shl=>k.wrap (a * 2 ^ min b.toNat k.bits)
 | _=>a.fdiv (2 ^ min b.toNat k.bits)
def Kz (op:BinOp) (x y:V1):T V1 :=
 match Az x y with
 | some (k,a,ka,_,b,kb)=>qy kb (decide (0<=b)) (mkI k (shI op k a b) (yC ka kb))
 | none=>.fail "shift"
def Ax (s:ByteArray) (n:Int):Int:=match nth s.data.toList n.toNat with
 | some b=>(b.toNat:Int)
 | none=>0
def zW (fs:List FdI):List Cell->List (Nat×V1)->Option (List Cell)
 | l,[]=>some l
 | l,(i,x)::r=>match nth fs i with
   | some f=>match Nat.beq f.size x.cells.length with
     | true=>match gZ l f.off x.cells with | some l'=>zW fs l' r | none=>none
     | false=>none
   | none=>none
def p8 (esz:Nat):List Cell->List (Nat×V1)->Option (List Cell)
 | l,[]=>some l
 | l,(i,x)::r=>match Nat.beq esz x.cells.length with
   | true=>match gZ l (i * esz) x.cells with | some l'=>p8 esz l' r | none=>none
   | false=>none
def zT (k:Int):Nat->Nat->T Nat
 | 0,_=>.fail "index"
 | 1,j=>.need (decide (k=(j:Int))) (.leaf j)
 | c+2,j=>.ite (decide (k=(j:Int))) (.leaf j) (zT k (c+1) (j+1))
theorem xX {k:Int}:∀{c j m:Nat},(zT k c j).val=some m->k=(m:Int) /\ j<=m /\ m < j+c
 | 0,j,m,h=>by simp [zT,T.val] at h
 | 1,j,m,h=>by
   simp only [zT,T.val] at h
   split at h
   ·rename_i hb
    cases h
    exact⟨of_decide_eq_true hb,Nat.le_refl _,by omega⟩
   ·cases h
 | c+2,j,m,h=>by
   simp only [zT,T.val] at h
   split at h
   ·rename_i hb
    cases h
    exact⟨of_decide_eq_true hb,Nat.le_refl _,by omega⟩
   ·obtain⟨h1,h2,h3⟩:=xX h
    exact⟨h1,by omega,by omega⟩
def MP (o:Option Nat) (k:Int) (len:Nat):T Nat:=match o with
 | none=>zT k len 0
 | some j=>.need (decide (k=(j:Int))) (match Nat.blt j len with | true=>.leaf j | false=>.fail "index")
theorem E0 {o:Option Nat} {k:Int} {len m:Nat} (h:(MP o k len).val=some m):k=(m:Int) /\ m < len:=by
 cases o with
 | none=>obtain⟨h1,_,h3⟩:=xX h;exact⟨h1,by omega⟩
 | some j =>
   simp only [MP,T.val] at h
   split at h
   ·rename_i hb
    split at h
    ·rename_i hl
     cases h
     exact⟨of_decide_eq_true hb,Nat.le_of_ble_eq_true hl⟩
    ·cases h
   ·cases h
theorem Hl (n:Int):0<=IntKind.u64.wrap n /\ IntKind.u64.wrap n < 18446744073709551616:=by
 have e:IntKind.u64.wrap n=n % 18446744073709551616:=by unfold IntKind.wrap;simp [IntKind.bits,IntKind.signed]
 rw [e];omega
theorem FH {n:Int} (h:-9223372036854775808<=n /\ n < 9223372036854775808):IntKind.i64.wrap n=n:=by
 have e:IntKind.i64.wrap n=if n % 18446744073709551616>=9223372036854775808 then n % 18446744073709551616 - 18446744073709551616 else n % 18446744073709551616:=by unfold IntKind.wrap;simp [IntKind.bits,IntKind.signed]
 rw [e];split<;>omega
def Ds (k:IntKind) (c:Cell) (n:Int) (lit:Bool):V1:=match lit with
 | true=>.c (.il k (k.wrap n))
 | false=>match k with
   | .u64=>.c (.ir .u64 (IntKind.u64.wrap n) 0 18446744073709551616 (Hl n))
   | .i64=>match c with
     | .ir _ m lo hi h=>match decide (0<=lo /\ hi<=9223372036854775808) with
       | true=>.c (.ir .i64 m lo hi h)
       | false=>.c (.it .i64 (IntKind.i64.wrap n))
     | _=>.c (.it .i64 (IntKind.i64.wrap n))
   | k=>.c (.it k (k.wrap n))
def V9 (x off:Nat):Nat:=@Nat.rec (fun _=>Nat) x (fun _ ih=>ih.succ) off
theorem offN_eq (x:Nat):∀off,V9 x off=x+off
 | 0=>rfl
 | n+1=>congrArg Nat.succ (offN_eq x n)
def one (t:Option V1) (why:String):T SV:=match t with | some x=>.leaf (.v x) | none=>.fail why
def G8 (s:ByteArray) (l h:Nat):ByteArray:=⟨((s.data.toList.take h).drop l).toArray⟩
def Ub:SV->Option (Int×Bool)
 | .v (.c c)=>match jD c with
   | some (_,n,k)=>some (n,k)
   | none=>none
 | _=>none
def u9 (ev:Operand->Option SV) (d:Int):Option Operand->Option (Int×Bool)
 | none=>some (d,true)
 | some x=>match ev x with
   | some v=>Ub v
   | none=>none
def txO (ev:Operand->Option SV):Op->Bool
 | .slice _ x _ _ mx=>match mx with
   | some _=>false
   | none=>match ev x with
     | some (.v (.c c))=>isS (Ci c)
     | _=>false
 | _=>false
def T7 (ev:Operand->Option SV) (t:TypeId) (x:Operand) (lo hi:Option Operand):T SV:=match N.tt.get t,ev x with
 | some ⟨.str,_,_,_⟩,some (.v (.c c))=>match Ci c with
   | some (s,ks)=>match u9 ev 0 lo,u9 ev (gF s) hi with
     | some (l,k),some (h,k')=>.need (decide (0<=l /\ l<=h /\ h<=(gF s:Int))) (.leaf (.v (mkS (G8 s l.toNat h.toNat) (yC ks (yC k k')))))
     | _,_=>.fail "slice: text"
   | none=>.fail "slice: text"
 | _,_=>.fail "slice: text"
def nX (ev:Operand->Option SV):Op->Option (T SV)
 | .move x=>some (match ev x with | some v=>.leaf v | none=>.fail "move")
 | .assign x=>some (match ev x with | some v=>.leaf v | none=>.fail "assign")
 | .pick c a b=>some (match ev c,ev a,ev b with
   | some (.v (.c c)),some x,some y=>match gq c with
     | some (t,true)=>match t with | true=>.leaf x | false=>.leaf y
     | some (t,false)=>.ite t (.leaf x) (.leaf y)
     | none=>.fail "pick"
   | _,_,_=>.fail "pick")
 | .build t parts=>some (match N.tt.get t,sa ev parts.toList with
   | some ⟨.struct fs,_,some z,_⟩,some ps=>match zW fs z ps with
     | some l=>.leaf (.v (.agg l))
     | none=>.fail "build"
   | some ⟨.arr _ esz _,_,some z,_⟩,some ps=>match p8 esz z ps with
     | some l=>.leaf (.v (.agg l))
     | none=>.fail "build"
   | _,_=>.fail "build")
 | .nilCheck x=>some (match ev x with
   | some (.v (.c (.ptr n off)))=>.leaf (.v (.c (.ptr n off)))
   | some (.v (.c (.vel n i e off)))=>.leaf (.v (.c (.vel n i e off)))
   | some (.v (.c (.ifc t c)))=>.leaf (.v (.c (.ifc t c)))
   | some (.v (.c (.fn f)))=>.leaf (.v (.c (.fn f)))
   | some (.clo f l)=>.leaf (.clo f l)
   | _=>.fail "nilCheck")
 | .makeFunc fn first captured=>some (match fn,first.toList,yU ev captured.toList with
   | .func f,[],some l=>match BP l with
     | some cs=>.leaf (.clo f cs)
     | none=>.fail "makeFunc"
   | _,_,_=>.fail "makeFunc")
 | .fieldAddr t x i=>some (match ev x,rX N t with
   | some (.v (.c (.ptr n off))),some fs=>match nth fs i with
     | some f=>match Nat.beq f.size 0 with
       | false=>.leaf (.v (.c (.ptr n (off+f.off))))
       | true=>.fail "fieldAddr"
     | none=>.fail "fieldAddr"
   | some (.v (.c (.vel n k e off))),some fs=>match nth fs i with
     | some f=>match Nat.beq f.size 0 with
       | false=>.leaf (.v (.c (.vel n k e (off+f.off))))
       | true=>.fail "fieldAddr"
     | none=>.fail "fieldAddr"
   | _,_=>.fail "fieldAddr")
 | .field t x i=>some (match ev x,rX N t with
   | some (.v (.agg l)),some fs=>match nth fs i with
     | some f=>one (n6 f.agg f.size l f.off) "field"
     | none=>.fail "field"
   | _,_=>.fail "field")
 | .binOp op t x y _=>some (match ev x,ev y with
   | some (.v a),some (.v b)=>match pa op with
     | true=>(Kz op a b).map .v
     | false=>(bin N op t (match isConst x with | true=>true | false=>isConst y) a b).map .v
   | _,_=>.fail "binOp")
 | .unOp .not _ x=>some (match ev x with
   | some (.v (.c c))=>match gq c with
     | some (b,k)=>.leaf (.v (mkB (!b) k))
     | none=>.fail "not"
   | _=>.fail "not")
 | .unOp .neg _ x=>some (match ev x with
   | some (.v (.c c))=>match jD c with
     | some (k,n,l)=>.leaf (.v (mkI k (k.wrap (0 - n)) l))
     | none=>.fail "neg"
   | _=>.fail "neg")
 | .slice t x lo hi mx=>match txO ev (.slice t x lo hi mx) with
   | true=>some (T7 N ev t x lo hi)
   | false=>none
 | .extract x i=>some (match ev x with
   | some (.tup l)=>match nth l i with | some v=>.leaf (.v v) | none=>.fail "extract"
   | _=>.fail "extract")
 | .makeInterface t x=>some (match ev x,N.tt.get t with
   | some (.v (.c c)),some ⟨k,_,_,_⟩=>match k with
     | .iface=>.fail "makeInterface"
     | _=>.leaf (.v (.c (.ifc t c)))
   | _,_=>.fail "makeInterface")
 | .indexAddr t x i=>some (match ev x,ev i,N.tt.get t with
   | some (.v (.c (.ptr n off))),some (.v (.c (.il _ k))),some ⟨.arr len sz _,_,_,_⟩=>match decide (0<=k /\ k < len) with
     | true=>.leaf (.v (.c (.ptr n (off+k.toNat * sz))))
     | false=>.fail "indexAddr"
   | some (.v (.c (.vel n k0 e off))),some (.v (.c (.il _ k))),some ⟨.arr len sz _,_,_,_⟩=>match decide (0<=k /\ k < len) with
     | true=>.leaf (.v (.c (.vel n k0 e (off+k.toNat * sz))))
     | false=>.fail "indexAddr"
   | some (.v (.c (.sl n o len _))),some (.v (.c (.il _ k))),some ⟨.slice sz,_,_,_⟩=>match decide (0<=k /\ k < len) with
     | true=>.leaf (.v (.c (.ptr n (o+k.toNat * sz))))
     | false=>.fail "indexAddr"
   | some (.v (.c (.vs n o len es kn))),some (.v (.c ix)),some ⟨.slice sz,_,_,_⟩=>match Nat.beq es sz with
     | true=>match jD ix with
       | some (_,k,lit)=>qy (yC lit kn) (decide (0<=k /\ k < len)) (.v (.c (.vel n (o+k.toNat) sz 0)))
       | none=>.fail "indexAddr"
     | false=>.fail "indexAddr"
   | some (.v (.c (.ptr n off))),some (.v (.c ix)),some ⟨.arr len sz _,_,_,_⟩=>match jD ix,Nat.ble len 16 with
     | some (_,k,_),true=>(MP N.orc k len).map fun j=>.v (.c (.ptr n (off+j * sz)))
     | _,_=>.fail "indexAddr"
   | some (.v (.c (.vel n k0 e off))),some (.v (.c ix)),some ⟨.arr len sz _,_,_,_⟩=>match jD ix with
     | some (_,k,_)=>.need (decide (0<=k /\ k < len)) (.leaf (.v (.c (.vel n k0 e (V9 (k.toNat * sz) off)))))
     | none=>.fail "indexAddr"
   | _,_,_=>.fail "indexAddr")
 | .convert src dst x=>some (match ev x,N.tt.get src,N.tt.get dst with
   | some (.v (.c c)),some _,some ⟨.int k,_,_,_⟩=>match jD c with
     | some (_,n,lit)=>.leaf (.v (Ds k c n lit))
     | none=>.fail "convert"
   | _,_,_=>.fail "convert")
 | .index t x i=>some (match ev x,ev i,N.tt.get t with
   | some (.v (.c (.st s))),some (.v (.c ix)),some ⟨.str,_,_,_⟩=>match jD ix with
     | some (_,n,lit)=>(qy lit (decide (0<=n /\ n < (s.data.toList.length:Int))) (mkI .u8 (Ax s n) lit)).map .v
     | none=>.fail "index"
   | some (.v (.c (.sv s))),some (.v (.c ix)),some ⟨.str,_,_,_⟩=>match jD ix with
     | some (_,n,_)=>(qy false (decide (0<=n /\ n < (s.data.toList.length:Int))) (.c (.it .u8 (Ax s n)))).map .v
     | none=>.fail "index"
   | some (.v (.agg l)),some (.v (.c (.il _ k))),some ⟨.arr len sz ag,_,_,_⟩=>match decide (0<=k /\ k < len) with
     | true=>one (n6 ag sz l (k.toNat * sz)) "index"
     | false=>.fail "index"
   | _,_,_=>.fail "index")
 | .call c=>match c.callee with
   | .builtin .len=>some (match c.args.toList,c.argTypes.toList with
     | [x],[t]=>match ev x,N.tt.get t with
       | some (.v (.c (.sl _ _ len _))),some ⟨.slice _,_,_,_⟩=>.leaf (.v (.c (.il .i64 len)))
       | some (.v (.c .snil)),some ⟨.slice _,_,_,_⟩=>.leaf (.v (.c (.il .i64 0)))
       | some (.v (.c (.sx _ _))),some ⟨.slice _,_,_,_⟩=>.leaf (.v (.c (.il .i64 0)))
       | some (.v (.c (.sf _ _ _ _ _ _))),some ⟨.slice _,_,_,_⟩=>.leaf (.v (.c (.il .i64 0)))
       | some (.v (.c (.vs _ _ len _ kn))),some ⟨.slice _,_,_,_⟩=>.leaf (.v (mkI .i64 len kn))
       | some (.v (.c (.st s))),some ⟨.str,_,_,_⟩=>.leaf (.v (.c (.il .i64 (gF s))))
       | some (.v (.c (.sv s))),some ⟨.str,_,_,_⟩=>.leaf (.v (.c (.it .i64 (gF s))))
       | _,_=>.fail "len"
     | _,_=>.fail "len")
   | _=>none
 | _=>none
def SR (t:TypeId) (a:AV) (idx es off:Nat):Option (T SV):=match N.tt.get t with
 | some i=>match N.F.prt a idx es off i.size with
   | some (b,l)=>some (.need b (one (n6 (oy i.kd) i.size l 0) "load: range"))
   | none=>none
 | none=>none
def xC (t:TypeId) (H:Hp AV):SV->T SV
 | .v (.c (.ptr n off))=>match ab H n with
   | some (.cells l _)=>one (mg N t l off) "load: range"
   | some (.abs a)=>match N.F.word a with
     | some l=>one (mg N t l off) "load: range"
     | none=>.fail "load: no chunk"
   | _=>.fail "load: no chunk"
 | .v (.c (.vel n idx es off))=>match ab H n with
   | some (.abs a)=>match SR N t a idx es off with
     | some t=>t
     | none=>match N.F.row a idx es with
       | some (b,l)=>.need b (one (mg N t l off) "load: range")
       | none=>.fail "load: row"
   | some (.vec l _ _)=>one (mg N t l (idx * es+off)) "load: range"
   | _=>.fail "load: no chunk"
 | _=>.fail "load: no pointer"
def fS (E:Ev) (dst:Option Nat) (v:SV):Ev:=match dst with | some d=>(d,v)::E | none=>E
def du (H:Hp AV):Option (Nat×Chunk AV)->Hp AV
 | none=>H
 | some (n,c)=>bC H n (some c)
inductive Tgt where
 | fn (f:FuncId) | op (o:Op)
abbrev Callee (AV:Type):=Tgt->List SV->Hp AV->T (SV×Hp AV)
def oo:List V1->List Nat
 | []=>[]
 | x::r=>cg x.cells++oo r
def ig:SV->List Nat
 | .v x=>cg x.cells
 | .tup l=>oo l
 | .unk=>[]
 | .clo _ l=>cg l
def ee:List SV->List Nat
 | []=>[]
 | x::r=>ig x++ee r
def iU:List Nat->Nat->Bool
 | [],_=>false
 | x::r,n=>match Nat.beq x n with | true=>true | false=>iU r n
def fX (H:Hp AV):Nat->List Nat->List Nat->List Nat
 | 0,_,acc=>acc
 | _+1,[],acc=>acc
 | f+1,n::r,acc=>match iU acc n with
   | true=>fX H f r acc
   | false=>match ab H n with
     | some (.cells l _)=>fX H f (cg l++r) (n::acc)
     | some (.vec l _ _)=>fX H f (cg l++r) (n::acc)
     | _=>fX H f r (n::acc)
def m7:List Nat->Nat
 | []=>0
 | n::r=>Nat.lor (Nat.shiftLeft 1 n) (m7 r)
def dW (R:List Nat) (n:Nat):Bool:=match Nat.land (Nat.shiftRight (m7 R) n) 1 with
 | 0=>false
 | _+1=>true
def fA (R:List Nat):Nat->Hp AV->Hp AV
 | _,[]=>[]
 | i,x::r=>(match dW R i with | true=>x | false=>none)::fA R (i+1) r
def bG (R:List Nat):Nat->Hp AV->Hp AV->Hp AV
 | _,[],b=>b
 | _,a,[]=>a
 | i,none::r,_::q=>none::bG R (i+1) r q
 | i,some x::r,y::q=>(match dW R i with | true=>y | false=>some x)::bG R (i+1) r q
def pZ:Hp AV->Hp AV->Bool
 | [],_=>true
 | none::r,none::q=>pZ r q
 | some _::r,some _::q=>pZ r q
 | _,_=>false
def p9 (cal:Callee AV) (gn:List Nat) (f:Tgt) (args:List SV) (H:Hp AV):T (SV×Hp AV) :=
 match fA (fX H 400 (ee args++gn) []) 0 H with
 | A=>match clVs A args with
   | false=>.fail "call: arguments"
   | true=>match clHs A A with
     | false=>.fail "call: heap"
     | true=>(cal f args A).bind fun r=>match pZ A r.2 with
       | false=>.fail "call: lost"
       | true=>.leaf (r.1,bG (fX H 400 (ee args++gn) []) 0 H r.2)
def qz:Tgt->List Nat
 | .fn f=>match N.gu.get f with | some l=>l | none=>[]
 | .op _=>[]
abbrev Arr:=List Cell×Nat×TypeId×Nat
def EP (t:TypeId) (a b:Option SV):Option Arr :=
 match N.sl.get t,a,b with
 | some si,some (.v (.c (.il _ n))),some (.v (.c (.il _ c)))=>match decide (0<=n /\ n<=c /\ c.toNat * (si.bytes+1)<=lim) with
   | true=>some (fW si.zero c.toNat,si.size,si.e,n.toNat)
   | false=>none
 | _,_,_=>none
def Bu (t:TypeId) (len:Nat) (ps:Option (List (Nat×V1))):Option Arr :=
 match N.sl.get t,ps with
 | some si,some ps=>match p8 si.size (fW si.zero len) ps,Nat.ble (len * si.size) 16777216 with
   | some l,true=>some (l,si.size,si.e,len)
   | _,_=>none
 | _,_=>none
def jA (nm:Nat) (H:Hp AV):Option Arr->T (SV×Option (Nat×Chunk AV))
 | some (l,es,e,len)=>match ab H nm,Nat.blt nm H.length,Nat.blt nm N.G with
   | none,true,false=>.leaf (.v (.c (.vs nm 0 len es true)),some (nm,.vec l es e))
   | _,_,_=>.fail "make"
 | none=>.fail "make"
def EO (t:TypeId) (a b:Option SV):Option (Bool×AV×Nat×Nat) :=
 match N.sl.get t,a,b with
 | some si,some (.v (.c x)),some (.v (.c y))=>match jD x,jD y with
   | some (_,n,_),some (_,c,_)=>match N.F.zer si.zero si.size si.e n.toNat with
     | some a=>some (decide (0<=n /\ n=c /\ n.toNat * (si.bytes+1)<=lim),a,si.size,n.toNat)
     | none=>none
   | _,_=>none
 | _,_,_=>none
def ov (nm:Nat) (H:Hp AV):Option (Bool×AV×Nat×Nat)->T (SV×Option (Nat×Chunk AV))
 | some (b,a,es,len)=>match ab H nm,Nat.blt nm H.length,Nat.blt nm N.G with
   | none,true,false=>.need b (.leaf (.v (.c (.vs nm 0 len es false)),some (nm,.abs a)))
   | _,_,_=>.fail "make"
 | none=>.fail "make"
def rQ (nm:Nat) (H:Hp AV) (k:Option Arr) (z:Option (Bool×AV×Nat×Nat)):T (SV×Option (Nat×Chunk AV)):=match k with
 | some a=>jA N nm H (some a)
 | none=>ov N nm H z
def vb (ev:Operand->Option SV) (d:Nat):Option Operand->Option Nat
 | none=>some d
 | some x=>match ev x with
   | some (.v (.c (.il _ n)))=>match decide (0<=n) with | true=>some n.toNat | false=>none
   | _=>none
structure SPt where
 t:TypeId
 n:Nat
 o:Nat
 es:Nat
 len:Nat
 l:Nat
 h:Nat
def uG (ev:Operand->Option SV):Op->Option SPt
 | .slice t x lo hi mx=>match mx with
   | some _=>none
   | none=>match ev x with
     | some (.v (.c (.vs n o len es true)))=>match vb ev 0 lo,vb ev len hi with
       | some l,some h=>match Nat.blt l h,Nat.ble h len with
         | true,true=>some ⟨t,n,o,es,len,l,h⟩
         | _,_=>none
       | _,_=>none
     | _=>none
 | _=>none
def vw (H:Hp AV) (p:SPt):T (SV×Option (Nat×Chunk AV)):=match N.sl.get p.t,ab H p.n with
 | some si,some (.vec lst es2 _)=>match Nat.beq p.es si.size,Nat.beq p.es es2,Nat.ble ((p.o+p.len) * p.es) lst.length with
   | true,true,true=>.leaf (.v (.c (.vs p.n (p.o+p.l) (p.h - p.l) p.es true)),none)
   | _,_,_=>.fail "slice"
 | _,_=>.fail "slice"
def gi (nm:Nat) (ev:Operand->Option SV) (H:Hp AV) (o:Op):T (SV×Option (Nat×Chunk AV)) :=
 match nX N ev o with
 | some t=>t.map fun v=>(v,none)
 | none=>match o with
   | .alloc t=>match N.tt.get t,ab H nm,Nat.blt nm H.length,Nat.blt nm N.G with
     | some ⟨_,_,some z,_⟩,none,true,false=>.leaf (.v (.c (.ptr nm 0)),some (nm,.cells z t))
     | _,_,_,_=>.fail "alloc"
   | .box t x=>match ev x,ab H nm,Nat.blt nm H.length,Nat.blt nm N.G with
     | some (.v v),none,true,false=>.leaf (.v (.c (.ptr nm 0)),some (nm,.cells v.cells t))
     | _,_,_,_=>.fail "box"
   | .load t a=>match ev a with
     | some v=>(xC N t H v).map fun v=>(v,none)
     | none=>.fail "load"
   | .store t a x=>match ev a,ev x with
     | some (.v (.c (.ptr n off))),some (.v v)=>match ab H n,N.tt.get t with
       | some (.cells l ty),some i=>match Nat.beq i.size v.cells.length with
         | true=>match gZ l off v.cells with
           | some l'=>.leaf (bV,some (n,.cells l' ty))
           | none=>.fail "store: range"
         | false=>.fail "store: size"
       | _,_=>.fail "store: no chunk"
     | some (.v (.c (.vel n idx es off))),some (.v v)=>match ab H n,N.tt.get t with
       | some (.vec l ve ty),some i=>match Nat.beq i.size v.cells.length with
         | true=>match Nat.beq i.size 0 with
           | true=>.fail "store: size"
           | false=>match gZ l (idx * es+off) v.cells with
             | some l'=>.leaf (bV,some (n,.vec l' ve ty))
             | none=>.fail "store: range"
         | false=>.fail "store: size"
       | some (.abs a),some i=>match Nat.beq i.size v.cells.length with
         | true=>match N.F.upd a idx es off v.cells with
           | some (b,a')=>.need b (.leaf (bV,some (n,.abs a')))
           | none=>.fail "store: upd"
         | false=>.fail "store: size"
       | _,_=>.fail "store: no chunk"
     | _,_=>.fail "store: no pointer"
   | .makeSlice t x y=>rQ N nm H (EP N t (ev x) (ev y)) (EO N t (ev x) (ev y))
   | .buildSlice t len parts=>jA N nm H (Bu N t len (sa ev parts.toList))
   | .slice t x lo hi mx=>match uG ev (.slice t x lo hi mx) with
     | some p=>vw N H p
     | none=>.fail "op"
   | _=>.fail "op"
def RD:Op->Bool
 | .slice _ _ _ _ _=>true
 | .makeMap _ _=>true
 | .lookup _ _ _ _=>true
 | .mapUpdate _ _ _ _=>true
 | .call c=>match c.callee with
   | .builtin .append=>true
   | .builtin .copy=>true
   | .builtin .delete=>true
   | .builtin .clear=>true
   | .builtin .min=>true
   | .builtin .max=>true
   | _=>false
 | _=>false
def slC:Cell->Bool
 | .vs _ _ _ _ _=>true
 | .snil=>true
 | .sx _ _=>true
 | .sf _ _ _ _ _ _=>true
 | _=>false
def mpC:Cell->Bool
 | .mp _=>true
 | _=>false
def RK (f:Cell->Bool):Option SV->Bool
 | some (.v (.c c))=>f c
 | _=>false
def xW (ev:Operand->Option SV) (o:Op):Bool:=match RD o with
 | true=>match uG ev o with
   | some _=>false
   | none=>(match txO ev o with | true=>false | false=>true)
 | false=>match o with
   | .convert _ _ x=>RK slC (ev x)
   | .call c=>match c.callee with
     | .builtin .len=>match c.args.toList with
       | [x]=>RK mpC (ev x)
       | _=>false
     | _=>false
   | _=>false
def callee? (ev:Operand->Option SV) (o:Op):Option (Option (Tgt×List SV)) :=
 match xW ev o with
 | true=>some (match yU ev o.operands.toList with
   | some l=>some (.op o,l)
   | none=>none)
 | false=>match o with
   | .call c=>match c.callee with
     | .value f=>some (match ev f,yU ev c.args.toList with
       | some (.v (.c (.fn g))),some l=>match N.ft.get g with
         | some _=>some (.fn g,l)
         | none=>none
       | some (.clo g cs),some l=>match N.ft.get g with
         | some _=>some (.fn g,l++svs cs)
         | none=>none
       | _,_=>none)
     | .invoke r m=>some (match ev r,yU ev c.args.toList with
       | some (.v (.c (.ifc t x))),some l=>match N.mt t m with
         | some g=>match N.ft.get g with
           | some _=>some (.fn g,.v (.c x)::l)
           | none=>none
         | none=>none
       | _,_=>none)
     | _=>none
   | _=>none
inductive Tri where
 | yes | no | cond (b:Bool)
def Tri.ok:Tri->Bool
 | .yes=>true
 | .no=>false
 | .cond b=>b
inductive Ent where
 | pure | rd (n:Nat) | wr (n:Nat) | call (R:List Nat) (U:Nat->Tri)
def iO (l:List Cell) (t:TypeId) (l':List Cell) (t':TypeId):Bool:=@decide (l=l' /\ t=t') (Classical.propDecidable _)
def Rx:Option (Chunk AV)->Option (Chunk AV)->Tri
 | some (.abs a),some (.abs b)=>match N.F.same a b with | true=>.yes | false=>.no
 | some (.cells l t),some (.cells l' t')=>.cond (iO l t l' t')
 | _,_=>.no
def xM (R:List Nat) (H H':Hp AV) (n:Nat):Tri:=match dW R n with
 | true=>Rx N (ab H n) (ab H' n)
 | false=>.no
def dp (nm:Nat) (ev:Operand->Option SV) (H H':Hp AV) (o:Op):Ent :=
 match callee? N ev o with
 | some (some (g,l))=>.call (fX H 400 (ee l++qz N g) []) (xM N (fX H 400 (ee l++qz N g) []) H H')
 | some none=>.pure
 | none=>match o with
   | .alloc _=>.wr nm
   | .box _ _=>.wr nm
   | .makeSlice _ _ _=>.wr nm
   | .buildSlice _ _ _=>.wr nm
   | .load _ a=>match ev a with
     | some (.v (.c (.ptr n _)))=>.rd n
     | some (.v (.c (.vel n _ _ _)))=>.rd n
     | _=>.pure
   | .store _ a _=>match ev a with
     | some (.v (.c (.ptr n _)))=>.wr n
     | some (.v (.c (.vel n _ _ _)))=>.wr n
     | _=>.pure
   | .slice t x lo hi mx=>match uG ev (.slice t x lo hi mx) with
     | some p=>.rd p.n
     | none=>.pure
   | _=>.pure
def iL (cal:Callee AV) (nm:Nat) (o:Oper) (s:St AV):T (St AV) :=
 match callee? N (evl N.G s.H s.E) o.op with
 | some (some (g,l))=>(p9 cal (qz N g) g l s.H).bind fun r=>.leaf {E:=fS s.E o.dst r.1,H:=r.2}
 | some none=>.fail "call"
 | none=>(gi N nm (evl N.G s.H s.E) s.H o.op).bind fun r=>.leaf {E:=fS s.E o.dst r.1,H:=du s.H r.2}
def xu:Op->Bool
 | .alloc _=>true
 | .box _ _=>true
 | .makeSlice _ _ _=>true
 | .buildSlice _ _ _=>true
 | _=>false
def cN:List Oper->Nat
 | []=>0
 | o::r=>match xu o.op with | true=>cN r+1 | false=>cN r
def jL:List Oper->Nat->Nat->Nat
 | [],b,_=>b
 | _,b,0=>b
 | o::r,b,i+1=>match xu o.op with | true=>jL r (b+1) i | false=>jL r b i
def fY (AV:Type):Nat->Hp AV
 | 0=>[]
 | n+1=>none::fY AV n
def zS (H:Hp AV) (k:Nat):Hp AV:=match k with
 | 0=>H
 | k+1=>H++fY AV (k+1)
theorem growH_eq (H:Hp AV) (k:Nat):zS H k=H++fY AV k:=by
 cases k with
 | zero=>simp [zS,fY]
 | succ k=>rfl
def ec (all:List Oper) (o:Oper) (E:Ev):Option (Bool×Bool) :=
 match o.guard with
 | none=>some (true,true)
 | some (j,want)=>match nth all j with
   | some oj=>match oj.dst with
     | some d=>match look E d with
       | .unk=>none
       | .v (.c c)=>match gq c with
         | some (b,k)=>some (b==want,k)
         | none=>some (false,true)
       | _=>some (false,true)
     | none=>some (false,true)
   | none=>some (false,true)
def hZ (cal:Callee AV) (base:Nat) (all:List Oper) (i:Nat) (o:Oper) (s:St AV):T (St AV×Ent) :=
 match ec all o s.E with
 | none=>.fail "guard"
 | some (b,true)=>match b with
   | true=>(iL N cal (jL all base i) o s).map fun s'=>(s',dp N (jL all base i) (evl N.G s.H s.E) s.H s'.H o.op)
   | false=>.leaf ({s with E:=fS s.E o.dst bV},.pure)
 | some (b,false)=>.ite b ((iL N cal (jL all base i) o s).map fun s'=>(s',dp N (jL all base i) (evl N.G s.H s.E) s.H s'.H o.op)) (.leaf ({s with E:=fS s.E o.dst bV},.pure))
def jW (cal:Callee AV) (base:Nat) (all:List Oper):Nat->List Oper->St AV->T (St AV)
 | _,[],s=>.leaf s
 | i,o::r,s=>(hZ N cal base all i o s).bind fun x=>jW cal base all (i+1) r x.1
def bZ:Ent->Ent->Bool
 | .pure,_=>true
 | _,.pure=>true
 | .rd _,.rd _=>true
 | .rd n,.wr m=>!Nat.beq n m
 | .wr n,.rd m=>!Nat.beq n m
 | .wr n,.wr m=>!Nat.beq n m
 | .rd n,.call R U=>match dW R n with | true=>(U n).ok | false=>true
 | .wr n,.call R _=>!dW R n
 | .call R U,.rd n=>match dW R n with | true=>(U n).ok | false=>true
 | .call R _,.wr n=>!dW R n
 | .call _ _,.call _ _=>false
def lE:List Edge->Nat->Bool
 | [],_=>false
 | e::r,i=>match Region.binds .any e with
   | true=>match Nat.beq e.on i with | true=>true | false=>lE r i
   | false=>lE r i
def Je (rec:Nat->Bool):List Edge->Bool
 | []=>false
 | e::r=>match Region.binds .any e with
   | true=>match rec e.on with | true=>true | false=>Je rec r
   | false=>Je rec r
def lB (all:List Oper):Nat->Nat->Nat->Bool
 | 0,_,_=>false
 | f+1,j,i=>match nth all j with
   | none=>false
   | some o=>match lE o.after.toList i with
     | true=>true
     | false=>Je (fun k=>lB all f k i) o.after.toList
def xB (all:List Oper) (j:Nat) (en:Ent):List (Nat×Ent)->Bool
 | []=>true
 | (i,x)::r=>match bZ x en with
   | true=>xB all j en r
   | false=>match lB all 12 j i with
     | true=>xB all j en r
     | false=>false
def j8:Ent->Ent->Tri
 | .rd n,.call R U=>match dW R n with | true=>U n | false=>.yes
 | .call R U,.rd n=>match dW R n with | true=>U n | false=>.yes
 | a,b=>match bZ a b with | true=>.yes | false=>.no
def ER (all:List Oper) (j:Nat) (en:Ent):List (Nat×Ent)->Option (List Bool)
 | []=>some []
 | (i,x)::r=>match j8 x en with
   | .yes=>ER all j en r
   | .no=>match lB all 12 j i with
     | true=>ER all j en r
     | false=>none
   | .cond b=>match lB all 12 j i with
     | true=>ER all j en r
     | false=>match ER all j en r with
       | some l=>some (b::l)
       | none=>none
def LK {α:Type}:List Bool->T α->T α
 | [],t=>t
 | b::r,t=>.need b (LK r t)
def iW (i:Nat):List Edge->Bool
 | []=>true
 | e::r=>match Region.binds .any e with
   | true=>match Nat.blt e.on i with | true=>iW i r | false=>false
   | false=>iW i r
def ku (ops:Array Oper) (j:Nat) (oj:Oper):Nat->List Oper->Bool
 | _,[]=>true
 | i,oi::r=>match Nat.blt i j with
   | false=>true
   | true=>match lE oj.after.toList i with
     | true=>ku ops j oj (i+1) r
     | false=>match oi.apart ops oj with | true=>ku ops j oj (i+1) r | false=>false
def mE (ops:Array Oper) (all:List Oper):Nat->List Oper->Bool
 | _,[]=>true
 | j,oj::r=>match ku ops j oj 0 all with | true=>mE ops all (j+1) r | false=>false
def hP (cal:Callee AV) (base:Nat) (all:List Oper):Nat->List Oper->List (Nat×Ent)->St AV->T (St AV)
 | _,[],_,s=>.leaf s
 | i,o::r,log,s=>match iW i o.after.toList with
   | false=>.fail "an edge upwards"
   | true=>(hZ N cal base all i o s).bind fun x=>match xB all i x.2 log with
     | true=>hP cal base all (i+1) r ((i,x.2)::log) x.1
     | false=>.fail "the order matters"
abbrev Asm:=List (Nat×Bool)
def ou:Asm->Nat->Option Bool
 | [],_=>none
 | (k,b)::r,n=>match Nat.beq k n with | true=>some b | false=>ou r n
def Ak:Asm->Nat->Asm
 | [],_=>[]
 | (k,b)::r,n=>match Nat.beq k n with | true=>Ak r n | false=>(k,b)::Ak r n
def uO (A:Asm):Option Nat->Asm
 | none=>A
 | some d=>Ak A d
def TJ (all:List Oper) (o:Oper):Option (Nat×Bool) :=
 match o.guard with
 | none=>none
 | some (j,want)=>match nth all j with
   | none=>none
   | some oj=>match oj.dst with
     | none=>none
     | some d=>some (d,want)
def Rr (A:Asm) (ev:Operand->Option SV):Op->Option (T SV)
 | .pick (.tmp t) a b=>match ou A t with
   | none=>none
   | some x=>some (match ev (.tmp t),ev a,ev b with
     | some (.v (.c c)),some p,some q=>match gq c with
       | some _=>match x with | true=>.leaf p | false=>.leaf q
       | none=>.fail "pick"
     | _,_,_=>.fail "pick")
 | _=>none
def Af (cal:Callee AV) (base:Nat) (all:List Oper) (i:Nat) (o:Oper) (A B:Asm) (s:St AV):T (St AV×Ent×Asm) :=
 match Rr A (evl N.G s.H s.E) o.op with
 | some t=>t.map fun v=>({s with E:=fS s.E o.dst v},.pure,uO B o.dst)
 | none=>(iL N cal (jL all base i) o s).map fun s'=>(s',dp N (jL all base i) (evl N.G s.H s.E) s.H s'.H o.op,uO B o.dst)
def A4 (cal:Callee AV) (base:Nat) (all:List Oper) (i:Nat) (o:Oper) (A:Asm) (s:St AV):T (St AV×Ent×Asm) :=
 match ec all o s.E with
 | none=>.fail "guard"
 | some (b,true)=>match b with
   | true=>Af N cal base all i o A A s
   | false=>.leaf ({s with E:=fS s.E o.dst bV},.pure,uO A o.dst)
 | some (b,false)=>match TJ all o with
   | none=>.fail "guard"
   | some (d,want)=>match ou A d with
     | some x=>match x==want with
       | true=>Af N cal base all i o A A s
       | false=>.leaf ({s with E:=fS s.E o.dst bV},.pure,uO A o.dst)
     | none=>.ite b (Af N cal base all i o A ((d,want)::A) s) (.leaf ({s with E:=fS s.E o.dst bV},.pure,uO ((d,!want)::A) o.dst))
def XR:Ent->Bool
 | .pure=>true
 | .rd _=>true
 | .wr _=>false
 | .call [] _=>true
 | .call (_::_) _=>false
def sY (q:Bool) (en:Ent) (H H':Hp AV):Bool :=
 match q with
 | false=>false
 | true=>match en with
   | .pure=>true
   | .rd _=>true
   | .wr _=>false
   | .call [] _=>Nat.beq H.length H'.length
   | .call (_::_) _=>false
def nM (cal:Callee AV) (base:Nat) (all:List Oper):Nat->List Oper->Asm->Bool->St AV->T (St AV×Bool)
 | _,[],_,q,s=>.leaf (s,q)
 | i,o::r,A,q,s=>(A4 N cal base all i o A s).bind fun x=>nM cal base all (i+1) r x.2.2 (sY q x.2.1 s.H x.1.H) x.1
def lZ (cal:Callee AV) (base:Nat) (all:List Oper):Nat->List Oper->List (Nat×Ent)->Asm->Bool->St AV->T (St AV×Bool)
 | _,[],_,_,q,s=>.leaf (s,q)
 | i,o::r,log,A,q,s=>match iW i o.after.toList with
   | false=>.fail "an edge upwards"
   | true=>(A4 N cal base all i o A s).bind fun x=>match ER all i x.2.1 log with
     | some l=>LK l (lZ cal base all (i+1) r ((i,x.2.1)::log) x.2.2 (sY q x.2.1 s.H x.1.H) x.1)
     | none=>.fail "the order matters"
def GP (b:Bool) (x y:Cell):Option Cell :=
 match gq x,gq y with
 | some (p,kp),some (q,kq)=>match yC (yC kp kq) (p==q) with
   | true=>some (.bl p)
   | false=>some (.bt (match b with | true=>p | false=>q))
 | _,_=>match jD x,jD y with
   | some (k,p,_),some (k',q,_)=>match decide (k=k') with
     | true=>some (.it k (match b with | true=>p | false=>q))
     | false=>none
   | _,_=>none
def xR (b:Bool):List Cell->List Cell->Option (List Cell)
 | [],[]=>some []
 | x::xs,y::ys=>match GP b x y with
   | some c=>match xR b xs ys with | some l=>some (c::l) | none=>none
   | none=>none
 | _,_=>none
def ny (b:Bool):SV->SV->SV
 | .v (.c x),.v (.c y)=>match GP b x y with | some c=>.v (.c c) | none=>.unk
 | .v (.agg x),.v (.agg y)=>match xR b x y with | some l=>.v (.agg l) | none=>.unk
 | _,_=>.unk
def ox (b:Bool):Ev->Ev->Option Ev
 | [],[]=>some []
 | (k,v)::r,(k',u)::q=>match Nat.beq k k' with
   | true=>match ox b r q with
     | some z=>some ((k,ny b v u)::z)
     | none=>none
   | false=>none
 | _,_=>none
def Fz (n:Option Bool):Option Ev->Option (Option Bool×Ev)
 | some z=>some (n,z)
 | none=>none
def xZ:Nat->Ev->Ev
 | 0,_=>[]
 | _+1,[]=>[]
 | n+1,x::r=>x::xZ n r
def mo (E:Ev):T (St AV×Bool)->Option (Option Bool×Ev)
 | .leaf s=>match s.2 with
   | true=>some (none,xZ (s.1.E.length - E.length) s.1.E)
   | false=>none
 | .need b t=>match mo E t with
   | some (none,W)=>some (some b,W)
   | some (some n,W)=>some (some (match b with | true=>n | false=>false),W)
   | none=>none
 | .ite b t e=>match mo E t,mo E e with
   | some (none,W),some (none,X)=>Fz none (ox b W X)
   | some (some n,W),some (none,X)=>Fz (some (match b with | true=>n | false=>true)) (ox b W X)
   | some (none,W),some (some m,X)=>Fz (some (match b with | true=>true | false=>m)) (ox b W X)
   | some (some n,W),some (some m,X)=>Fz (some (match b with | true=>n | false=>m)) (ox b W X)
   | _,_=>none
 | .fail _=>none
def X7 {α:Type}:T α->Bool
 | .leaf _=>true
 | _=>false
def GO (s:St AV) (t:T (St AV×Bool)):T (St AV) :=
 match X7 t with
 | true=>t.map fun r=>r.1
 | false=>match mo s.E t with
   | some (none,W)=>.leaf {s with E:=W++s.E}
   | some (some n,W)=>.need n (.leaf {s with E:=W++s.E})
   | none=>t.map fun r=>r.1
def yf (nt:Nat):List Oper->Bool
 | []=>true
 | o::r=>match o.dst with
   | none=>yf nt r
   | some d=>match Nat.blt d nt with | true=>yf nt r | false=>false
def oH:Code->Option Nat
 | .region id _ _=>some id
 | .seq a b=>match oH a with | some n=>some n | none=>oH b
 | .cond _ a b=>match oH a with | some n=>some n | none=>oH b
 | .block _ c=>oH c
 | .loop c=>oH c
 | _=>none
def DZ (E:Ev):Nat->Ev
 | 0=>[]
 | k+1=>(k,look E k)::DZ E k
def rounds (nt:Nat) (body:St AV->T (Ex×St AV)):Nat->St AV->T (Ex×St AV)
 | 0,_=>.fail "loop: too many rounds"
 | n+1,s=>(body s).bind fun r=>match r.1 with
   | .normal=>rounds nt body n {r.2 with E:=DZ r.2.E nt}
   | e=>.leaf (e,r.2)
def xc (cal:Callee AV) (lp:Nat->Option (St AV->T (Ex×St AV))) (nt:Nat):Code->St AV->T (Ex×St AV)
 | .skip,s=>.leaf (.normal,s)
 | .label _,s=>.leaf (.normal,s)
 | .region _ ops d,s=>match yf nt ops.toList with
   | false=>.fail "temporaries"
   | true=>match d with
     | false=>(GO {s with H:=zS s.H (cN ops.toList)} (nM N cal s.H.length ops.toList 0 ops.toList [] true {s with H:=zS s.H (cN ops.toList)})).bind fun s=>.leaf (.normal,s)
     | true=>match mE ops ops.toList 0 ops.toList,Nat.ble N.G s.H.length with
       | false,_=>.fail "not apart"
       | true,false=>.fail "variables"
       | true,true=>(GO {s with H:=zS s.H (cN ops.toList)} (lZ N cal s.H.length ops.toList 0 ops.toList [] [] true {s with H:=zS s.H (cN ops.toList)})).bind fun s=>.leaf (.normal,s)
 | .seq a b,s=>(xc cal lp nt a s).bind fun r=>match r.1 with
   | .normal=>xc cal lp nt b r.2
   | e=>.leaf (e,r.2)
 | .cond c a b,s=>match evl N.G s.H s.E c with
   | some (.v (.c x))=>match gq x with
     | some (t,true)=>match t with | true=>xc cal lp nt a s | false=>xc cal lp nt b s
     | some (t,false)=>.ite t (xc cal lp nt a s) (xc cal lp nt b s)
     | none=>.fail "cond"
   | _=>.fail "cond"
 | .block id c,s=>(xc cal lp nt c s).bind fun r=>match r.1 with
   | .exit j=>match Nat.beq j id with | true=>.leaf (.normal,r.2) | false=>.leaf r
   | _=>.leaf r
 | .exit id,s=>.leaf (.exit id,s)
 | .ret,s=>.leaf (.ret,s)
 | .loop c,s=>match oH c with
   | none=>.fail "loop"
   | some id=>match lp id with
     | some g=>g s
     | none=>rounds nt (xc cal lp nt c) 3000 s
 | _,_=>.fail "code"
def Cx (s:St AV):List ResultVar->T (List V1)
 | []=>.leaf []
 | .tmp t::r=>match look s.E t with
   | .v x=>(Cx s r).map fun l=>x::l
   | _=>.fail "result"
 | .cell a t::r=>match look s.E a with
   | .v (.c (.ptr n off))=>match ab s.H n with
     | some (.cells l _)=>match mg N t l off with
       | some x=>(Cx s r).map fun l=>x::l
       | none=>.fail "result"
     | _=>.fail "result"
   | _=>.fail "result"
def jS:List V1->SV
 | [x]=>.v x
 | l=>.tup l
def pS (len:Nat) (R:List Nat):Nat->Hp AV->Hp AV
 | _,[]=>[]
 | i,x::r=>(match Nat.blt i len with | true=>x | false=>match iU R i with | true=>x | false=>none)::pS len R (i+1) r
def v7:Nat->Hp AV->Hp AV
 | 0,[]=>[]
 | 0,none::r=>match v7 0 r with
   | []=>[]
   | q=>none::q
 | 0,some c::r=>some c::v7 0 r
 | _+1,[]=>[]
 | n+1,x::r=>x::v7 n r
def xn:Nat->Hp AV->List Nat
 | 0,_=>[]
 | _+1,[]=>[]
 | n+1,some (.cells l _)::r=>cg l++xn n r
 | n+1,some (.vec l _ _)::r=>cg l++xn n r
 | n+1,_::r=>xn n r
def gcH (len:Nat) (v:SV) (H:Hp AV):Hp AV :=
 v7 len (pS len (fX H 400 (ig v++xn len H) []) 0 H)
def pad:Nat->List SV->Ev
 | _,[]=>[]
 | n,x::r=>(n,x)::pad (n+1) r
def SG (cal:Callee AV) (f:FuncId) (args:List SV) (H:Hp AV):T (SV×Hp AV) :=
 match N.ft.get f with
 | some fn=>match fn.body with
   | some c=>match Nat.ble args.length fn.ntmps with
     | false=>.fail "arguments"
     | true=>(xc N cal (N.lp f) fn.ntmps c {E:=pad 0 args,H:=H}).bind fun r=>match r.1 with
       | .exit _=>.fail "exit"
       | _=>(Cx N r.2 fn.results.toList).bind fun l=>match gcH H.length (jS l) r.2.H with
         | H'=>match clV H' (jS l) with
           | false=>.fail "result: names"
           | true=>match clHs H' H' with
             | false=>.fail "result: heap"
             | true=>.leaf (jS l,H')
   | none=>.fail "no body"
 | none=>.fail "no function"
def jN (len:Nat):T (SV×Hp AV)->Option (Option Bool×SV)
 | .leaf r=>match Nat.beq r.2.length len with
   | true=>some (none,r.1)
   | false=>none
 | .need b t=>match jN len t with
   | some (none,v)=>some (some b,v)
   | some (some n,v)=>some (some (match b with | true=>n | false=>false),v)
   | none=>none
 | .ite b t e=>match jN len t,jN len e with
   | some (none,v),some (none,u)=>some (none,ny b v u)
   | some (some n,v),some (none,u)=>some (some (match b with | true=>n | false=>true),ny b v u)
   | some (none,v),some (some m,u)=>some (some (match b with | true=>true | false=>m),ny b v u)
   | some (some n,v),some (some m,u)=>some (some (match b with | true=>n | false=>m),ny b v u)
   | _,_=>none
 | .fail _=>none
def sB:Hp AV->Bool
 | []=>true
 | none::r=>sB r
 | some _::_=>false
def Rz:SV->Bool
 | .unk=>true
 | _=>false
def aN (cal:Callee AV):Callee AV:=fun f args A =>
 match sB A with
 | false=>cal f args A
 | true=>match cal f args A with
   | .leaf r=>.leaf r
   | t=>match jN A.length t with
     | some (n,v)=>match Rz v with
       | true=>t
       | false=>match clV A v,pZ A A with
         | true,true=>match n with
           | none=>.leaf (v,A)
           | some b=>.need b (.leaf (v,A))
         | _,_=>t
     | none=>t
def MH (N:Env AV) (o:Op) (args:List SV) (H:Hp AV):T (SV×Hp AV):=N.hv o args H
def lv (tab:FuncId->Option (List SV->Hp AV->T (SV×Hp AV))):Nat->Callee AV
 | 0=>fun g args H=>match g with
   | .op o=>MH N o args H
   | .fn f=>match tab f with
     | some g=>g args H
     | none=>.fail "depth"
 | n+1=>fun g args H=>match g with
   | .op o=>MH N o args H
   | .fn f=>match tab f with
     | some g=>g args H
     | none=>SG N (aN (lv tab n)) f args H
end
end
end Go.Sx
