import Derived.Tactics
import Derived.Orders
import Derived.Laws.CopyRow
import Derived.Laws.Cells
import Derived.KernelRfl
set_option linter.unusedVariables false
set_option linter.unusedSimpArgs false
set_option maxHeartbeats 0
set_option maxRecDepth 100000
namespace Go
abbrev aaC:=@Option.some.injEq
abbrev aaF:=@Prod.mk.injEq
abbrev aaS:=@decide_eq_true
abbrev aaV:=@of_decide_eq_true
abbrev aaZ:=@decide_eq_false
abbrev abb:=@of_decide_eq_false
abbrev abi:=@Option.bind_eq_some_iff
abbrev abj:=@List.getElem?_eq_getElem
abbrev abk:=@List.mem_cons
abbrev abl:=@List.length_append
abbrev abn:=@List.length_cons
abbrev abo:=@List.not_mem_nil
abbrev abt:=@List.getElem?_eq_some_iff
abbrev abu:=@Option.map_eq_some_iff
abbrev abv:=@List.map_cons
abbrev abw:=@List.mem_cons_self
abbrev aby:=@List.mem_cons_of_mem
abbrev abz:=@Result.andThen_ok
abbrev abA:=@Sem.run_bind
abbrev abC:=@Sem.run_pure
abbrev abJ:=@Nat.zero_add
abbrev abL:=@Nat.le_trans
abbrev abV:=@Nat.le_refl
abbrev ab8:=@List.mem_of_getElem?
abbrev acC:=@List.append_assoc
abbrev acM:=@List.nil_append
abbrev acQ:=@List.getElem?_append_left
abbrev acR:=@List.getElem?_append_right
abbrev acS:=@List.singleton_append
abbrev adr:=@Nat.zero_le
abbrev adF:=@List.cons_append
abbrev adI:=@Nat.le_of_ble_eq_true
abbrev adK:=@List.mem_map
abbrev adN:=@Nat.mul_le_mul_right
abbrev adV:=@Nat.mul_le_mul_left
abbrev adX:=@List.getD_eq_getElem?_getD
abbrev adY:=@List.length_nil
abbrev ad0:=@Array.getElem?_eq_some_iff
abbrev ad7:=@List.map_congr_left
abbrev ad8:=@List.drop_eq_nil_of_le
abbrev ad9:=@List.mem_map_of_mem
abbrev aec:=@List.mem_append
abbrev aef:=@Int.le_refl
abbrev aej:=@Nat.add_assoc
abbrev aem:=@List.nodup_cons
abbrev aen:=@List.map_append
abbrev aeo:=@List.pairwise_cons
abbrev aeu:=@Nat.add_sub_cancel_left
abbrev aew:=@List.mem_iff_getElem?
abbrev aex:=@List.getElem?_cons_succ
abbrev aey:=@Nat.add_mul
abbrev aez:=@List.mem_singleton
abbrev aeB:=@List.filter_cons
abbrev aeC:=@List.getElem?_cons_zero
abbrev aeG:=@List.getElem?_take
abbrev aeJ:=@List.append_nil
abbrev aeR:=@List.getElem?_map
abbrev aeU:=@List.map_nil
abbrev aeW:=@List.filter_sublist
abbrev afc:=@Nat.succ_le_succ
abbrev afe:=@Array.toArray_toList
abbrev afP:=@Array.mem_toList_iff
abbrev af2:=@List.getElem?_drop
abbrev af6:=@Array.length_toList
abbrev agd:=@List.nodup_append
abbrev agk:=@List.length_eq_zero_iff
abbrev agu:=@Nat.beq_refl
abbrev agM:=@Option.some.inj
abbrev agN:=@List.getElem?_replicate
abbrev agO:=@List.length_set
abbrev agR:=@List.length_map
abbrev agS:=@List.mem_filter
abbrev agU:=@List.take_append_drop
abbrev agV:=@List.length_take
abbrev agW:=@List.length_drop
abbrev agY:=@List.eq_of_mem_replicate
end Go
namespace Go.Sx
noncomputable section
structure l8 where
 b:Nat
 o:Nat:=0
 c:Nat:=0
structure Nm where
 L:Nat->l8
 S:Nat->Nat->Prop
abbrev Nm.f (ρ:Nm) (n:Nat):Nat:=(ρ.L n).b
instance:CoeFun Nm (fun _=>Nat->Nat):=⟨Nm.f⟩
def Nm.id:Nm:=⟨fun n=>⟨n,0,0⟩,fun _ _=>False⟩
inductive MT where
 | ml (o l es:Nat) | GY (f:MT) | head (o es:Nat)
deriving DecidableEq
def MT.ap:MT->l8->l8
 | .ml o l es=>fun q=>if q.c=0 then⟨0,0,0⟩ else if q.c - 1 - o=l then⟨q.b,q.o+o * es,1⟩ else⟨q.b,q.o+(o+l) * es,q.c - (o+l)⟩
 | .GY f=>fun q=>if (f.ap q).c=0 then⟨0,0,0⟩ else⟨(f.ap q).b,(f.ap q).o,1⟩
 | .head o es=>fun q=>⟨q.b,q.o+o * es,q.c⟩
inductive Cell where
 | bl (b:Bool) | bt (b:Bool)
 | il (k:IntKind) (n:Int) | it (k:IntKind) (n:Int)
 | iv (k:IntKind) (n:Int) (cs:List Int) (h:∀c∈cs,(n==c)=false)
 | ir (k:IntKind) (n lo hi:Int) (h:lo<=n /\ n < hi)
 | st (s:ByteArray) | sv (s:ByteArray)
 | ptr (n off:Nat) | CV (n idx es off:Nat) | iK
 | sl (n o len cap:Nat) | dq | sx (a:Option Addr) (cap:Nat) | vs (n o len es:Nat) (kn:Bool)
 | sf (n o es:Nat) (z:Bool) (f:MT) (h:∀l,(f.ap l).c<=1 \/ z=false /\ f.ap l=⟨l.b,l.o+o * es,l.c - o⟩)
 | wZ (t:TypeId) (c:Cell) | fL
 | fn (f:FuncId) | Zd
 | op (i:Nat) (a:Addr) | mp (r:Option Nat)
def bN (l:l8) (o len es:Nat):Value :=
 if len=0 /\ l.c=0 then .slice none 0 0 else .slice (some ⟨l.b,l.o+o * es,none⟩) len (l.c - 1 - o)
def Cell.aq (ρ:Nm):Cell->Value
 | .bl b=>.bool b
 | .bt b=>.bool b
 | .il k n=>.int k n
 | .it k n=>.int k n
 | .iv k n _ _=>.int k n
 | .ir k n _ _ _=>.int k n
 | .st s=>.string s
 | .sv s=>.string s
 | .ptr n off=>.pointer (some ⟨ρ n,off,none⟩)
 | .CV n idx es off=>.pointer (some ⟨ρ n,(ρ.L n).o+idx * es+off,none⟩)
 | .iK=>.pointer none
 | .sl n o len cap=>.slice (some ⟨ρ n,o,none⟩) len cap
 | .dq=>.slice none 0 0
 | .sx a cap=>.slice a 0 cap
 | .vs n o len es _=>bN (ρ.L n) o len es
 | .sf n _ es _ f _=>bN (f.ap (ρ.L n)) 0 0 es
 | .wZ t c=>.iface t (c.aq ρ)
 | .fL=>.nilIface
 | .fn f=>.func (.func f) #[] #[]
 | .Zd=>.nilFunc
 | .op _ a=>.pointer (some a)
 | .mp r=>.map (r.map ρ.f)
def Cell.name:Cell->Option Nat
 | .ptr n _=>some n
 | .CV n _ _ _=>some n
 | .sl n _ _ _=>some n
 | .vs n _ _ _ _=>some n
 | .sf n _ _ _ _ _=>some n
 | .wZ _ c=>c.name
 | .mp r=>r
 | _=>none
inductive V1 where
 | c (x:Cell) | agg (l:List Cell)
inductive SV where
 | v (x:V1) | ji (l:List V1) | lE | wJ (f:FuncId) (l:List Cell)
def V1.cells:V1->List Cell
 | .c x=>[x]
 | .agg l=>l
def aA (ρ:Nm) (l:List Cell):List Value:=l.map (Cell.aq ρ)
def V1.aq (ρ:Nm):V1->Value
 | .c x=>x.aq ρ
 | .agg l=>.agg (aA ρ l).toArray
def SV.aq (ρ:Nm):SV->Value
 | .v x=>x.aq ρ
 | .ji l=>.tuple (l.map (V1.aq ρ)).toArray
 | .lE=>.tuple #[]
 | .wJ f l=>.func (.func f) #[] (aA ρ l).toArray
inductive T (α:Type) where
 | aE (a:α) | ite (b:Bool) (t e:T α) | aJ (b:Bool) (t:T α) | fail (why:String)
def T.bind {α β:Type}:T α->(α->T β)->T β
 | .aE a,f=>f a
 | .ite b t e,f=>.ite b (t.bind f) (e.bind f)
 | .aJ b t,f=>.aJ b (t.bind f)
 | .fail w,_=>.fail w
def T.map {α β:Type} (f:α->β):T α->T β
 | .aE a=>.aE (f a)
 | .ite b t e=>.ite b (t.map f) (e.map f)
 | .aJ b t=>.aJ b (t.map f)
 | .fail w=>.fail w
def T.val {α:Type}:T α->Option α
 | .aE a=>some a
 | .ite b t e=>match b with | true=>t.val | false=>e.val
 | .aJ b t=>match b with | true=>t.val | false=>none
 | .fail _=>none
theorem T.n5 {α β:Type} (t:T α) (f:α->T β):(t.bind f).val=t.val.bind fun a=>(f a).val:=by
 induction t with
 | aE a=>rfl
 | ite b t e iht ihe=>cases b<;>simp [T.bind,T.val,iht,ihe]
 | aJ b t ih=>cases b<;>simp [T.bind,T.val,ih]
 | fail w=>rfl
theorem T.fR {α β:Type} (t:T α) (f:α->β):(t.map f).val=t.val.map f:=by
 induction t with
 | aE a=>rfl
 | ite b t e iht ihe=>cases b<;>simp [T.map,T.val,iht,ihe]
 | aJ b t ih=>cases b<;>simp [T.map,T.val,ih]
 | fail w=>rfl
theorem T.bf {α β:Type} {t:T α} {f:α->T β} {y:β} (h:(t.bind f).val=some y):∃x,t.val=some x /\ (f x).val=some y:=by
 rw [T.n5] at h
 exact abi.1 h
inductive FK where
 | bool | int (k:IntKind) | Nq
 deriving DecidableEq
def oy:Cell->Option (IntKind×Int×Bool)
 | .il k n=>some (k,n,true)
 | .it k n=>some (k,n,false)
 | .iv k n _ _=>some (k,n,false)
 | .ir k n _ _ _=>some (k,n,false)
 | _=>none
def kX:Cell->Option (Bool×Bool)
 | .bl b=>some (b,true)
 | .bt b=>some (b,false)
 | _=>none
def Fk (a b:Bool):Bool:=match a with | true=>b | false=>false
def KB:Cell->Option (ByteArray×Bool)
 | .st s=>some (s,true)
 | .sv s=>some (s,false)
 | _=>none
def acs:List UInt8->List UInt8->Bool
 | [],[]=>true
 | x::xs,y::ys=>match Nat.beq x.toNat y.toNat with | true=>acs xs ys | false=>false
 | _,_=>false
def Db (a b:ByteArray):Bool:=acs a.data.toList b.data.toList
def eqC (x y:Cell):Option (Bool×Bool) :=
 match kX x,kX y with
 | some (a,ka),some (b,kb)=>some (a==b,Fk ka kb)
 | _,_=>match oy x,oy y with
   | some (_,a,ka),some (_,b,kb)=>some (a==b,Fk ka kb)
   | _,_=>match KB x,KB y with
     | some (a,ka),some (b,kb)=>some (Db a b,Fk ka kb)
     | _,_=>none
def eqL:List Cell->List Cell->Option (Bool×Bool)
 | [],[]=>some (true,true)
 | x::xs,y::ys=>match eqC x y with
   | some (b,kb)=>match eqL xs ys with
     | some (c,kc)=>match kb with
       | true=>match b with
         | true=>some (c,kc)
         | false=>some (false,true)
       | false=>match kc with
         | true=>match c with
           | true=>some (b,false)
           | false=>some (false,true)
         | false=>some (b&&c,false)
     | none=>none
   | none=>none
 | _,_=>none
def y9:Cell->Option FK
 | .bl _=>some .bool
 | .bt _=>some .bool
 | .il k _=>some (.int k)
 | .it k _=>some (.int k)
 | .iv k _ _ _=>some (.int k)
 | .ir k _ _ _ _=>some (.int k)
 | .st _=>some .Nq
 | .sv _=>some .Nq
 | _=>none
def fK:List FK->List Cell->Bool
 | [],[]=>true
 | k::ks,c::cs=>match y9 c with
   | some k'=>match decide (k=k') with | true=>fK ks cs | false=>false
   | none=>false
 | _,_=>false
def W3 (x y:V1):Bool:=match eqL x.cells y.cells with | some (b,_)=>b | none=>false
def alD (ks:List FK) (ag:Bool):V1->Bool
 | .c x=>match ag with | true=>false | false=>fK ks [x]
 | .agg l=>match ag with | true=>fK ks l | false=>false
def WB (k z:V1):List (V1×V1)->V1×Bool
 | []=>(z,false)
 | e::r=>match W3 k e.1 with | true=>(e.2,true) | false=>WB k z r
def akP (k v:V1):List (V1×V1)->List (V1×V1)
 | []=>[(k,v)]
 | e::r=>match W3 k e.1 with | true=>(e.1,v)::r | false=>e::akP k v r
def ant (k:V1):List (V1×V1)->List (V1×V1)
 | []=>[]
 | e::r=>match W3 k e.1 with | true=>r | false=>e::ant k r
def ap9 (l:l8) (S:Nat->Prop) (es:List (V1×V1)) (w:World):Prop :=
 (∀k,S k↔k=l.b) /\ ∃(en:Array MapEntry) (clock:Nat),w.heap[l.b]?=some (.map en clock) /\ en.toList.map (fun e=>(e.key,e.val))=es.map fun e=>(e.1.aq Nm.id,e.2.aq Nm.id)
def mM (l:l8) (S:Nat->Prop) (cs:List Value) (es:Nat) (ty:TypeId) (w:World):Prop :=
 (l.c<=1 /\ cs=[] /\ ∀k,¬S k) \/ (0 < l.c /\ (∀k,S k↔k=l.b) /\ ∃row:List Value,w.heap[l.b]?=some (.cells row.toArray ty (0,0)) /\ l.o+(l.c - 1) * es<=row.length /\ cs.length<=(l.c - 1) * es /\ ∀(j:Nat) v,cs[j]?=some v->row[l.o+j]?=some v)
def KW (l:l8) (cs:List Value) (es:Nat) (w:World):Prop:=cs.length<=(l.c - 1) * es /\ ∀(j:Nat) v,cs[j]?=some v->w.cell? ((⟨l.b,l.o,none⟩:Addr).add j)=some v
def kg (z:List Cell):Nat->List Cell
 | 0=>[]
 | n+1=>z++kg z n
structure iL (AV:Type) where
 q:AV->l8->(Nat->Prop)->World->Prop
 loc:∀a l S w w',(∀k,S k->w'.heap[k]?=w.heap[k]?)->q a l S w->q a l S w'
 dom:∀a l S w k,q a l S w->S k->k < w.heap.size
 row:AV->Nat->Nat->Option (Bool×List Cell)
 ud:∀a idx es cs,row a idx es=some (true,cs)->∀c∈cs,c.name=none
 R:Nat->Option Obj:=fun _=>none
 xq:∀a l S w idx es cs,(∀k o,R k=some o->w.heap[k]?=some o)->q a l S w->row a idx es=some (true,cs)->∀j c,cs[j]?=some c->w.cell? ⟨l.b,l.o+idx * es+j,none⟩=some (c.aq Nm.id)
 J3:AV->Nat->Nat->Nat->Nat->Option (Bool×List Cell):=fun _ _ _ _ _=>none
 Aa:∀a i e o n cs,J3 a i e o n=some (true,cs)->∀c∈cs,c.name=none:=by intro _ _ _ _ _ _ h;cases h
 I4:∀a l S w i e o n cs,(∀k o,R k=some o->w.heap[k]?=some o)->q a l S w->J3 a i e o n=some (true,cs)->∀j c,cs[j]?=some c->w.cell? ⟨l.b,l.o+i * e+o+j,none⟩=some (c.aq Nm.id):=by intro _ _ _ _ _ _ _ _ _ _ _ h;cases h
 wz:AV->Nat->Nat->Nat->List Cell->Option (Bool×AV)
 mY:∀a l S w idx es off cs a',q a l S w->wz a idx es off cs=some (true,a')->(∀c∈cs,c.name=none) /\ S l.b /\ ∃(row:List Value) (ty:TypeId),w.heap[l.b]?=some (.cells row.toArray ty (0,0)) /\ l.o+idx * es+off+cs.length<=row.length /\
  q a' l S (w.setRow l.b (row.take (l.o+idx * es+off)++(aA Nm.id cs++row.drop (l.o+idx * es+off+cs.length))).toArray)
 word:AV->Option (List Cell):=fun _=>none
 vp:∀a cs,word a=some cs->∀c∈cs,c.name=none:=by intro _ _ h;cases h
 Ck:∀a l S w cs,q a l S w->word a=some cs->∀j c,cs[j]?=some c->w.cell? ⟨l.b,j,none⟩=some (c.aq Nm.id):=by intro _ _ _ _ _ _ h;cases h
 wB:AV->AV->Bool:=fun _ _=>false
 rZ:∀a b,wB a b=true->a=b:=by intro _ _ h;cases h
 fW:AV->Option (Nat×TypeId×List Value):=fun _=>none
 mJ:∀a es ty vs,fW a=some (es,ty,vs)->(∀v∈vs,v.oneCell'=true) /\ ∀l S w,q a l S w↔mM l S vs es ty w:=by intro _ _ _ _ h;cases h
 rq:AV->Option AV:=fun _=>none
 Dl:∀a b es ty vs,rq a=some b->fW b=some (es,ty,vs)->∀l S w,(∀k o,R k=some o->w.heap[k]?=some o)->q a l S w->KW l vs es w:=by intro _ _ _ _ _ h;cases h
 len:AV->Nat:=fun _=>0
 qJ:∀a es ty vs,fW a=some (es,ty,vs)->vs.length=len a * es:=by intro _ _ _ _ h;cases h
 cat:AV->AV->Option AV:=fun _ _=>none
 JS:∀a b c,cat a b=some c->∃es ty ty' vs us,fW a=some (es,ty,vs) /\ fW b=some (es,ty',us) /\ fW c=some (es,ty,vs++us):=by intro _ _ _ h;cases h
 JV:AV->List Cell->Option AV:=fun _ _=>none
 nJ:∀a cs c,JV a cs=some c->(∀x∈cs,x.name=none) /\ ∃es ty vs,fW a=some (es,ty,vs) /\ fW c=some (es,ty,vs++aA Nm.id cs):=by intro _ _ _ h;cases h
 cut:AV->Nat->Nat->Option AV:=fun _ _ _=>none
 nI:∀a i j c,cut a i j=some c->∃es ty vs,fW a=some (es,ty,vs) /\ fW c=some (es,ty,(vs.take (j * es)).drop (i * es)):=by intro _ _ _ _ h;cases h
 Zq:List Cell->Nat->TypeId->Nat->Option AV:=fun _ _ _ _=>none
 zK:∀z es ty n a,Zq z es ty n=some a->fW a=some (es,ty,aA Nm.id (kg z n)):=by intro _ _ _ _ _ h;cases h
 txt:AV->Option (List Int):=fun _=>none
 T6:∀a s,txt a=some s->∃ty,fW a=some (1,ty,s.map (Value.int .u8)):=by intro _ _ h;cases h
 mp:AV->Option (List FK×Bool×List (V1×V1)):=fun _=>none
 af9:∀a ks ag es,mp a=some (ks,ag,es)->(∀e∈es,alD ks ag e.1=true /\ (∀c∈e.1.cells,c.name=none) /\ ∀c∈e.2.cells,c.name=none) /\ ∀l S w,q a l S w↔ap9 l S es w:=by intro _ _ _ _ h;cases h
 aga:List FK->Bool->Option AV:=fun _ _=>none
 PY:∀ks ag a,aga ks ag=some a->mp a=some (ks,ag,[]):=by intro _ _ _ h;cases h
 Ws:AV->V1->V1->Option (V1×Bool×Bool):=fun _ _ _=>none
 Li:∀a k z v b kn,Ws a k z=some (v,b,kn)->∃ks ag es,mp a=some (ks,ag,es) /\ (WB k z es).2=b /\ (∀c∈v.cells,c.name=none) /\ ∀ρ,v.aq ρ=(WB k z es).1.aq ρ:=by intro _ _ _ _ _ _ h;cases h
 af8:AV->V1->V1->Option AV:=fun _ _ _=>none
 PX:∀a k v a',af8 a k v=some a'->(∀c∈k.cells,c.name=none) /\ (∀c∈v.cells,c.name=none) /\ ∃ks ag es lz,mp a=some (ks,ag,es) /\ mp a'=some (ks,ag,lz) /\ lz.map (fun e=>(e.1.aq Nm.id,e.2.aq Nm.id))=(akP k v es).map fun e=>(e.1.aq Nm.id,e.2.aq Nm.id):=by intro _ _ _ _ h;cases h
 agf:AV->V1->Option AV:=fun _ _=>none
 P3:∀a k a',agf a k=some a'->∃ks ag es,mp a=some (ks,ag,es) /\ mp a'=some (ks,ag,ant k es):=by intro _ _ _ h;cases h
 agb:AV->Option (Nat×Bool):=fun _=>none
 PZ:∀a n kn,agb a=some (n,kn)->∃ks ag es,mp a=some (ks,ag,es) /\ n=es.length:=by intro _ _ _ h;cases h
inductive aG (AV:Type) where
 | cells (l:List Cell) (ty:TypeId)
 | kD (l:List Cell) (es:Nat) (ty:TypeId)
 | j8
 | bI (a:AV)
abbrev Hp (AV:Type):=List (Option (aG AV))
def ae {AV:Type}:Hp AV->Nat->Option (aG AV)
 | [],_=>none
 | x::_,0=>x
 | _::r,n+1=>ae r n
def yc {α:Type}:List α->Nat->Option α
 | [],_=>none
 | x::_,0=>some x
 | _::r,n+1=>yc r n
def cV {α:Type}:List α->Nat->α->List α
 | [],_,_=>[]
 | _::r,0,y=>y::r
 | x::r,n+1,y=>x::cV r n y
abbrev Ev:=List (Nat×SV)
structure St (AV:Type) where
 E:Ev
 H:Hp AV
def dQ:SV:=.ji []
def aF:Ev->Nat->SV
 | [],_=>dQ
 | (k,v)::r,n=>match Nat.beq k n with | true=>v | false=>aF r n
def oq:List Cell->Nat->Option (List Cell)
 | _,0=>some []
 | [],_+1=>none
 | x::l,n+1=>match oq l n with | some r=>some (x::r) | none=>none
def pM:List Cell->Nat->Nat->Option (List Cell)
 | l,0,n=>oq l n
 | [],_+1,_=>none
 | _::l,k+1,n=>pM l k n
def l6:List Cell->Nat->List Cell->Option (List Cell)
 | l,0,[]=>some l
 | [],0,_::_=>none
 | _::l,0,y::ys=>match l6 l 0 ys with | some r=>some (y::r) | none=>none
 | [],_+1,_=>none
 | x::l,n+1,ys=>match l6 l n ys with | some r=>some (x::r) | none=>none
def Cell.ofValue:Value->Option Cell
 | .bool b=>some (.bl b)
 | .int k n=>some (.il k n)
 | .string s=>some (.st s)
 | .pointer none=>some .iK
 | .slice none 0 0=>some .dq
 | .nilIface=>some .fL
 | .nilFunc=>some .Zd
 | .map none=>some (.mp none)
 | _=>none
def mo:List Value->Option (List Cell)
 | []=>some []
 | v::r=>match Cell.ofValue v with
   | some c=>match mo r with | some l=>some (c::l) | none=>none
   | none=>none
def OO:Value->Option SV
 | .agg cs=>match mo cs.toList with | some l=>some (.v (.agg l)) | none=>none
 | v=>match Cell.ofValue v with | some c=>some (.v (.c c)) | none=>none
def qP {AV:Type} (G:Nat) (H:Hp AV) (E:Ev):Operand->Option SV
 | .tmp t=>match aF E t with
   | .lE=>none
   | v=>some v
 | .const v=>OO v
 | .global g=>match Nat.blt g G,ae H g with
   | true,some _=>some (.v (.c (.ptr g 0)))
   | _,_=>none
 | .func f=>some (.v (.c (.fn f)))
def Gb (ev:Operand->Option SV):List Operand->Option (List SV)
 | []=>some []
 | x::r=>match ev x with
   | some v=>match Gb ev r with | some l=>some (v::l) | none=>none
   | none=>none
def zh (ev:Operand->Option SV):List (Nat×Operand)->Option (List (Nat×V1))
 | []=>some []
 | (i,x)::r=>match ev x with
   | some (.v v)=>match zh ev r with | some l=>some ((i,v)::l) | none=>none
   | _=>none
def JR:List SV->Option (List Cell)
 | []=>some []
 | .v (.c c)::r=>match JR r with | some l=>some (c::l) | none=>none
 | _::_=>none
def svs:List Cell->List SV
 | []=>[]
 | c::r=>.v (.c c)::svs r
def eG:List Cell->List Nat
 | []=>[]
 | c::r=>match c.name with | some n=>n::eG r | none=>eG r
section closed
variable {AV:Type}
def cJ {α:Type}:Option α->Bool
 | some _=>true
 | none=>false
def clC (H:Hp AV) (c:Cell):Bool:=match c.name with | some n=>cJ (ae H n) | none=>true
def Yv (H:Hp AV):List Nat->Bool
 | []=>true
 | n::r=>match cJ (ae H n) with | true=>Yv H r | false=>false
def clL (H:Hp AV) (l:List Cell):Bool:=Yv H (eG l)
def Tc (H:Hp AV):V1->Bool
 | .c x=>clC H x
 | .agg l=>clL H l
def Mu (H:Hp AV):List V1->Bool
 | []=>true
 | x::r=>match Tc H x with | true=>Mu H r | false=>false
def QN (H:Hp AV):SV->Bool
 | .v x=>Tc H x
 | .ji l=>Mu H l
 | .lE=>true
 | .wJ _ l=>clL H l
def Bc (H:Hp AV):List SV->Bool
 | []=>true
 | x::r=>match QN H x with | true=>Bc H r | false=>false
def Yw (H:Hp AV):aG AV->Bool
 | .cells l _=>clL H l
 | .kD l _ _=>clL H l
 | .j8=>true
 | .bI _=>true
def p6 (H:Hp AV):Hp AV->Bool
 | []=>true
 | none::r=>p6 H r
 | some c::r=>match Yw H c with | true=>p6 H r | false=>false
end closed
structure cI where
 off:Nat
 size:Nat
 ty:TypeId
 agg:Bool
inductive Kd where
 | bool | int (k:IntKind) | Nq | map (k e:TypeId) | ptr | slice (Gc:Nat) | fW (len Gc:Nat) (ag:Bool) | struct (fs:List cI) | iface | PO
structure TI where
 kd:Kd
 size:Nat
 zero:Option (List Cell)
 amW:Option (List FK)
def uL:Kd->Bool
 | .fW _ _ _=>true
 | .struct _=>true
 | _=>false
section table
variable (P:Program)
def fB (t:TypeId):Option Bool :=
 match P.underlying t with
 | some (.struct _)=>some true
 | some (.array _ _)=>some true
 | some _=>some false
 | none=>none
def n6 (t:TypeId):Option Nat:=match P.info? t with | some i=>some i.size | none=>none
def JE:List Field->Option (List cI)
 | []=>some []
 | f::r=>match n6 P f.type,fB P f.type,JE r with
   | some n,some a,some l=>some (⟨f.offset,n,f.type,a⟩::l)
   | _,_,_=>none
def AD (t:TypeId):Option Kd :=
 match P.underlying t with
 | some .bool=>some .bool
 | some (.int k)=>some (.int k)
 | some .string=>some .Nq
 | some (.pointer _)=>some .ptr
 | some (.slice e)=>match n6 P e with | some n=>some (.slice n) | none=>none
 | some (.array len e)=>match n6 P e,fB P e with | some n,some a=>some (.fW len n a) | _,_=>none
 | some (.struct fs)=>match JE P fs.toList with | some l=>some (.struct l) | none=>none
 | some (.interface _)=>some .iface
 | some (.map k e)=>some (.map k e)
 | some _=>some .PO
 | none=>none
def sG (rec:TypeId->Option (List FK)):List Field->Nat->Option (List FK)
 | [],_=>some []
 | f::r,off=>match f.name == "_" with
   | true=>none
   | false=>match Nat.beq f.offset off with
     | false=>none
     | true=>match rec f.type with
       | none=>none
       | some ks=>match n6 P f.type with
         | none=>none
         | some n=>match Nat.beq n ks.length with
           | false=>none
           | true=>match sG rec r (off+n) with
             | some l=>some (ks++l)
             | none=>none
def QU (e:TypeId) (n i:Nat):Field:={name := "x",type:=e,offset:=i * n,embedded:=false,tag := "",pkgPath := "",byteOffset:=0}
def Im (e:TypeId) (n:Nat):Nat->Nat->List Field
 | 0,_=>[]
 | k+1,i=>QU e n i::Im e n k (i+1)
def oR:Nat->TypeId->Option (List FK)
 | 0,_=>none
 | d+1,t=>match P.underlying t with
   | some .bool=>some [.bool]
   | some (.int k)=>some [.int k]
   | some .string=>some [.Nq]
   | some (.struct fs)=>match P.stoodInHeld t with
     | true=>none
     | false=>sG P (oR d) fs.toList 0
   | some (.array len e)=>match n6 P e with
     | some n=>sG P (oR d) (Im e n len 0) 0
     | none=>none
   | _=>none
def Sc (t:TypeId):Option TI :=
 match P.info? t,AD P t with
 | some i,some k=>some {
    kd:=k
    size:=i.size
    zero:=match i.zero with | some v=>mo v.cells.toList | none=>none
    amW:=match P.eqGuardType P.depth t with | true=>none | false=>oR P 12 t}
 | _,_=>none
end table
inductive Tr (α:Type) where
 | lf | nd (x:Option α) (l r:Tr α)
def Tr.get {α:Type}:Tr α->Nat->Option α
 | .lf,_=>none
 | .nd x l r,n=>match Nat.beq n 0 with
   | true=>x
   | false=>match Nat.beq (n % 2) 1 with
     | true=>l.get (n / 2)
     | false=>r.get ((n - 1) / 2)
structure SI where
 e:TypeId
 size:Nat
 bytes:Nat
 zero:List Cell
def yU (P:Program) (t:TypeId):Option SI :=
 match P.underlying t with
 | some (.slice e)=>match P.info? e with
   | some i=>match i.zero with
     | some z=>match mo z.cells.toList with
       | some l=>match Nat.beq l.length i.size,Nat.blt 0 i.size with
         | true,true=>some ⟨e,i.size,i.bytes,l⟩
         | _,_=>none
       | none=>none
     | none=>none
   | none=>none
 | _=>none
def qU:Nat:=1099511627776
inductive Ex where
 | normal | exit (id:Nat) | ret
structure dV (AV:Type) where
 tt:Tr TI
 ft:Tr Func
 gu:Tr (List Nat)
 G:Nat
 F:iL AV
 hv:Op->List SV->Hp AV->T (SV×Hp AV):=fun _ _ _=>.fail "heavy"
 lp:FuncId->Nat->Option (St AV->T (Ex×St AV)):=fun _ _=>none
 mt:TypeId->String->Option FuncId:=fun _ _=>none
 sl:Tr SI:=.lf
 orc:Option Nat:=none
section
variable {AV:Type} (N:dV AV)
def uu (agg:Bool) (n:Nat) (l:List Cell) (off:Nat):Option V1 :=
 match agg with
 | true=>match pM l off n with | some x=>some (.agg x) | none=>none
 | false=>match yc l off with | some x=>some (.c x) | none=>none
def rF (t:TypeId) (l:List Cell) (off:Nat):Option V1 :=
 match N.tt.get t with
 | some i=>uu (uL i.kd) i.size l off
 | none=>none
def ze (t:TypeId):Option (List cI):=match N.tt.get t with | some ⟨.struct fs,_,_,_⟩=>some fs | _=>none
def P0 (b:Bool) (lit:Bool):V1:=.c (match lit with | true=>.bl b | false=>.bt b)
def J4 (k:IntKind) (n:Int) (lit:Bool):V1:=.c (match lit with | true=>.il k n | false=>.it k n)
def YH (op:BinOp) (k:IntKind) (a b:Int):Int :=
 match op with
 | .and=>k.wrap ((BitVec.ofInt k.bits a &&& BitVec.ofInt k.bits b).toNat:Int)
 | .or=>k.wrap ((BitVec.ofInt k.bits a ||| BitVec.ofInt k.bits b).toNat:Int)
 | .xor=>k.wrap ((BitVec.ofInt k.bits a ^^^ BitVec.ofInt k.bits b).toNat:Int)
 | .andNot=>k.wrap ((BitVec.ofInt k.bits a &&& ~~~BitVec.ofInt k.bits b).toNat:Int)
 | _=>0
def rU (op:BinOp) (k:IntKind) (a b:Int) (lit:Bool):T V1 :=
 match op with
 | .add=>.aE (J4 k (k.wrap (a+b)) lit)
 | .sub=>.aE (J4 k (k.wrap (a - b)) lit)
 | .mul=>.aE (J4 k (k.wrap (a * b)) lit)
 | .eql=>.aE (P0 (a==b) lit)
 | .neq=>.aE (P0 (a != b) lit)
 | .lss=>.aE (P0 (decide (a < b)) lit)
 | .leq=>.aE (P0 (decide (a<=b)) lit)
 | .gtr=>.aE (P0 (decide (a > b)) lit)
 | .geq=>.aE (P0 (decide (a>=b)) lit)
 | .quo=>.aJ (b != 0) (.aE (J4 k (k.wrap (a.tdiv b)) lit))
 | .rem=>.aJ (b != 0) (.aE (J4 k (a.tmod b) lit))
 | .and=>.aE (J4 k (YH .and k a b) lit)
 | .or=>.aE (J4 k (YH .or k a b) lit)
 | .xor=>.aE (J4 k (YH .xor k a b) lit)
 | .andNot=>.aE (J4 k (YH .andNot k a b) lit)
 | _=>.fail "binI"
def sB:Operand->Bool
 | .const _=>true
 | _=>false
def vO:BinOp->Bool
 | .shl=>true
 | .shr=>true
 | _=>false
def ak4:Cell->Cell->Option Bool
 | .dq,.dq=>some true
 | .vs _ _ (_+1) _ true,.dq=>some false
 | .sl _ _ _ _,.dq=>some false
 | _,_=>none
def eqV (t:TypeId) (cst:Bool):V1->V1->Option (Bool×Bool)
 | .agg xs,.agg ys=>match N.tt.get t with
   | some ⟨kd,_,_,some ks⟩=>match uL kd with
     | false=>none
     | true=>match fK ks xs with
       | false=>none
       | true=>match fK ks ys with
         | false=>none
         | true=>eqL xs ys
   | _=>none
 | .c x,.c y=>match N.tt.get t with
   | some ⟨.bool,_,_,_⟩=>match kX x,kX y with
     | some (a,ka),some (b,kb)=>some (a==b,match ka with | true=>kb | false=>false)
     | _,_=>none
   | some ⟨.ptr,_,_,_⟩=>match x,y with
     | .iK,.iK=>some (true,true)
     | .iK,.ptr _ _=>some (false,true)
     | .ptr _ _,.iK=>some (false,true)
     | .iK,.op _ _=>some (false,true)
     | .op _ _,.iK=>some (false,true)
     | _,_=>none
   | some ⟨.iface,_,_,_⟩=>match x,y with
     | .fL,.fL=>match cst with | true=>some (true,true) | false=>none
     | .fL,.wZ _ _=>some (false,true)
     | .wZ _ _,.fL=>some (false,true)
     | _,_=>none
   | some ⟨.slice _,_,_,_⟩=>match ak4 x y with
     | some b=>some (b,true)
     | none=>none
   | _=>none
 | _,_=>none
def ak0:Option (Bool×Bool)->T V1
 | some (b,k)=>.aE (P0 b k)
 | none=>.fail "=="
def akZ:Option (Bool×Bool)->T V1
 | some (b,k)=>.aE (P0 (!b) k)
 | none=>.fail "!="
def xK {α:Type} (known b:Bool) (a:α):T α :=
 match known with
 | true=>match b with | true=>.aE a | false=>.fail "guard"
 | false=>.aJ b (.aE a)
def Ih:V1->V1->Option (IntKind×Int×Bool×IntKind×Int×Bool)
 | .c x,.c y=>match oy x with
   | some (k,a,ka)=>match oy y with
     | some (k',b,kb)=>some (k,a,ka,k',b,kb)
     | none=>none
   | none=>none
 | _,_=>none
def XH:List Int->Int->Bool
 | [],_=>false
 | x::r,n=>match decide (x=n) with | true=>true | false=>XH r n
def alH (op:BinOp):V1->V1->Option V1
 | .c (.iv _ _ cs _),.c (.il _ c)=>match XH cs c with
   | false=>none
   | true=>match op with
     | .eql=>some (.c (.bl false))
     | .neq=>some (.c (.bl true))
     | _=>none
 | _,_=>none
def RH:V1->Option (Int×Int)
 | .c (.il _ c)=>some (c,c+1)
 | .c (.ir _ _ lo hi _)=>some (lo,hi)
 | _=>none
def oV (t f:Bool):Option Bool:=match t with
 | true=>some true
 | false=>match f with | true=>some false | false=>none
def acf (op:BinOp) (l1 h1 l2 h2:Int):Option Bool:=match op with
 | .lss=>oV (decide (h1<=l2)) (decide (h2<=l1+1))
 | .leq=>oV (decide (h1<=l2+1)) (decide (h2<=l1))
 | .gtr=>oV (decide (h2<=l1)) (decide (h1<=l2+1))
 | .geq=>oV (decide (h2<=l1+1)) (decide (h1<=l2))
 | .eql=>oV false (match decide (h1<=l2) with | true=>true | false=>decide (h2<=l1))
 | .neq=>oV (match decide (h1<=l2) with | true=>true | false=>decide (h2<=l1)) false
 | _=>none
theorem aak {a lo hi m:Int} (h:lo<=a /\ a < hi) (h0:0<=lo /\ 0 < m):0<=a.tmod m /\ a.tmod m < m :=
 ⟨Int.tmod_nonneg _ (by omega),Int.tmod_lt_of_pos _ h0.2⟩
theorem acD {c n lo hi:Int} (h:lo<=n /\ n < hi):c+lo<=c+n /\ c+n < c+hi:=by omega
def ahZ (op:BinOp):V1->V1->Option V1
 | .c (.ir k a lo _hi h),.c (.il _ m)=>match op with
   | .rem=>match decide (0<=lo /\ 0 < m) with
     | true=>if h0:0<=lo /\ 0 < m then some (.c (.ir k (a.tmod m) 0 m (aak h h0))) else none
     | false=>none
   | _=>none
 | .c (.il k c),.c (.ir _ n lo hi h)=>match op,k with
   | .add,.i64=>match decide (-9223372036854775808<=c+lo /\ c+hi<=9223372036854775808) with
     | true=>some (.c (.ir .i64 (c+n) (c+lo) (c+hi) (acD h)))
     | false=>none
   | _,_=>none
 | _,_=>none
def isR:V1->Bool
 | .c (.ir _ _ _ _ _)=>true
 | _=>false
def agH (op:BinOp) (x y:V1):Option V1:=match isR x,isR y with
 | false,false=>none
 | _,_=>match ahZ op x y with
   | some r=>some r
   | none=>match RH x,RH y with
     | some (l1,h1),some (l2,h2)=>match acf op l1 h1 l2 h2 with
       | some b=>some (.c (.bl b))
       | none=>none
     | _,_=>none
def YG:V1->V1->Option (ByteArray×Bool×ByteArray×Bool)
 | .c x,.c y=>match KB x with
   | some (a,ka)=>match KB y with
     | some (b,kb)=>some (a,ka,b,kb)
     | none=>none
   | none=>none
 | _,_=>none
def mkS (s:ByteArray) (lit:Bool):V1:=.c (match lit with | true=>.st s | false=>.sv s)
def Nl (a b:ByteArray):ByteArray:=⟨⟨a.data.toList++b.data.toList⟩⟩
def lF (a:ByteArray):Nat:=a.data.toList.length
def Np (op:BinOp) (a b:ByteArray) (lit:Bool):T V1 :=
 match op with
 | .eql=>.aE (P0 (Db a b) lit)
 | .neq=>.aE (P0 (!Db a b) lit)
 | .add=>xK lit (Nat.ble (lF a+lF b) 9223372036854775807) (mkS (Nl a b) lit)
 | _=>.fail "strBin"
def bin (op:BinOp) (t:TypeId) (cst:Bool) (x y:V1):T V1 :=
 match Ih x y with
 | some (k,a,ka,k',b,kb)=>match decide (k=k') with
   | true=>match alH op x y with
     | some r=>.aE r
     | none=>match agH op x y with
       | some r=>.aE r
       | none=>rU op k a b (match ka with | true=>kb | false=>false)
   | false=>.fail "kinds"
 | none=>match YG x y with
   | some (a,ka,b,kb)=>Np op a b (Fk ka kb)
   | none=>match op with
     | .eql=>ak0 (eqV N t cst x y)
     | .neq=>akZ (eqV N t cst x y)
     | _=>.fail "binOp"
def shI (op:BinOp) (k:IntKind) (a b:Int):Int :=
 match op with
 | .shl=>k.wrap (a * 2 ^ min b.toNat k.bits)
 | _=>a.fdiv (2 ^ min b.toNat k.bits)
def U5 (op:BinOp) (x y:V1):T V1 :=
 match Ih x y with
 | some (k,a,ka,_,b,kb)=>xK kb (decide (0<=b)) (J4 k (shI op k a b) (Fk ka kb))
 | none=>.fail "shift"
def Ie (s:ByteArray) (n:Int):Int:=match yc s.data.toList n.toNat with
 | some b=>(b.toNat:Int)
 | none=>0
def HD (fs:List cI):List Cell->List (Nat×V1)->Option (List Cell)
 | l,[]=>some l
 | l,(i,x)::r=>match yc fs i with
   | some f=>match Nat.beq f.size x.cells.length with
     | true=>match l6 l f.off x.cells with | some l'=>HD fs l' r | none=>none
     | false=>none
   | none=>none
def xe (Gc:Nat):List Cell->List (Nat×V1)->Option (List Cell)
 | l,[]=>some l
 | l,(i,x)::r=>match Nat.beq Gc x.cells.length with
   | true=>match l6 l (i * Gc) x.cells with | some l'=>xe Gc l' r | none=>none
   | false=>none
def Hz (k:Int):Nat->Nat->T Nat
 | 0,_=>.fail "index"
 | 1,j=>.aJ (decide (k=(j:Int))) (.aE j)
 | c+2,j=>.ite (decide (k=(j:Int))) (.aE j) (Hz k (c+1) (j+1))
theorem EA {k:Int}:∀{c j m:Nat},(Hz k c j).val=some m->k=(m:Int) /\ j<=m /\ m < j+c
 | 0,j,m,h=>by simp [Hz,T.val] at h
 | 1,j,m,h=>by
   simp only [Hz,T.val] at h
   split at h
   ·rename_i hb
    cases h
    exact⟨aaV hb,abV _,by omega⟩
   ·cases h
 | c+2,j,m,h=>by
   simp only [Hz,T.val] at h
   split at h
   ·rename_i hb
    cases h
    exact⟨aaV hb,abV _,by omega⟩
   ·obtain⟨h1,h2,h3⟩:=EA h
    exact⟨h1,by omega,by omega⟩
def XQ (o:Option Nat) (k:Int) (len:Nat):T Nat:=match o with
 | none=>Hz k len 0
 | some j=>.aJ (decide (k=(j:Int))) (match Nat.blt j len with | true=>.aE j | false=>.fail "index")
theorem Ou {o:Option Nat} {k:Int} {len m:Nat} (h:(XQ o k len).val=some m):k=(m:Int) /\ m < len:=by
 cases o with
 | none=>obtain⟨h1,_,h3⟩:=EA h;exact⟨h1,by omega⟩
 | some j =>
   simp only [XQ,T.val] at h
   split at h
   ·rename_i hb
    split at h
    ·rename_i hl
     cases h
     exact⟨aaV hb,adI hl⟩
    ·cases h
   ·cases h
theorem Q2 (n:Int):0<=IntKind.u64.wrap n /\ IntKind.u64.wrap n < 18446744073709551616:=by
 have e:IntKind.u64.wrap n=n % 18446744073709551616:=by unfold IntKind.wrap;simp [IntKind.bits,IntKind.signed]
 rw [e];omega
theorem O9 {n:Int} (h:-9223372036854775808<=n /\ n < 9223372036854775808):IntKind.i64.wrap n=n:=by
 have e:IntKind.i64.wrap n=if n % 18446744073709551616>=9223372036854775808 then n % 18446744073709551616 - 18446744073709551616 else n % 18446744073709551616:=by unfold IntKind.wrap;simp [IntKind.bits,IntKind.signed]
 rw [e];split<;>omega
def Mp (k:IntKind) (c:Cell) (n:Int) (lit:Bool):V1:=match lit with
 | true=>.c (.il k (k.wrap n))
 | false=>match k with
   | .u64=>.c (.ir .u64 (IntKind.u64.wrap n) 0 18446744073709551616 (Q2 n))
   | .i64=>match c with
     | .ir _ m lo hi h=>match decide (0<=lo /\ hi<=9223372036854775808) with
       | true=>.c (.ir .i64 m lo hi h)
       | false=>.c (.it .i64 (IntKind.i64.wrap n))
     | _=>.c (.it .i64 (IntKind.i64.wrap n))
   | k=>.c (.it k (k.wrap n))
def akY (x off:Nat):Nat:=@Nat.rec (fun _=>Nat) x (fun _ ih=>ih.succ) off
theorem offN_eq (x:Nat):∀off,akY x off=x+off
 | 0=>rfl
 | n+1=>congrArg Nat.succ (offN_eq x n)
def one (t:Option V1) (why:String):T SV:=match t with | some x=>.aE (.v x) | none=>.fail why
def QI (s:ByteArray) (l h:Nat):ByteArray:=⟨((s.data.toList.take h).drop l).toArray⟩
def ahW:SV->Option (Int×Bool)
 | .v (.c c)=>match oy c with
   | some (_,n,k)=>some (n,k)
   | none=>none
 | _=>none
def Cf (ev:Operand->Option SV) (d:Int):Option Operand->Option (Int×Bool)
 | none=>some (d,true)
 | some x=>match ev x with
   | some v=>ahW v
   | none=>none
def txO (ev:Operand->Option SV):Op->Bool
 | .slice _ x _ _ mx=>match mx with
   | some _=>false
   | none=>match ev x with
     | some (.v (.c c))=>cJ (KB c)
     | _=>false
 | _=>false
def ahS (ev:Operand->Option SV) (t:TypeId) (x:Operand) (lo hi:Option Operand):T SV:=match N.tt.get t,ev x with
 | some ⟨.Nq,_,_,_⟩,some (.v (.c c))=>match KB c with
   | some (s,ks)=>match Cf ev 0 lo,Cf ev (lF s) hi with
     | some (l,k),some (h,k')=>.aJ (decide (0<=l /\ l<=h /\ h<=(lF s:Int))) (.aE (.v (mkS (QI s l.toNat h.toNat) (Fk ks (Fk k k')))))
     | _,_=>.fail "slice: text"
   | none=>.fail "slice: text"
 | _,_=>.fail "slice: text"
def uk (ev:Operand->Option SV):Op->Option (T SV)
 | .move x=>some (match ev x with | some v=>.aE v | none=>.fail "move")
 | .assign x=>some (match ev x with | some v=>.aE v | none=>.fail "assign")
 | .pick c a b=>some (match ev c,ev a,ev b with
   | some (.v (.c c)),some x,some y=>match kX c with
     | some (t,true)=>match t with | true=>.aE x | false=>.aE y
     | some (t,false)=>.ite t (.aE x) (.aE y)
     | none=>.fail "pick"
   | _,_,_=>.fail "pick")
 | .build t parts=>some (match N.tt.get t,zh ev parts.toList with
   | some ⟨.struct fs,_,some z,_⟩,some ps=>match HD fs z ps with
     | some l=>.aE (.v (.agg l))
     | none=>.fail "build"
   | some ⟨.fW _ Gc _,_,some z,_⟩,some ps=>match xe Gc z ps with
     | some l=>.aE (.v (.agg l))
     | none=>.fail "build"
   | _,_=>.fail "build")
 | .nilCheck x=>some (match ev x with
   | some (.v (.c (.ptr n off)))=>.aE (.v (.c (.ptr n off)))
   | some (.v (.c (.CV n i e off)))=>.aE (.v (.c (.CV n i e off)))
   | some (.v (.c (.wZ t c)))=>.aE (.v (.c (.wZ t c)))
   | some (.v (.c (.fn f)))=>.aE (.v (.c (.fn f)))
   | some (.wJ f l)=>.aE (.wJ f l)
   | _=>.fail "nilCheck")
 | .makeFunc fn first captured=>some (match fn,first.toList,Gb ev captured.toList with
   | .func f,[],some l=>match JR l with
     | some cs=>.aE (.wJ f cs)
     | none=>.fail "makeFunc"
   | _,_,_=>.fail "makeFunc")
 | .fieldAddr t x i=>some (match ev x,ze N t with
   | some (.v (.c (.ptr n off))),some fs=>match yc fs i with
     | some f=>match Nat.beq f.size 0 with
       | false=>.aE (.v (.c (.ptr n (off+f.off))))
       | true=>.fail "fieldAddr"
     | none=>.fail "fieldAddr"
   | some (.v (.c (.CV n k e off))),some fs=>match yc fs i with
     | some f=>match Nat.beq f.size 0 with
       | false=>.aE (.v (.c (.CV n k e (off+f.off))))
       | true=>.fail "fieldAddr"
     | none=>.fail "fieldAddr"
   | _,_=>.fail "fieldAddr")
 | .field t x i=>some (match ev x,ze N t with
   | some (.v (.agg l)),some fs=>match yc fs i with
     | some f=>one (uu f.agg f.size l f.off) "field"
     | none=>.fail "field"
   | _,_=>.fail "field")
 | .binOp op t x y _=>some (match ev x,ev y with
   | some (.v a),some (.v b)=>match vO op with
     | true=>(U5 op a b).map .v
     | false=>(bin N op t (match sB x with | true=>true | false=>sB y) a b).map .v
   | _,_=>.fail "binOp")
 | .unOp .not _ x=>some (match ev x with
   | some (.v (.c c))=>match kX c with
     | some (b,k)=>.aE (.v (P0 (!b) k))
     | none=>.fail "not"
   | _=>.fail "not")
 | .unOp .neg _ x=>some (match ev x with
   | some (.v (.c c))=>match oy c with
     | some (k,n,l)=>.aE (.v (J4 k (k.wrap (0 - n)) l))
     | none=>.fail "neg"
   | _=>.fail "neg")
 | .slice t x lo hi mx=>match txO ev (.slice t x lo hi mx) with
   | true=>some (ahS N ev t x lo hi)
   | false=>none
 | .extract x i=>some (match ev x with
   | some (.ji l)=>match yc l i with | some v=>.aE (.v v) | none=>.fail "extract"
   | _=>.fail "extract")
 | .makeInterface t x=>some (match ev x,N.tt.get t with
   | some (.v (.c c)),some ⟨k,_,_,_⟩=>match k with
     | .iface=>.fail "makeInterface"
     | _=>.aE (.v (.c (.wZ t c)))
   | _,_=>.fail "makeInterface")
 | .indexAddr t x i=>some (match ev x,ev i,N.tt.get t with
   | some (.v (.c (.ptr n off))),some (.v (.c (.il _ k))),some ⟨.fW len sz _,_,_,_⟩=>match decide (0<=k /\ k < len) with
     | true=>.aE (.v (.c (.ptr n (off+k.toNat * sz))))
     | false=>.fail "indexAddr"
   | some (.v (.c (.CV n k0 e off))),some (.v (.c (.il _ k))),some ⟨.fW len sz _,_,_,_⟩=>match decide (0<=k /\ k < len) with
     | true=>.aE (.v (.c (.CV n k0 e (off+k.toNat * sz))))
     | false=>.fail "indexAddr"
   | some (.v (.c (.sl n o len _))),some (.v (.c (.il _ k))),some ⟨.slice sz,_,_,_⟩=>match decide (0<=k /\ k < len) with
     | true=>.aE (.v (.c (.ptr n (o+k.toNat * sz))))
     | false=>.fail "indexAddr"
   | some (.v (.c (.vs n o len es kn))),some (.v (.c ix)),some ⟨.slice sz,_,_,_⟩=>match Nat.beq es sz with
     | true=>match oy ix with
       | some (_,k,lit)=>xK (Fk lit kn) (decide (0<=k /\ k < len)) (.v (.c (.CV n (o+k.toNat) sz 0)))
       | none=>.fail "indexAddr"
     | false=>.fail "indexAddr"
   | some (.v (.c (.ptr n off))),some (.v (.c ix)),some ⟨.fW len sz _,_,_,_⟩=>match oy ix,Nat.ble len 16 with
     | some (_,k,_),true=>(XQ N.orc k len).map fun j=>.v (.c (.ptr n (off+j * sz)))
     | _,_=>.fail "indexAddr"
   | some (.v (.c (.CV n k0 e off))),some (.v (.c ix)),some ⟨.fW len sz _,_,_,_⟩=>match oy ix with
     | some (_,k,_)=>.aJ (decide (0<=k /\ k < len)) (.aE (.v (.c (.CV n k0 e (akY (k.toNat * sz) off)))))
     | none=>.fail "indexAddr"
   | _,_,_=>.fail "indexAddr")
 | .convert rq dst x=>some (match ev x,N.tt.get rq,N.tt.get dst with
   | some (.v (.c c)),some _,some ⟨.int k,_,_,_⟩=>match oy c with
     | some (_,n,lit)=>.aE (.v (Mp k c n lit))
     | none=>.fail "convert"
   | _,_,_=>.fail "convert")
 | .index t x i=>some (match ev x,ev i,N.tt.get t with
   | some (.v (.c (.st s))),some (.v (.c ix)),some ⟨.Nq,_,_,_⟩=>match oy ix with
     | some (_,n,lit)=>(xK lit (decide (0<=n /\ n < (s.data.toList.length:Int))) (J4 .u8 (Ie s n) lit)).map .v
     | none=>.fail "index"
   | some (.v (.c (.sv s))),some (.v (.c ix)),some ⟨.Nq,_,_,_⟩=>match oy ix with
     | some (_,n,_)=>(xK false (decide (0<=n /\ n < (s.data.toList.length:Int))) (.c (.it .u8 (Ie s n)))).map .v
     | none=>.fail "index"
   | some (.v (.agg l)),some (.v (.c (.il _ k))),some ⟨.fW len sz ag,_,_,_⟩=>match decide (0<=k /\ k < len) with
     | true=>one (uu ag sz l (k.toNat * sz)) "index"
     | false=>.fail "index"
   | _,_,_=>.fail "index")
 | .call c=>match c.callee with
   | .builtin .len=>some (match c.args.toList,c.argTypes.toList with
     | [x],[t]=>match ev x,N.tt.get t with
       | some (.v (.c (.sl _ _ len _))),some ⟨.slice _,_,_,_⟩=>.aE (.v (.c (.il .i64 len)))
       | some (.v (.c .dq)),some ⟨.slice _,_,_,_⟩=>.aE (.v (.c (.il .i64 0)))
       | some (.v (.c (.sx _ _))),some ⟨.slice _,_,_,_⟩=>.aE (.v (.c (.il .i64 0)))
       | some (.v (.c (.sf _ _ _ _ _ _))),some ⟨.slice _,_,_,_⟩=>.aE (.v (.c (.il .i64 0)))
       | some (.v (.c (.vs _ _ len _ kn))),some ⟨.slice _,_,_,_⟩=>.aE (.v (J4 .i64 len kn))
       | some (.v (.c (.st s))),some ⟨.Nq,_,_,_⟩=>.aE (.v (.c (.il .i64 (lF s))))
       | some (.v (.c (.sv s))),some ⟨.Nq,_,_,_⟩=>.aE (.v (.c (.it .i64 (lF s))))
       | _,_=>.fail "len"
     | _,_=>.fail "len")
   | _=>none
 | _=>none
def afU (t:TypeId) (a:AV) (idx es off:Nat):Option (T SV):=match N.tt.get t with
 | some i=>match N.F.J3 a idx es off i.size with
   | some (b,l)=>some (.aJ b (one (uu (uL i.kd) i.size l 0) "load: range"))
   | none=>none
 | none=>none
def Ea (t:TypeId) (H:Hp AV):SV->T SV
 | .v (.c (.ptr n off))=>match ae H n with
   | some (.cells l _)=>one (rF N t l off) "load: range"
   | some (.bI a)=>match N.F.word a with
     | some l=>one (rF N t l off) "load: range"
     | none=>.fail "load: no chunk"
   | _=>.fail "load: no chunk"
 | .v (.c (.CV n idx es off))=>match ae H n with
   | some (.bI a)=>match afU N t a idx es off with
     | some t=>t
     | none=>match N.F.row a idx es with
       | some (b,l)=>.aJ b (one (rF N t l off) "load: range")
       | none=>.fail "load: row"
   | some (.kD l _ _)=>one (rF N t l (idx * es+off)) "load: range"
   | _=>.fail "load: no chunk"
 | _=>.fail "load: no pointer"
def jY (E:Ev) (dst:Option Nat) (v:SV):Ev:=match dst with | some d=>(d,v)::E | none=>E
def gf (H:Hp AV):Option (Nat×aG AV)->Hp AV
 | none=>H
 | some (n,c)=>cV H n (some c)
inductive Tgt where
 | fn (f:FuncId) | op (o:Op)
abbrev Callee (AV:Type):=Tgt->List SV->Hp AV->T (SV×Hp AV)
def uD:List V1->List Nat
 | []=>[]
 | x::r=>eG x.cells++uD r
def mu:SV->List Nat
 | .v x=>eG x.cells
 | .ji l=>uD l
 | .lE=>[]
 | .wJ _ l=>eG l
def iw:List SV->List Nat
 | []=>[]
 | x::r=>mu x++iw r
def nD:List Nat->Nat->Bool
 | [],_=>false
 | x::r,n=>match Nat.beq x n with | true=>true | false=>nD r n
def km (H:Hp AV):Nat->List Nat->List Nat->List Nat
 | 0,_,acc=>acc
 | _+1,[],acc=>acc
 | f+1,n::r,acc=>match nD acc n with
   | true=>km H f r acc
   | false=>match ae H n with
     | some (.cells l _)=>km H f (eG l++r) (n::acc)
     | some (.kD l _ _)=>km H f (eG l++r) (n::acc)
     | _=>km H f r (n::acc)
def sO:List Nat->Nat
 | []=>0
 | n::r=>Nat.lor (Nat.shiftLeft 1 n) (sO r)
def hZ (R:List Nat) (n:Nat):Bool:=match Nat.land (Nat.shiftRight (sO R) n) 1 with
 | 0=>false
 | _+1=>true
def jD (R:List Nat):Nat->Hp AV->Hp AV
 | _,[]=>[]
 | i,x::r=>(match hZ R i with | true=>x | false=>none)::jD R (i+1) r
def di (R:List Nat):Nat->Hp AV->Hp AV->Hp AV
 | _,[],b=>b
 | _,a,[]=>a
 | i,none::r,_::q=>none::di R (i+1) r q
 | i,some x::r,y::q=>(match hZ R i with | true=>y | false=>some x)::di R (i+1) r q
def wW:Hp AV->Hp AV->Bool
 | [],_=>true
 | none::r,none::q=>wW r q
 | some _::r,some _::q=>wW r q
 | _,_=>false
def xf (cP:Callee AV) (gn:List Nat) (f:Tgt) (args:List SV) (H:Hp AV):T (SV×Hp AV) :=
 match jD (km H 400 (iw args++gn) []) 0 H with
 | A=>match Bc A args with
   | false=>.fail "call: arguments"
   | true=>match p6 A A with
     | false=>.fail "call: heap"
     | true=>(cP f args A).bind fun r=>match wW A r.2 with
       | false=>.fail "call: lost"
       | true=>.aE (r.1,di (km H 400 (iw args++gn) []) 0 H r.2)
def xL:Tgt->List Nat
 | .fn f=>match N.gu.get f with | some l=>l | none=>[]
 | .op _=>[]
abbrev Arr:=List Cell×Nat×TypeId×Nat
def N8 (t:TypeId) (a b:Option SV):Option Arr :=
 match N.sl.get t,a,b with
 | some si,some (.v (.c (.il _ n))),some (.v (.c (.il _ c)))=>match decide (0<=n /\ n<=c /\ c.toNat * (si.bytes+1)<=qU) with
   | true=>some (kg si.zero c.toNat,si.size,si.e,n.toNat)
   | false=>none
 | _,_,_=>none
def Jk (t:TypeId) (len:Nat) (ps:Option (List (Nat×V1))):Option Arr :=
 match N.sl.get t,ps with
 | some si,some ps=>match xe si.size (kg si.zero len) ps,Nat.ble (len * si.size) 16777216 with
   | some l,true=>some (l,si.size,si.e,len)
   | _,_=>none
 | _,_=>none
def ov (nm:Nat) (H:Hp AV):Option Arr->T (SV×Option (Nat×aG AV))
 | some (l,es,e,len)=>match ae H nm,Nat.blt nm H.length,Nat.blt nm N.G with
   | none,true,false=>.aE (.v (.c (.vs nm 0 len es true)),some (nm,.kD l es e))
   | _,_,_=>.fail "make"
 | none=>.fail "make"
def N7 (t:TypeId) (a b:Option SV):Option (Bool×AV×Nat×Nat) :=
 match N.sl.get t,a,b with
 | some si,some (.v (.c x)),some (.v (.c y))=>match oy x,oy y with
   | some (_,n,_),some (_,c,_)=>match N.F.Zq si.zero si.size si.e n.toNat with
     | some a=>some (decide (0<=n /\ n=c /\ n.toNat * (si.bytes+1)<=qU),a,si.size,n.toNat)
     | none=>none
   | _,_=>none
 | _,_,_=>none
def uH (nm:Nat) (H:Hp AV):Option (Bool×AV×Nat×Nat)->T (SV×Option (Nat×aG AV))
 | some (b,a,es,len)=>match ae H nm,Nat.blt nm H.length,Nat.blt nm N.G with
   | none,true,false=>.aJ b (.aE (.v (.c (.vs nm 0 len es false)),some (nm,.bI a)))
   | _,_,_=>.fail "make"
 | none=>.fail "make"
def y5 (nm:Nat) (H:Hp AV) (k:Option Arr) (z:Option (Bool×AV×Nat×Nat)):T (SV×Option (Nat×aG AV)):=match k with
 | some a=>ov N nm H (some a)
 | none=>uH N nm H z
def Cg (ev:Operand->Option SV) (d:Nat):Option Operand->Option Nat
 | none=>some d
 | some x=>match ev x with
   | some (.v (.c (.il _ n)))=>match decide (0<=n) with | true=>some n.toNat | false=>none
   | _=>none
structure SPt where
 t:TypeId
 n:Nat
 o:Nat
 es:Nat
 len:Nat
 l:Nat
 h:Nat
def Bx (ev:Operand->Option SV):Op->Option SPt
 | .slice t x lo hi mx=>match mx with
   | some _=>none
   | none=>match ev x with
     | some (.v (.c (.vs n o len es true)))=>match Cg ev 0 lo,Cg ev len hi with
       | some l,some h=>match Nat.blt l h,Nat.ble h len with
         | true,true=>some ⟨t,n,o,es,len,l,h⟩
         | _,_=>none
       | _,_=>none
     | _=>none
 | _=>none
def CE (H:Hp AV) (p:SPt):T (SV×Option (Nat×aG AV)):=match N.sl.get p.t,ae H p.n with
 | some si,some (.kD lst es2 _)=>match Nat.beq p.es si.size,Nat.beq p.es es2,Nat.ble ((p.o+p.len) * p.es) lst.length with
   | true,true,true=>.aE (.v (.c (.vs p.n (p.o+p.l) (p.h - p.l) p.es true)),none)
   | _,_,_=>.fail "slice"
 | _,_=>.fail "slice"
def kP (nm:Nat) (ev:Operand->Option SV) (H:Hp AV) (o:Op):T (SV×Option (Nat×aG AV)) :=
 match uk N ev o with
 | some t=>t.map fun v=>(v,none)
 | none=>match o with
   | .alloc t=>match N.tt.get t,ae H nm,Nat.blt nm H.length,Nat.blt nm N.G with
     | some ⟨_,_,some z,_⟩,none,true,false=>.aE (.v (.c (.ptr nm 0)),some (nm,.cells z t))
     | _,_,_,_=>.fail "alloc"
   | .box t x=>match ev x,ae H nm,Nat.blt nm H.length,Nat.blt nm N.G with
     | some (.v v),none,true,false=>.aE (.v (.c (.ptr nm 0)),some (nm,.cells v.cells t))
     | _,_,_,_=>.fail "box"
   | .load t a=>match ev a with
     | some v=>(Ea N t H v).map fun v=>(v,none)
     | none=>.fail "load"
   | .store t a x=>match ev a,ev x with
     | some (.v (.c (.ptr n off))),some (.v v)=>match ae H n,N.tt.get t with
       | some (.cells l ty),some i=>match Nat.beq i.size v.cells.length with
         | true=>match l6 l off v.cells with
           | some l'=>.aE (dQ,some (n,.cells l' ty))
           | none=>.fail "store: range"
         | false=>.fail "store: size"
       | _,_=>.fail "store: no chunk"
     | some (.v (.c (.CV n idx es off))),some (.v v)=>match ae H n,N.tt.get t with
       | some (.kD l ve ty),some i=>match Nat.beq i.size v.cells.length with
         | true=>match Nat.beq i.size 0 with
           | true=>.fail "store: size"
           | false=>match l6 l (idx * es+off) v.cells with
             | some l'=>.aE (dQ,some (n,.kD l' ve ty))
             | none=>.fail "store: range"
         | false=>.fail "store: size"
       | some (.bI a),some i=>match Nat.beq i.size v.cells.length with
         | true=>match N.F.wz a idx es off v.cells with
           | some (b,a')=>.aJ b (.aE (dQ,some (n,.bI a')))
           | none=>.fail "store: upd"
         | false=>.fail "store: size"
       | _,_=>.fail "store: no chunk"
     | _,_=>.fail "store: no pointer"
   | .makeSlice t x y=>y5 N nm H (N8 N t (ev x) (ev y)) (N7 N t (ev x) (ev y))
   | .buildSlice t len parts=>ov N nm H (Jk N t len (zh ev parts.toList))
   | .slice t x lo hi mx=>match Bx ev (.slice t x lo hi mx) with
     | some p=>CE N H p
     | none=>.fail "op"
   | _=>.fail "op"
def aep:Op->Bool
 | .slice _ _ _ _ _=>true
 | .makeMap _ _=>true
 | .lookup _ _ _ _=>true
 | .mapUpdate _ _ _ _=>true
 | .call c=>match c.callee with
   | .builtin .append=>true
   | .builtin .copy=>true
   | .builtin .delete=>true
   | .builtin .clear=>true
   | .builtin .min=>true
   | .builtin .max=>true
   | _=>false
 | _=>false
def slC:Cell->Bool
 | .vs _ _ _ _ _=>true
 | .dq=>true
 | .sx _ _=>true
 | .sf _ _ _ _ _ _=>true
 | _=>false
def mpC:Cell->Bool
 | .mp _=>true
 | _=>false
def aeI (f:Cell->Bool):Option SV->Bool
 | some (.v (.c c))=>f c
 | _=>false
def Ew (ev:Operand->Option SV) (o:Op):Bool:=match aep o with
 | true=>match Bx ev o with
   | some _=>false
   | none=>(match txO ev o with | true=>false | false=>true)
 | false=>match o with
   | .convert _ _ x=>aeI slC (ev x)
   | .call c=>match c.callee with
     | .builtin .len=>match c.args.toList with
       | [x]=>aeI mpC (ev x)
       | _=>false
     | _=>false
   | _=>false
def qB (ev:Operand->Option SV) (o:Op):Option (Option (Tgt×List SV)) :=
 match Ew ev o with
 | true=>some (match Gb ev o.operands.toList with
   | some l=>some (.op o,l)
   | none=>none)
 | false=>match o with
   | .call c=>match c.callee with
     | .value f=>some (match ev f,Gb ev c.args.toList with
       | some (.v (.c (.fn g))),some l=>match N.ft.get g with
         | some _=>some (.fn g,l)
         | none=>none
       | some (.wJ g cs),some l=>match N.ft.get g with
         | some _=>some (.fn g,l++svs cs)
         | none=>none
       | _,_=>none)
     | .invoke r m=>some (match ev r,Gb ev c.args.toList with
       | some (.v (.c (.wZ t x))),some l=>match N.mt t m with
         | some g=>match N.ft.get g with
           | some _=>some (.fn g,.v (.c x)::l)
           | none=>none
         | none=>none
       | _,_=>none)
     | _=>none
   | _=>none
inductive QZ where
 | yes | no | cond (b:Bool)
def QZ.ok:QZ->Bool
 | .yes=>true
 | .no=>false
 | .cond b=>b
inductive qC where
 | pure | rd (n:Nat) | wr (n:Nat) | call (R:List Nat) (U:Nat->QZ)
def m7 (l:List Cell) (t:TypeId) (l':List Cell) (t':TypeId):Bool:=@decide (l=l' /\ t=t') (Classical.propDecidable _)
def ad1:Option (aG AV)->Option (aG AV)->QZ
 | some (.bI a),some (.bI b)=>match N.F.wB a b with | true=>.yes | false=>.no
 | some (.cells l t),some (.cells l' t')=>.cond (m7 l t l' t')
 | _,_=>.no
def Ej (R:List Nat) (H H':Hp AV) (n:Nat):QZ:=match hZ R n with
 | true=>ad1 N (ae H n) (ae H' n)
 | false=>.no
def ga (nm:Nat) (ev:Operand->Option SV) (H H':Hp AV) (o:Op):qC :=
 match qB N ev o with
 | some (some (g,l))=>.call (km H 400 (iw l++xL N g) []) (Ej N (km H 400 (iw l++xL N g) []) H H')
 | some none=>.pure
 | none=>match o with
   | .alloc _=>.wr nm
   | .box _ _=>.wr nm
   | .makeSlice _ _ _=>.wr nm
   | .buildSlice _ _ _=>.wr nm
   | .load _ a=>match ev a with
     | some (.v (.c (.ptr n _)))=>.rd n
     | some (.v (.c (.CV n _ _ _)))=>.rd n
     | _=>.pure
   | .store _ a _=>match ev a with
     | some (.v (.c (.ptr n _)))=>.wr n
     | some (.v (.c (.CV n _ _ _)))=>.wr n
     | _=>.pure
   | .slice t x lo hi mx=>match Bx ev (.slice t x lo hi mx) with
     | some p=>.rd p.n
     | none=>.pure
   | _=>.pure
def m4 (cP:Callee AV) (nm:Nat) (o:Oper) (s:St AV):T (St AV) :=
 match qB N (qP N.G s.H s.E) o.op with
 | some (some (g,l))=>(xf cP (xL N g) g l s.H).bind fun r=>.aE {E:=jY s.E o.dst r.1,H:=r.2}
 | some none=>.fail "call"
 | none=>(kP N nm (qP N.G s.H s.E) s.H o.op).bind fun r=>.aE {E:=jY s.E o.dst r.1,H:=gf s.H r.2}
def D2:Op->Bool
 | .alloc _=>true
 | .box _ _=>true
 | .makeSlice _ _ _=>true
 | .buildSlice _ _ _=>true
 | _=>false
def fv:List Oper->Nat
 | []=>0
 | o::r=>match D2 o.op with | true=>fv r+1 | false=>fv r
def oG:List Oper->Nat->Nat->Nat
 | [],b,_=>b
 | _,b,0=>b
 | o::r,b,i+1=>match D2 o.op with | true=>oG r (b+1) i | false=>oG r b i
def kr (AV:Type):Nat->Hp AV
 | 0=>[]
 | n+1=>none::kr AV n
def Hy (H:Hp AV) (k:Nat):Hp AV:=match k with
 | 0=>H
 | k+1=>H++kr AV (k+1)
theorem growH_eq (H:Hp AV) (k:Nat):Hy H k=H++kr AV k:=by
 cases k with
 | zero=>simp [Hy,kr]
 | succ k=>rfl
def iu (all:List Oper) (o:Oper) (E:Ev):Option (Bool×Bool) :=
 match o.guard with
 | none=>some (true,true)
 | some (j,want)=>match yc all j with
   | some oj=>match oj.dst with
     | some d=>match aF E d with
       | .lE=>none
       | .v (.c c)=>match kX c with
         | some (b,k)=>some (b==want,k)
         | none=>some (false,true)
       | _=>some (false,true)
     | none=>some (false,true)
   | none=>some (false,true)
def mT (cP:Callee AV) (base:Nat) (all:List Oper) (i:Nat) (o:Oper) (s:St AV):T (St AV×qC) :=
 match iu all o s.E with
 | none=>.fail "guard"
 | some (b,true)=>match b with
   | true=>(m4 N cP (oG all base i) o s).map fun s'=>(s',ga N (oG all base i) (qP N.G s.H s.E) s.H s'.H o.op)
   | false=>.aE ({s with E:=jY s.E o.dst dQ},.pure)
 | some (b,false)=>.ite b ((m4 N cP (oG all base i) o s).map fun s'=>(s',ga N (oG all base i) (qP N.G s.H s.E) s.H s'.H o.op)) (.aE ({s with E:=jY s.E o.dst dQ},.pure))
def oW (cP:Callee AV) (base:Nat) (all:List Oper):Nat->List Oper->St AV->T (St AV)
 | _,[],s=>.aE s
 | i,o::r,s=>(mT N cP base all i o s).bind fun x=>oW cP base all (i+1) r x.1
def ek:qC->qC->Bool
 | .pure,_=>true
 | _,.pure=>true
 | .rd _,.rd _=>true
 | .rd n,.wr m=>!Nat.beq n m
 | .wr n,.rd m=>!Nat.beq n m
 | .wr n,.wr m=>!Nat.beq n m
 | .rd n,.call R U=>match hZ R n with | true=>(U n).ok | false=>true
 | .wr n,.call R _=>!hZ R n
 | .call R U,.rd n=>match hZ R n with | true=>(U n).ok | false=>true
 | .call R _,.wr n=>!hZ R n
 | .call _ _,.call _ _=>false
def qx:List Edge->Nat->Bool
 | [],_=>false
 | e::r,i=>match Region.binds .any e with
   | true=>match Nat.beq e.on i with | true=>true | false=>qx r i
   | false=>qx r i
def Tk (rec:Nat->Bool):List Edge->Bool
 | []=>false
 | e::r=>match Region.binds .any e with
   | true=>match rec e.on with | true=>true | false=>Tk rec r
   | false=>Tk rec r
def qv (all:List Oper):Nat->Nat->Nat->Bool
 | 0,_,_=>false
 | f+1,j,i=>match yc all j with
   | none=>false
   | some o=>match qx o.after.toList i with
     | true=>true
     | false=>Tk (fun k=>qv all f k i) o.after.toList
def D9 (all:List Oper) (j:Nat) (en:qC):List (Nat×qC)->Bool
 | []=>true
 | (i,x)::r=>match ek x en with
   | true=>D9 all j en r
   | false=>match qv all 12 j i with
     | true=>D9 all j en r
     | false=>false
def pa:qC->qC->QZ
 | .rd n,.call R U=>match hZ R n with | true=>U n | false=>.yes
 | .call R U,.rd n=>match hZ R n with | true=>U n | false=>.yes
 | a,b=>match ek a b with | true=>.yes | false=>.no
def N9 (all:List Oper) (j:Nat) (en:qC):List (Nat×qC)->Option (List Bool)
 | []=>some []
 | (i,x)::r=>match pa x en with
   | .yes=>N9 all j en r
   | .no=>match qv all 12 j i with
     | true=>N9 all j en r
     | false=>none
   | .cond b=>match qv all 12 j i with
     | true=>N9 all j en r
     | false=>match N9 all j en r with
       | some l=>some (b::l)
       | none=>none
def Wn {α:Type}:List Bool->T α->T α
 | [],t=>t
 | b::r,t=>.aJ b (Wn r t)
def nG (i:Nat):List Edge->Bool
 | []=>true
 | e::r=>match Region.binds .any e with
   | true=>match Nat.blt e.on i with | true=>nG i r | false=>false
   | false=>nG i r
def pw (bZ:Array Oper) (j:Nat) (oj:Oper):Nat->List Oper->Bool
 | _,[]=>true
 | i,oi::r=>match Nat.blt i j with
   | false=>true
   | true=>match qx oj.after.toList i with
     | true=>pw bZ j oj (i+1) r
     | false=>match oi.apart bZ oj with | true=>pw bZ j oj (i+1) r | false=>false
def rV (bZ:Array Oper) (all:List Oper):Nat->List Oper->Bool
 | _,[]=>true
 | j,oj::r=>match pw bZ j oj 0 all with | true=>rV bZ all (j+1) r | false=>false
def mh (cP:Callee AV) (base:Nat) (all:List Oper):Nat->List Oper->List (Nat×qC)->St AV->T (St AV)
 | _,[],_,s=>.aE s
 | i,o::r,log,s=>match nG i o.after.toList with
   | false=>.fail "an edge upwards"
   | true=>(mT N cP base all i o s).bind fun x=>match D9 all i x.2 log with
     | true=>mh cP base all (i+1) r ((i,x.2)::log) x.1
     | false=>.fail "the order matters"
abbrev It:=List (Nat×Bool)
def uG:It->Nat->Option Bool
 | [],_=>none
 | (k,b)::r,n=>match Nat.beq k n with | true=>some b | false=>uG r n
def HV:It->Nat->It
 | [],_=>[]
 | (k,b)::r,n=>match Nat.beq k n with | true=>HV r n | false=>(k,b)::HV r n
def BL (A:It):Option Nat->It
 | none=>A
 | some d=>HV A d
def ahs (all:List Oper) (o:Oper):Option (Nat×Bool) :=
 match o.guard with
 | none=>none
 | some (j,want)=>match yc all j with
   | none=>none
   | some oj=>match oj.dst with
     | none=>none
     | some d=>some (d,want)
def adM (A:It) (ev:Operand->Option SV):Op->Option (T SV)
 | .pick (.tmp t) a b=>match uG A t with
   | none=>none
   | some x=>some (match ev (.tmp t),ev a,ev b with
     | some (.v (.c c)),some p,some q=>match kX c with
       | some _=>match x with | true=>.aE p | false=>.aE q
       | none=>.fail "pick"
     | _,_,_=>.fail "pick")
 | _=>none
def HO (cP:Callee AV) (base:Nat) (all:List Oper) (i:Nat) (o:Oper) (A B:It) (s:St AV):T (St AV×qC×It) :=
 match adM A (qP N.G s.H s.E) o.op with
 | some t=>t.map fun v=>({s with E:=jY s.E o.dst v},.pure,BL B o.dst)
 | none=>(m4 N cP (oG all base i) o s).map fun s'=>(s',ga N (oG all base i) (qP N.G s.H s.E) s.H s'.H o.op,BL B o.dst)
def IK (cP:Callee AV) (base:Nat) (all:List Oper) (i:Nat) (o:Oper) (A:It) (s:St AV):T (St AV×qC×It) :=
 match iu all o s.E with
 | none=>.fail "guard"
 | some (b,true)=>match b with
   | true=>HO N cP base all i o A A s
   | false=>.aE ({s with E:=jY s.E o.dst dQ},.pure,BL A o.dst)
 | some (b,false)=>match ahs all o with
   | none=>.fail "guard"
   | some (d,want)=>match uG A d with
     | some x=>match x==want with
       | true=>HO N cP base all i o A A s
       | false=>.aE ({s with E:=jY s.E o.dst dQ},.pure,BL A o.dst)
     | none=>.ite b (HO N cP base all i o A ((d,want)::A) s) (.aE ({s with E:=jY s.E o.dst dQ},.pure,BL ((d,!want)::A) o.dst))
def apL:qC->Bool
 | .pure=>true
 | .rd _=>true
 | .wr _=>false
 | .call [] _=>true
 | .call (_::_) _=>false
def z7 (q:Bool) (en:qC) (H H':Hp AV):Bool :=
 match q with
 | false=>false
 | true=>match en with
   | .pure=>true
   | .rd _=>true
   | .wr _=>false
   | .call [] _=>Nat.beq H.length H'.length
   | .call (_::_) _=>false
def tX (cP:Callee AV) (base:Nat) (all:List Oper):Nat->List Oper->It->Bool->St AV->T (St AV×Bool)
 | _,[],_,q,s=>.aE (s,q)
 | i,o::r,A,q,s=>(IK N cP base all i o A s).bind fun x=>tX cP base all (i+1) r x.2.2 (z7 q x.2.1 s.H x.1.H) x.1
def rh (cP:Callee AV) (base:Nat) (all:List Oper):Nat->List Oper->List (Nat×qC)->It->Bool->St AV->T (St AV×Bool)
 | _,[],_,_,q,s=>.aE (s,q)
 | i,o::r,log,A,q,s=>match nG i o.after.toList with
   | false=>.fail "an edge upwards"
   | true=>(IK N cP base all i o A s).bind fun x=>match N9 all i x.2.1 log with
     | some l=>Wn l (rh cP base all (i+1) r ((i,x.2.1)::log) x.2.2 (z7 q x.2.1 s.H x.1.H) x.1)
     | none=>.fail "the order matters"
def Qg (b:Bool) (x y:Cell):Option Cell :=
 match kX x,kX y with
 | some (p,kp),some (q,kq)=>match Fk (Fk kp kq) (p==q) with
   | true=>some (.bl p)
   | false=>some (.bt (match b with | true=>p | false=>q))
 | _,_=>match oy x,oy y with
   | some (k,p,_),some (k',q,_)=>match decide (k=k') with
     | true=>some (.it k (match b with | true=>p | false=>q))
     | false=>none
   | _,_=>none
def Ep (b:Bool):List Cell->List Cell->Option (List Cell)
 | [],[]=>some []
 | x::xs,y::ys=>match Qg b x y with
   | some c=>match Ep b xs ys with | some l=>some (c::l) | none=>none
   | none=>none
 | _,_=>none
def sZ (b:Bool):SV->SV->SV
 | .v (.c x),.v (.c y)=>match Qg b x y with | some c=>.v (.c c) | none=>.lE
 | .v (.agg x),.v (.agg y)=>match Ep b x y with | some l=>.v (.agg l) | none=>.lE
 | _,_=>.lE
def uK (b:Bool):Ev->Ev->Option Ev
 | [],[]=>some []
 | (k,v)::r,(k',u)::q=>match Nat.beq k k' with
   | true=>match uK b r q with
     | some z=>some ((k,sZ b v u)::z)
     | none=>none
   | false=>none
 | _,_=>none
def O3 (n:Option Bool):Option Ev->Option (Option Bool×Ev)
 | some z=>some (n,z)
 | none=>none
def EC:Nat->Ev->Ev
 | 0,_=>[]
 | _+1,[]=>[]
 | n+1,x::r=>x::EC n r
def rN (E:Ev):T (St AV×Bool)->Option (Option Bool×Ev)
 | .aE s=>match s.2 with
   | true=>some (none,EC (s.1.E.length - E.length) s.1.E)
   | false=>none
 | .aJ b t=>match rN E t with
   | some (none,W)=>some (some b,W)
   | some (some n,W)=>some (some (match b with | true=>n | false=>false),W)
   | none=>none
 | .ite b t e=>match rN E t,rN E e with
   | some (none,W),some (none,X)=>O3 none (uK b W X)
   | some (some n,W),some (none,X)=>O3 (some (match b with | true=>n | false=>true)) (uK b W X)
   | some (none,W),some (some m,X)=>O3 (some (match b with | true=>true | false=>m)) (uK b W X)
   | some (some n,W),some (some m,X)=>O3 (some (match b with | true=>n | false=>m)) (uK b W X)
   | _,_=>none
 | .fail _=>none
def aqm {α:Type}:T α->Bool
 | .aE _=>true
 | _=>false
def Qf (s:St AV) (t:T (St AV×Bool)):T (St AV) :=
 match aqm t with
 | true=>t.map fun r=>r.1
 | false=>match rN s.E t with
   | some (none,W)=>.aE {s with E:=W++s.E}
   | some (some n,W)=>.aJ n (.aE {s with E:=W++s.E})
   | none=>t.map fun r=>r.1
def EP (nt:Nat):List Oper->Bool
 | []=>true
 | o::r=>match o.dst with
   | none=>EP nt r
   | some d=>match Nat.blt d nt with | true=>EP nt r | false=>false
def uY:Code->Option Nat
 | .region id _ _=>some id
 | .seq a b=>match uY a with | some n=>some n | none=>uY b
 | .cond _ a b=>match uY a with | some n=>some n | none=>uY b
 | .block _ c=>uY c
 | .loop c=>uY c
 | _=>none
def Nf (E:Ev):Nat->Ev
 | 0=>[]
 | k+1=>(k,aF E k)::Nf E k
def rounds (nt:Nat) (body:St AV->T (Ex×St AV)):Nat->St AV->T (Ex×St AV)
 | 0,_=>.fail "loop: too many rounds"
 | n+1,s=>(body s).bind fun r=>match r.1 with
   | .normal=>rounds nt body n {r.2 with E:=Nf r.2.E nt}
   | e=>.aE (e,r.2)
def xc (cP:Callee AV) (lp:Nat->Option (St AV->T (Ex×St AV))) (nt:Nat):Code->St AV->T (Ex×St AV)
 | .skip,s=>.aE (.normal,s)
 | .label _,s=>.aE (.normal,s)
 | .region _ bZ d,s=>match EP nt bZ.toList with
   | false=>.fail "temporaries"
   | true=>match d with
     | false=>(Qf {s with H:=Hy s.H (fv bZ.toList)} (tX N cP s.H.length bZ.toList 0 bZ.toList [] true {s with H:=Hy s.H (fv bZ.toList)})).bind fun s=>.aE (.normal,s)
     | true=>match rV bZ bZ.toList 0 bZ.toList,Nat.ble N.G s.H.length with
       | false,_=>.fail "not apart"
       | true,false=>.fail "variables"
       | true,true=>(Qf {s with H:=Hy s.H (fv bZ.toList)} (rh N cP s.H.length bZ.toList 0 bZ.toList [] [] true {s with H:=Hy s.H (fv bZ.toList)})).bind fun s=>.aE (.normal,s)
 | .seq a b,s=>(xc cP lp nt a s).bind fun r=>match r.1 with
   | .normal=>xc cP lp nt b r.2
   | e=>.aE (e,r.2)
 | .cond c a b,s=>match qP N.G s.H s.E c with
   | some (.v (.c x))=>match kX x with
     | some (t,true)=>match t with | true=>xc cP lp nt a s | false=>xc cP lp nt b s
     | some (t,false)=>.ite t (xc cP lp nt a s) (xc cP lp nt b s)
     | none=>.fail "cond"
   | _=>.fail "cond"
 | .block id c,s=>(xc cP lp nt c s).bind fun r=>match r.1 with
   | .exit j=>match Nat.beq j id with | true=>.aE (.normal,r.2) | false=>.aE r
   | _=>.aE r
 | .exit id,s=>.aE (.exit id,s)
 | .ret,s=>.aE (.ret,s)
 | .loop c,s=>match uY c with
   | none=>.fail "loop"
   | some id=>match lp id with
     | some g=>g s
     | none=>rounds nt (xc cP lp nt c) 3000 s
 | _,_=>.fail "code"
def KR (s:St AV):List ResultVar->T (List V1)
 | []=>.aE []
 | .tmp t::r=>match aF s.E t with
   | .v x=>(KR s r).map fun l=>x::l
   | _=>.fail "result"
 | .cell a t::r=>match aF s.E a with
   | .v (.c (.ptr n off))=>match ae s.H n with
     | some (.cells l _)=>match rF N t l off with
       | some x=>(KR s r).map fun l=>x::l
       | none=>.fail "result"
     | _=>.fail "result"
   | _=>.fail "result"
def oP:List V1->SV
 | [x]=>.v x
 | l=>.ji l
def wP (len:Nat) (R:List Nat):Nat->Hp AV->Hp AV
 | _,[]=>[]
 | i,x::r=>(match Nat.blt i len with | true=>x | false=>match nD R i with | true=>x | false=>none)::wP len R (i+1) r
def C2:Nat->Hp AV->Hp AV
 | 0,[]=>[]
 | 0,none::r=>match C2 0 r with
   | []=>[]
   | q=>none::q
 | 0,some c::r=>some c::C2 0 r
 | _+1,[]=>[]
 | n+1,x::r=>x::C2 n r
def DX:Nat->Hp AV->List Nat
 | 0,_=>[]
 | _+1,[]=>[]
 | n+1,some (.cells l _)::r=>eG l++DX n r
 | n+1,some (.kD l _ _)::r=>eG l++DX n r
 | n+1,_::r=>DX n r
def gcH (len:Nat) (v:SV) (H:Hp AV):Hp AV :=
 C2 len (wP len (km H 400 (mu v++DX len H) []) 0 H)
def pad:Nat->List SV->Ev
 | _,[]=>[]
 | n,x::r=>(n,x)::pad (n+1) r
def afJ (cP:Callee AV) (f:FuncId) (args:List SV) (H:Hp AV):T (SV×Hp AV) :=
 match N.ft.get f with
 | some fn=>match fn.body with
   | some c=>match Nat.ble args.length fn.ntmps with
     | false=>.fail "arguments"
     | true=>(xc N cP (N.lp f) fn.ntmps c {E:=pad 0 args,H:=H}).bind fun r=>match r.1 with
       | .exit _=>.fail "exit"
       | _=>(KR N r.2 fn.results.toList).bind fun l=>match gcH H.length (oP l) r.2.H with
         | H'=>match QN H' (oP l) with
           | false=>.fail "result: names"
           | true=>match p6 H' H' with
             | false=>.fail "result: heap"
             | true=>.aE (oP l,H')
   | none=>.fail "no body"
 | none=>.fail "no function"
def oH (len:Nat):T (SV×Hp AV)->Option (Option Bool×SV)
 | .aE r=>match Nat.beq r.2.length len with
   | true=>some (none,r.1)
   | false=>none
 | .aJ b t=>match oH len t with
   | some (none,v)=>some (some b,v)
   | some (some n,v)=>some (some (match b with | true=>n | false=>false),v)
   | none=>none
 | .ite b t e=>match oH len t,oH len e with
   | some (none,v),some (none,u)=>some (none,sZ b v u)
   | some (some n,v),some (none,u)=>some (some (match b with | true=>n | false=>true),sZ b v u)
   | some (none,v),some (some m,u)=>some (some (match b with | true=>true | false=>m),sZ b v u)
   | some (some n,v),some (some m,u)=>some (some (match b with | true=>n | false=>m),sZ b v u)
   | _,_=>none
 | .fail _=>none
def zA:Hp AV->Bool
 | []=>true
 | none::r=>zA r
 | some _::_=>false
def ad3:SV->Bool
 | .lE=>true
 | _=>false
def bs (cP:Callee AV):Callee AV:=fun f args A =>
 match zA A with
 | false=>cP f args A
 | true=>match cP f args A with
   | .aE r=>.aE r
   | t=>match oH A.length t with
     | some (n,v)=>match ad3 v with
       | true=>t
       | false=>match QN A v,wW A A with
         | true,true=>match n with
           | none=>.aE (v,A)
           | some b=>.aJ b (.aE (v,A))
         | _,_=>t
     | none=>t
def XB (N:dV AV) (o:Op) (args:List SV) (H:Hp AV):T (SV×Hp AV):=N.hv o args H
def lv (tab:FuncId->Option (List SV->Hp AV->T (SV×Hp AV))):Nat->Callee AV
 | 0=>fun g args H=>match g with
   | .op o=>XB N o args H
   | .fn f=>match tab f with
     | some g=>g args H
     | none=>.fail "depth"
 | n+1=>fun g args H=>match g with
   | .op o=>XB N o args H
   | .fn f=>match tab f with
     | some g=>g args H
     | none=>afJ N (bs (lv tab n)) f args H
