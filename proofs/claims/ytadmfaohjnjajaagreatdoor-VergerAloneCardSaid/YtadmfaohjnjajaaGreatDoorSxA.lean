import Derived.Tactics
import Derived.Orders
import Derived.Laws.CopyRow
import Derived.Laws.Cells
import Derived.KernelRfl
set_option linter.unusedVariables false
set_option linter.unusedSimpArgs false
set_option maxHeartbeats 0
set_option maxRecDepth 100000
namespace Go
abbrev aaf:=@Option.some.injEq
abbrev aaB:=@Prod.mk.injEq
abbrev aaC:=@decide_eq_true
abbrev aaF:=@of_decide_eq_true
abbrev aaK:=@decide_eq_false
abbrev aaL:=@of_decide_eq_false
abbrev aaM:=@Option.bind_eq_some_iff
abbrev aaN:=@List.getElem?_eq_getElem
abbrev aaO:=@List.mem_cons
abbrev aaP:=@List.length_append
abbrev aaQ:=@List.length_cons
abbrev aaR:=@List.not_mem_nil
abbrev aaS:=@List.getElem?_eq_some_iff
abbrev aaT:=@Option.map_eq_some_iff
abbrev aaU:=@List.map_cons
abbrev aaV:=@List.mem_cons_self
abbrev aaW:=@List.mem_cons_of_mem
abbrev aaX:=@Result.andThen_ok
abbrev aaY:=@Sem.run_bind
abbrev aa0:=@Sem.run_pure
abbrev aby:=@Nat.zero_add
abbrev abz:=@Nat.le_trans
abbrev ab4:=@Nat.le_refl
abbrev aca:=@List.mem_of_getElem?
abbrev acA:=@List.append_assoc
abbrev acB:=@List.nil_append
abbrev acM:=@List.getElem?_append_left
abbrev acR:=@List.getElem?_append_right
abbrev acW:=@List.singleton_append
abbrev acX:=@Nat.zero_le
abbrev acY:=@List.cons_append
abbrev acZ:=@Nat.le_of_ble_eq_true
abbrev ac0:=@List.mem_map
abbrev ac2:=@Nat.mul_le_mul_right
abbrev ac3:=@Nat.mul_le_mul_left
abbrev ac7:=@List.getD_eq_getElem?_getD
abbrev ac8:=@List.length_nil
abbrev ada:=@Array.getElem?_eq_some_iff
abbrev adb:=@List.map_congr_left
abbrev ade:=@List.drop_eq_nil_of_le
abbrev adf:=@List.mem_map_of_mem
abbrev adg:=@List.mem_append
abbrev adi:=@Int.le_refl
abbrev adr:=@Nat.add_assoc
abbrev ads:=@List.nodup_cons
abbrev adA:=@List.map_append
abbrev adF:=@List.pairwise_cons
abbrev adK:=@Nat.add_sub_cancel_left
abbrev adQ:=@List.mem_iff_getElem?
abbrev adU:=@List.getElem?_cons_succ
abbrev aei:=@Nat.add_mul
abbrev aet:=@List.mem_singleton
abbrev aeu:=@List.filter_cons
abbrev aeD:=@List.getElem?_cons_zero
abbrev aeE:=@List.getElem?_take
abbrev aeF:=@List.append_nil
abbrev aeG:=@List.getElem?_map
abbrev afm:=@List.map_nil
abbrev afr:=@List.filter_sublist
abbrev afu:=@Nat.succ_le_succ
abbrev afw:=@Array.toArray_toList
abbrev afF:=@Array.mem_toList_iff
abbrev afG:=@List.getElem?_drop
abbrev afI:=@Array.length_toList
abbrev afN:=@List.nodup_append
abbrev afO:=@List.length_eq_zero_iff
abbrev afQ:=@Nat.beq_refl
abbrev afT:=@Option.some.inj
abbrev afU:=@List.getElem?_replicate
abbrev afX:=@List.length_set
abbrev af1:=@List.length_map
abbrev af2:=@List.mem_filter
abbrev af9:=@List.take_append_drop
abbrev aga:=@List.length_take
abbrev agb:=@List.length_drop
abbrev age:=@List.eq_of_mem_replicate
end Go
namespace Go.Sx
noncomputable section
structure m9 where
 b:Nat
 o:Nat:=0
 c:Nat:=0
structure Nm where
 L:Nat->m9
 S:Nat->Nat->Prop
abbrev Nm.f (ρ:Nm) (n:Nat):Nat:=(ρ.L n).b
instance:CoeFun Nm (fun _=>Nat->Nat):=⟨Nm.f⟩
def Nm.id:Nm:=⟨fun n=>⟨n,0,0⟩,fun _ _=>False⟩
inductive SfF where
 | nK (o l es:Nat) | H6 (f:SfF) | head (o es:Nat)
deriving DecidableEq
def SfF.ap:SfF->m9->m9
 | .nK o l es=>fun q=>if q.c=0 then⟨0,0,0⟩ else if q.c - 1 - o=l then⟨q.b,q.o+o * es,1⟩ else⟨q.b,q.o+(o+l) * es,q.c - (o+l)⟩
 | .H6 f=>fun q=>if (f.ap q).c=0 then⟨0,0,0⟩ else⟨(f.ap q).b,(f.ap q).o,1⟩
 | .head o es=>fun q=>⟨q.b,q.o+o * es,q.c⟩
inductive Cell where
 | bl (b:Bool) | bt (b:Bool)
 | il (k:IntKind) (n:Int) | it (k:IntKind) (n:Int)
 | iv (k:IntKind) (n:Int) (cs:List Int) (h:∀c∈cs,(n==c)=false)
 | ir (k:IntKind) (n lo hi:Int) (h:lo<=n /\ n < hi)
 | st (s:ByteArray) | sv (s:ByteArray)
 | ptr (n off:Nat) | DN (n idx es off:Nat) | jj
 | sl (n o len cap:Nat) | dP | sx (a:Option Addr) (cap:Nat) | vs (n o len es:Nat) (kn:Bool)
 | sf (n o es:Nat) (z:Bool) (f:SfF) (h:∀l,(f.ap l).c<=1 \/ z=false /\ f.ap l=⟨l.b,l.o+o * es,l.c - o⟩)
 | xP (t:TypeId) (c:Cell) | fL
 | fn (f:FuncId) | nfn
 | op (i:Nat) (a:Addr) | mp (r:Option Nat)
def cH (l:m9) (o len es:Nat):Value :=
 if len=0 /\ l.c=0 then .slice none 0 0 else .slice (some ⟨l.b,l.o+o * es,none⟩) len (l.c - 1 - o)
def Cell.ay (ρ:Nm):Cell->Value
 | .bl b=>.bool b
 | .bt b=>.bool b
 | .il k n=>.int k n
 | .it k n=>.int k n
 | .iv k n _ _=>.int k n
 | .ir k n _ _ _=>.int k n
 | .st s=>.string s
 | .sv s=>.string s
 | .ptr n off=>.pointer (some ⟨ρ n,off,none⟩)
 | .DN n idx es off=>.pointer (some ⟨ρ n,(ρ.L n).o+idx * es+off,none⟩)
 | .jj=>.pointer none
 | .sl n o len cap=>.slice (some ⟨ρ n,o,none⟩) len cap
 | .dP=>.slice none 0 0
 | .sx a cap=>.slice a 0 cap
 | .vs n o len es _=>cH (ρ.L n) o len es
 | .sf n _ es _ f _=>cH (f.ap (ρ.L n)) 0 0 es
 | .xP t c=>.iface t (c.ay ρ)
 | .fL=>.nilIface
 | .fn f=>.func (.func f) #[] #[]
 | .nfn=>.nilFunc
 | .op _ a=>.pointer (some a)
 | .mp r=>.map (r.map ρ.f)
def Cell.name:Cell->Option Nat
 | .ptr n _=>some n
 | .DN n _ _ _=>some n
 | .sl n _ _ _=>some n
 | .vs n _ _ _ _=>some n
 | .sf n _ _ _ _ _=>some n
 | .xP _ c=>c.name
 | .mp r=>r
 | _=>none
inductive V1 where
 | c (x:Cell) | agg (l:List Cell)
inductive SV where
 | v (x:V1) | iW (l:List V1) | lU | xz (f:FuncId) (l:List Cell)
def V1.cells:V1->List Cell
 | .c x=>[x]
 | .agg l=>l
def aF (ρ:Nm) (l:List Cell):List Value:=l.map (Cell.ay ρ)
def V1.ay (ρ:Nm):V1->Value
 | .c x=>x.ay ρ
 | .agg l=>.agg (aF ρ l).toArray
def SV.ay (ρ:Nm):SV->Value
 | .v x=>x.ay ρ
 | .iW l=>.tuple (l.map (V1.ay ρ)).toArray
 | .lU=>.tuple #[]
 | .xz f l=>.func (.func f) #[] (aF ρ l).toArray
inductive T (α:Type) where
 | aD (a:α) | ite (b:Bool) (t e:T α) | aE (b:Bool) (t:T α) | fail (why:String)
def T.bind {α β:Type}:T α->(α->T β)->T β
 | .aD a,f=>f a
 | .ite b t e,f=>.ite b (t.bind f) (e.bind f)
 | .aE b t,f=>.aE b (t.bind f)
 | .fail w,_=>.fail w
def T.map {α β:Type} (f:α->β):T α->T β
 | .aD a=>.aD (f a)
 | .ite b t e=>.ite b (t.map f) (e.map f)
 | .aE b t=>.aE b (t.map f)
 | .fail w=>.fail w
def T.val {α:Type}:T α->Option α
 | .aD a=>some a
 | .ite b t e=>match b with | true=>t.val | false=>e.val
 | .aE b t=>match b with | true=>t.val | false=>none
 | .fail _=>none
theorem T.oC {α β:Type} (t:T α) (f:α->T β):(t.bind f).val=t.val.bind fun a=>(f a).val:=by
 induction t with
 | aD a=>rfl
 | ite b t e iht ihe=>cases b<;>simp [T.bind,T.val,iht,ihe]
 | aE b t ih=>cases b<;>simp [T.bind,T.val,ih]
 | fail w=>rfl
theorem T.gg {α β:Type} (t:T α) (f:α->β):(t.map f).val=t.val.map f:=by
 induction t with
 | aD a=>rfl
 | ite b t e iht ihe=>cases b<;>simp [T.map,T.val,iht,ihe]
 | aE b t ih=>cases b<;>simp [T.map,T.val,ih]
 | fail w=>rfl
theorem T.bq {α β:Type} {t:T α} {f:α->T β} {y:β} (h:(t.bind f).val=some y):∃x,t.val=some x /\ (f x).val=some y:=by rw [T.oC] at h;exact aaM.1 h
inductive FK where
 | bool | int (k:IntKind) | OW
 deriving DecidableEq
def oQ:Cell->Option (IntKind×Int×Bool)
 | .il k n=>some (k,n,true)
 | .it k n=>some (k,n,false)
 | .iv k n _ _=>some (k,n,false)
 | .ir k n _ _ _=>some (k,n,false)
 | _=>none
def lQ:Cell->Option (Bool×Bool)
 | .bl b=>some (b,true)
 | .bt b=>some (b,false)
 | _=>none
def Gr (a b:Bool):Bool:=match a with | true=>b | false=>false
def LL:Cell->Option (ByteArray×Bool)
 | .st s=>some (s,true)
 | .sv s=>some (s,false)
 | _=>none
def ad9:List UInt8->List UInt8->Bool
 | [],[]=>true
 | x::xs,y::ys=>match Nat.beq x.toNat y.toNat with | true=>ad9 xs ys | false=>false
 | _,_=>false
def D3 (a b:ByteArray):Bool:=ad9 a.data.toList b.data.toList
def eqC (x y:Cell):Option (Bool×Bool) :=
 match lQ x,lQ y with
 | some (a,ka),some (b,kb)=>some (a==b,Gr ka kb)
 | _,_=>match oQ x,oQ y with
   | some (_,a,ka),some (_,b,kb)=>some (a==b,Gr ka kb)
   | _,_=>match LL x,LL y with
     | some (a,ka),some (b,kb)=>some (D3 a b,Gr ka kb)
     | _,_=>none
def eqL:List Cell->List Cell->Option (Bool×Bool)
 | [],[]=>some (true,true)
 | x::xs,y::ys=>match eqC x y with
   | some (b,kb)=>match eqL xs ys with
     | some (c,kc)=>match kb with
       | true=>match b with
         | true=>some (c,kc)
         | false=>some (false,true)
       | false=>match kc with
         | true=>match c with
           | true=>some (b,false)
           | false=>some (false,true)
         | false=>some (b&&c,false)
     | none=>none
   | none=>none
 | _,_=>none
def zL:Cell->Option FK
 | .bl _=>some .bool
 | .bt _=>some .bool
 | .il k _=>some (.int k)
 | .it k _=>some (.int k)
 | .iv k _ _ _=>some (.int k)
 | .ir k _ _ _ _=>some (.int k)
 | .st _=>some .OW
 | .sv _=>some .OW
 | _=>none
def fY:List FK->List Cell->Bool
 | [],[]=>true
 | k::ks,c::cs=>match zL c with
   | some k'=>match decide (k=k') with | true=>fY ks cs | false=>false
   | none=>false
 | _,_=>false
def YC (x y:V1):Bool:=match eqL x.cells y.cells with | some (b,_)=>b | none=>false
def anQ (ks:List FK) (ag:Bool):V1->Bool
 | .c x=>match ag with | true=>false | false=>fY ks [x]
 | .agg l=>match ag with | true=>fY ks l | false=>false
def Yj (k z:V1):List (V1×V1)->V1×Bool
 | []=>(z,false)
 | e::r=>match YC k e.1 with | true=>(e.2,true) | false=>Yj k z r
def am2 (k v:V1):List (V1×V1)->List (V1×V1)
 | []=>[(k,v)]
 | e::r=>match YC k e.1 with | true=>(e.1,v)::r | false=>e::am2 k v r
def apK (k:V1):List (V1×V1)->List (V1×V1)
 | []=>[]
 | e::r=>match YC k e.1 with | true=>r | false=>e::apK k r
def asI (l:m9) (S:Nat->Prop) (es:List (V1×V1)) (w:World):Prop :=
 (∀k,S k↔k=l.b) /\ ∃(en:Array MapEntry) (clock:Nat),w.heap[l.b]?=some (.map en clock) /\ en.toList.map (fun e=>(e.key,e.val))=es.map fun e=>(e.1.ay Nm.id,e.2.ay Nm.id)
def ng (l:m9) (S:Nat->Prop) (cs:List Value) (es:Nat) (ty:TypeId) (w:World):Prop :=
 (l.c<=1 /\ cs=[] /\ ∀k,¬S k) \/ (0 < l.c /\ (∀k,S k↔k=l.b) /\ ∃row:List Value,w.heap[l.b]?=some (.cells row.toArray ty (0,0)) /\ l.o+(l.c - 1) * es<=row.length /\ cs.length<=(l.c - 1) * es /\ ∀(j:Nat) v,cs[j]?=some v->row[l.o+j]?=some v)
def Me (l:m9) (cs:List Value) (es:Nat) (w:World):Prop:=cs.length<=(l.c - 1) * es /\ ∀(j:Nat) v,cs[j]?=some v->w.cell? ((⟨l.b,l.o,none⟩:Addr).add j)=some v
def kR (z:List Cell):Nat->List Cell
 | 0=>[]
 | n+1=>z++kR z n
structure gX (AV:Type) where
 q:AV->m9->(Nat->Prop)->World->Prop
 loc:∀a l S w w',(∀k,S k->w'.heap[k]?=w.heap[k]?)->q a l S w->q a l S w'
 dom:∀a l S w k,q a l S w->S k->k < w.heap.size
 row:AV->Nat->Nat->Option (Bool×List Cell)
 uV:∀a idx es cs,row a idx es=some (true,cs)->∀c∈cs,c.name=none
 R:Nat->Option Obj:=fun _=>none
 yf:∀a l S w idx es cs,(∀k o,R k=some o->w.heap[k]?=some o)->q a l S w->row a idx es=some (true,cs)->∀j c,cs[j]?=some c->w.cell? ⟨l.b,l.o+idx * es+j,none⟩=some (c.ay Nm.id)
 K2:AV->Nat->Nat->Nat->Nat->Option (Bool×List Cell):=fun _ _ _ _ _=>none
 A0:∀a i e o n cs,K2 a i e o n=some (true,cs)->∀c∈cs,c.name=none:=by intro _ _ _ _ _ _ h;cases h
 J1:∀a l S w i e o n cs,(∀k o,R k=some o->w.heap[k]?=some o)->q a l S w->K2 a i e o n=some (true,cs)->∀j c,cs[j]?=some c->w.cell? ⟨l.b,l.o+i * e+o+j,none⟩=some (c.ay Nm.id):=by intro _ _ _ _ _ _ _ _ _ _ _ h;cases h
 xC:AV->Nat->Nat->Nat->List Cell->Option (Bool×AV)
 yd:∀a l S w idx es off cs a',q a l S w->xC a idx es off cs=some (true,a')->(∀c∈cs,c.name=none) /\ S l.b /\ ∃(row:List Value) (ty:TypeId),w.heap[l.b]?=some (.cells row.toArray ty (0,0)) /\ l.o+idx * es+off+cs.length<=row.length /\
  q a' l S (w.setRow l.b (row.take (l.o+idx * es+off)++(aF Nm.id cs++row.drop (l.o+idx * es+off+cs.length))).toArray)
 word:AV->Option (List Cell):=fun _=>none
 wy:∀a cs,word a=some cs->∀c∈cs,c.name=none:=by intro _ _ h;cases h
 C1:∀a l S w cs,q a l S w->word a=some cs->∀j c,cs[j]?=some c->w.cell? ⟨l.b,j,none⟩=some (c.ay Nm.id):=by intro _ _ _ _ _ _ h;cases h
 rF:AV->AV->Bool:=fun _ _=>false
 tq:∀a b,rF a b=true->a=b:=by intro _ _ h;cases h
 gb:AV->Option (Nat×TypeId×List Value):=fun _=>none
 kZ:∀a es ty vs,gb a=some (es,ty,vs)->(∀v∈vs,v.oneCell'=true) /\ ∀l S w,q a l S w↔ng l S vs es ty w:=by intro _ _ _ _ h;cases h
 su:AV->Option AV:=fun _=>none
 Ec:∀a b es ty vs,su a=some b->gb b=some (es,ty,vs)->∀l S w,(∀k o,R k=some o->w.heap[k]?=some o)->q a l S w->Me l vs es w:=by intro _ _ _ _ _ h;cases h
 len:AV->Nat:=fun _=>0
 tG:∀a es ty vs,gb a=some (es,ty,vs)->vs.length=len a * es:=by intro _ _ _ _ h;cases h
 cat:AV->AV->Option AV:=fun _ _=>none
 KP:∀a b c,cat a b=some c->∃es ty ty' vs us,gb a=some (es,ty,vs) /\ gb b=some (es,ty',us) /\ gb c=some (es,ty,vs++us):=by intro _ _ _ h;cases h
 Le:AV->List Cell->Option AV:=fun _ _=>none
 BS:∀a cs c,Le a cs=some c->(∀x∈cs,x.name=none) /\ ∃es ty vs,gb a=some (es,ty,vs) /\ gb c=some (es,ty,vs++aF Nm.id cs):=by intro _ _ _ h;cases h
 cut:AV->Nat->Nat->Option AV:=fun _ _ _=>none
 BL:∀a i j c,cut a i j=some c->∃es ty vs,gb a=some (es,ty,vs) /\ gb c=some (es,ty,(vs.take (j * es)).drop (i * es)):=by intro _ _ _ _ h;cases h
 zer:List Cell->Nat->TypeId->Nat->Option AV:=fun _ _ _ _=>none
 Az:∀z es ty n a,zer z es ty n=some a->gb a=some (es,ty,aF Nm.id (kR z n)):=by intro _ _ _ _ _ h;cases h
 txt:AV->Option (List Int):=fun _=>none
 VK:∀a s,txt a=some s->∃ty,gb a=some (1,ty,s.map (Value.int .u8)):=by intro _ _ h;cases h
 mp:AV->Option (List FK×Bool×List (V1×V1)):=fun _=>none
 ah1:∀a ks ag es,mp a=some (ks,ag,es)->(∀e∈es,anQ ks ag e.1=true /\ (∀c∈e.1.cells,c.name=none) /\ ∀c∈e.2.cells,c.name=none) /\ ∀l S w,q a l S w↔asI l S es w:=by intro _ _ _ _ h;cases h
 ah2:List FK->Bool->Option AV:=fun _ _=>none
 RE:∀ks ag a,ah2 ks ag=some a->mp a=some (ks,ag,[]):=by intro _ _ _ h;cases h
 X8:AV->V1->V1->Option (V1×Bool×Bool):=fun _ _ _=>none
 ME:∀a k z v b kn,X8 a k z=some (v,b,kn)->∃ks ag es,mp a=some (ks,ag,es) /\ (Yj k z es).2=b /\ (∀c∈v.cells,c.name=none) /\ ∀ρ,v.ay ρ=(Yj k z es).1.ay ρ:=by intro _ _ _ _ _ _ h;cases h
 ah0:AV->V1->V1->Option AV:=fun _ _ _=>none
 RD:∀a k v a',ah0 a k v=some a'->(∀c∈k.cells,c.name=none) /\ (∀c∈v.cells,c.name=none) /\ ∃ks ag es Lc,mp a=some (ks,ag,es) /\ mp a'=some (ks,ag,Lc) /\ Lc.map (fun e=>(e.1.ay Nm.id,e.2.ay Nm.id))=(am2 k v es).map fun e=>(e.1.ay Nm.id,e.2.ay Nm.id):=by intro _ _ _ _ h;cases h
 ah7:AV->V1->Option AV:=fun _ _=>none
 RJ:∀a k a',ah7 a k=some a'->∃ks ag es,mp a=some (ks,ag,es) /\ mp a'=some (ks,ag,apK k es):=by intro _ _ _ h;cases h
 ah3:AV->Option (Nat×Bool):=fun _=>none
 RF:∀a n kn,ah3 a=some (n,kn)->∃ks ag es,mp a=some (ks,ag,es) /\ n=es.length:=by intro _ _ _ h;cases h
inductive aK (AV:Type) where
 | cells (l:List Cell) (ty:TypeId)
 | oB (l:List Cell) (es:Nat) (ty:TypeId)
 | kN
 | bN (a:AV)
abbrev Hp (AV:Type):=List (Option (aK AV))
def af {AV:Type}:Hp AV->Nat->Option (aK AV)
 | [],_=>none
 | x::_,0=>x
 | _::r,n+1=>af r n
def yQ {α:Type}:List α->Nat->Option α
 | [],_=>none
 | x::_,0=>some x
 | _::r,n+1=>yQ r n
def de {α:Type}:List α->Nat->α->List α
 | [],_,_=>[]
 | _::r,0,y=>y::r
 | x::r,n+1,y=>x::de r n y
abbrev Ev:=List (Nat×SV)
structure St (AV:Type) where
 E:Ev
 H:Hp AV
def ee:SV:=.iW []
def aJ:Ev->Nat->SV
 | [],_=>ee
 | (k,v)::r,n=>match Nat.beq k n with | true=>v | false=>aJ r n
def oM:List Cell->Nat->Option (List Cell)
 | _,0=>some []
 | [],_+1=>none
 | x::l,n+1=>match oM l n with | some r=>some (x::r) | none=>none
def qg:List Cell->Nat->Nat->Option (List Cell)
 | l,0,n=>oM l n
 | [],_+1,_=>none
 | _::l,k+1,n=>qg l k n
def mB:List Cell->Nat->List Cell->Option (List Cell)
 | l,0,[]=>some l
 | [],0,_::_=>none
 | _::l,0,y::ys=>match mB l 0 ys with | some r=>some (y::r) | none=>none
 | [],_+1,_=>none
 | x::l,n+1,ys=>match mB l n ys with | some r=>some (x::r) | none=>none
def Cell.ofValue:Value->Option Cell
 | .bool b=>some (.bl b)
 | .int k n=>some (.il k n)
 | .string s=>some (.st s)
 | .pointer none=>some .jj
 | .slice none 0 0=>some .dP
 | .nilIface=>some .fL
 | .nilFunc=>some .nfn
 | .map none=>some (.mp none)
 | _=>none
def mN:List Value->Option (List Cell)
 | []=>some []
 | v::r=>match Cell.ofValue v with
   | some c=>match mN r with | some l=>some (c::l) | none=>none
   | none=>none
def Qk:Value->Option SV
 | .agg cs=>match mN cs.toList with | some l=>some (.v (.agg l)) | none=>none
 | v=>match Cell.ofValue v with | some c=>some (.v (.c c)) | none=>none
def rP {AV:Type} (G:Nat) (H:Hp AV) (E:Ev):Operand->Option SV
 | .tmp t=>match aJ E t with
   | .lU=>none
   | v=>some v
 | .const v=>Qk v
 | .global g=>match Nat.blt g G,af H g with
   | true,some _=>some (.v (.c (.ptr g 0)))
   | _,_=>none
 | .func f=>some (.v (.c (.fn f)))
def Hb (ev:Operand->Option SV):List Operand->Option (List SV)
 | []=>some []
 | x::r=>match ev x with
   | some v=>match Hb ev r with | some l=>some (v::l) | none=>none
   | none=>none
def zY (ev:Operand->Option SV):List (Nat×Operand)->Option (List (Nat×V1))
 | []=>some []
 | (i,x)::r=>match ev x with
   | some (.v v)=>match zY ev r with | some l=>some ((i,v)::l) | none=>none
   | _=>none
def KO:List SV->Option (List Cell)
 | []=>some []
 | .v (.c c)::r=>match KO r with | some l=>some (c::l) | none=>none
 | _::_=>none
def svs:List Cell->List SV
 | []=>[]
 | c::r=>.v (.c c)::svs r
def eR:List Cell->List Nat
 | []=>[]
 | c::r=>match c.name with | some n=>n::eR r | none=>eR r
section closed
variable {AV:Type}
def cL {α:Type}:Option α->Bool
 | some _=>true
 | none=>false
def clC (H:Hp AV) (c:Cell):Bool:=match c.name with | some n=>cL (af H n) | none=>true
def Z3 (H:Hp AV):List Nat->Bool
 | []=>true
 | n::r=>match cL (af H n) with | true=>Z3 H r | false=>false
def clL (H:Hp AV) (l:List Cell):Bool:=Z3 H (eR l)
def US (H:Hp AV):V1->Bool
 | .c x=>clC H x
 | .agg l=>clL H l
def N7 (H:Hp AV):List V1->Bool
 | []=>true
 | x::r=>match US H x with | true=>N7 H r | false=>false
def SD (H:Hp AV):SV->Bool
 | .v x=>US H x
 | .iW l=>N7 H l
 | .lU=>true
 | .xz _ l=>clL H l
def BP (H:Hp AV):List SV->Bool
 | []=>true
 | x::r=>match SD H x with | true=>BP H r | false=>false
def Z4 (H:Hp AV):aK AV->Bool
 | .cells l _=>clL H l
 | .oB l _ _=>clL H l
 | .kN=>true
 | .bN _=>true
def qy (H:Hp AV):Hp AV->Bool
 | []=>true
 | none::r=>qy H r
 | some c::r=>match Z4 H c with | true=>qy H r | false=>false
end closed
structure cO where
 off:Nat
 size:Nat
 ty:TypeId
 agg:Bool
inductive Kd where
 | bool | int (k:IntKind) | OW | map (k e:TypeId) | ptr | slice (Hc:Nat) | gb (len Hc:Nat) (ag:Bool) | struct (fs:List cO) | iface | Ru
structure TI where
 kd:Kd
 size:Nat
 zero:Option (List Cell)
 apd:Option (List FK)
def vA:Kd->Bool
 | .gb _ _ _=>true
 | .struct _=>true
 | _=>false
section table
variable (P:Program)
def fI (t:TypeId):Option Bool :=
 match P.underlying t with
 | some (.struct _)=>some true
 | some (.array _ _)=>some true
 | some _=>some false
 | none=>none
def oD (t:TypeId):Option Nat:=match P.info? t with | some i=>some i.size | none=>none
def KB:List Field->Option (List cO)
 | []=>some []
 | f::r=>match oD P f.type,fI P f.type,KB r with
   | some n,some a,some l=>some (⟨f.offset,n,f.type,a⟩::l)
   | _,_,_=>none
def Bp (t:TypeId):Option Kd :=
 match P.underlying t with
 | some .bool=>some .bool
 | some (.int k)=>some (.int k)
 | some .string=>some .OW
 | some (.pointer _)=>some .ptr
 | some (.slice e)=>match oD P e with | some n=>some (.slice n) | none=>none
 | some (.array len e)=>match oD P e,fI P e with | some n,some a=>some (.gb len n a) | _,_=>none
 | some (.struct fs)=>match KB P fs.toList with | some l=>some (.struct l) | none=>none
 | some (.interface _)=>some .iface
 | some (.map k e)=>some (.map k e)
 | some _=>some .Ru
 | none=>none
def tW (rec:TypeId->Option (List FK)):List Field->Nat->Option (List FK)
 | [],_=>some []
 | f::r,off=>match f.name == "_" with
   | true=>none
   | false=>match Nat.beq f.offset off with
     | false=>none
     | true=>match rec f.type with
       | none=>none
       | some ks=>match oD P f.type with
         | none=>none
         | some n=>match Nat.beq n ks.length with
           | false=>none
           | true=>match tW rec r (off+n) with
             | some l=>some (ks++l)
             | none=>none
def SM (e:TypeId) (n i:Nat):Field:={name := "x",type:=e,offset:=i * n,embedded:=false,tag := "",pkgPath := "",byteOffset:=0}
def Jp (e:TypeId) (n:Nat):Nat->Nat->List Field
 | 0,_=>[]
 | k+1,i=>SM e n i::Jp e n k (i+1)
def pw:Nat->TypeId->Option (List FK)
 | 0,_=>none
 | d+1,t=>match P.underlying t with
   | some .bool=>some [.bool]
   | some (.int k)=>some [.int k]
   | some .string=>some [.OW]
   | some (.struct fs)=>match P.stoodInHeld t with
     | true=>none
     | false=>tW P (pw d) fs.toList 0
   | some (.array len e)=>match oD P e with
     | some n=>tW P (pw d) (Jp e n len 0) 0
     | none=>none
   | _=>none
def T4 (t:TypeId):Option TI :=
 match P.info? t,Bp P t with
 | some i,some k=>some {
    kd:=k
    size:=i.size
    zero:=match i.zero with | some v=>mN v.cells.toList | none=>none
    apd:=match P.eqGuardType P.depth t with | true=>none | false=>pw P 12 t}
 | _,_=>none
end table
inductive Tr (α:Type) where
 | lf | nd (x:Option α) (l r:Tr α)
def Tr.get {α:Type}:Tr α->Nat->Option α
 | .lf,_=>none
 | .nd x l r,n=>match Nat.beq n 0 with
   | true=>x
   | false=>match Nat.beq (n % 2) 1 with
     | true=>l.get (n / 2)
     | false=>r.get ((n - 1) / 2)
structure SI where
 e:TypeId
 size:Nat
 bytes:Nat
 zero:List Cell
def zy (P:Program) (t:TypeId):Option SI :=
 match P.underlying t with
 | some (.slice e)=>match P.info? e with
   | some i=>match i.zero with
     | some z=>match mN z.cells.toList with
       | some l=>match Nat.beq l.length i.size,Nat.blt 0 i.size with
         | true,true=>some ⟨e,i.size,i.bytes,l⟩
         | _,_=>none
       | none=>none
     | none=>none
   | none=>none
 | _=>none
def zF:Nat:=1099511627776
inductive Ex where
 | normal | exit (id:Nat) | ret
structure eI (AV:Type) where
 tt:Tr TI
 ft:Tr Func
 gu:Tr (List Nat)
 G:Nat
 F:gX AV
 hv:Op->List SV->Hp AV->T (SV×Hp AV):=fun _ _ _=>.fail "heavy"
 lp:FuncId->Nat->Option (St AV->T (Ex×St AV)):=fun _ _=>none
 mt:TypeId->String->Option FuncId:=fun _ _=>none
 sl:Tr SI:=.lf
 orc:Option Nat:=none
section
variable {AV:Type} (N:eI AV)
def vf (agg:Bool) (n:Nat) (l:List Cell) (off:Nat):Option V1 :=
 match agg with
 | true=>match qg l off n with | some x=>some (.agg x) | none=>none
 | false=>match yQ l off with | some x=>some (.c x) | none=>none
def sH (t:TypeId) (l:List Cell) (off:Nat):Option V1 :=
 match N.tt.get t with
 | some i=>vf (vA i.kd) i.size l off
 | none=>none
def zU (t:TypeId):Option (List cO):=match N.tt.get t with | some ⟨.struct fs,_,_,_⟩=>some fs | _=>none
def RG (b:Bool) (lit:Bool):V1:=.c (match lit with | true=>.bl b | false=>.bt b)
def K4 (k:IntKind) (n:Int) (lit:Bool):V1:=.c (match lit with | true=>.il k n | false=>.it k n)
def aae (op:BinOp) (k:IntKind) (a b:Int):Int :=
 match op with
 | .and=>k.wrap ((BitVec.ofInt k.bits a &&& BitVec.ofInt k.bits b).toNat:Int)
 | .or=>k.wrap ((BitVec.ofInt k.bits a ||| BitVec.ofInt k.bits b).toNat:Int)
 | .xor=>k.wrap ((BitVec.ofInt k.bits a ^^^ BitVec.ofInt k.bits b).toNat:Int)
 | .andNot=>k.wrap ((BitVec.ofInt k.bits a &&& ~~~BitVec.ofInt k.bits b).toNat:Int)
 | _=>0
def sY (op:BinOp) (k:IntKind) (a b:Int) (lit:Bool):T V1 :=
 match op with
 | .add=>.aD (K4 k (k.wrap (a+b)) lit)
 | .sub=>.aD (K4 k (k.wrap (a - b)) lit)
 | .mul=>.aD (K4 k (k.wrap (a * b)) lit)
 | .eql=>.aD (RG (a==b) lit)
 | .neq=>.aD (RG (a != b) lit)
 | .lss=>.aD (RG (decide (a < b)) lit)
 | .leq=>.aD (RG (decide (a<=b)) lit)
 | .gtr=>.aD (RG (decide (a > b)) lit)
 | .geq=>.aD (RG (decide (a>=b)) lit)
 | .quo=>.aE (b != 0) (.aD (K4 k (k.wrap (a.tdiv b)) lit))
 | .rem=>.aE (b != 0) (.aD (K4 k (a.tmod b) lit))
 | .and=>.aD (K4 k (aae .and k a b) lit)
 | .or=>.aD (K4 k (aae .or k a b) lit)
 | .xor=>.aD (K4 k (aae .xor k a b) lit)
 | .andNot=>.aD (K4 k (aae .andNot k a b) lit)
 | _=>.fail "binI"
def tM:Operand->Bool
 | .const _=>true
 | _=>false
def wQ:BinOp->Bool
 | .shl=>true
 | .shr=>true
 | _=>false
def anh:Cell->Cell->Option Bool
 | .dP,.dP=>some true
 | .vs _ _ (_+1) _ true,.dP=>some false
 | .sl _ _ _ _,.dP=>some false
 | _,_=>none
def eqV (t:TypeId) (cst:Bool):V1->V1->Option (Bool×Bool)
 | .agg xs,.agg ys=>match N.tt.get t with
   | some ⟨kd,_,_,some ks⟩=>match vA kd with
     | false=>none
     | true=>match fY ks xs with
       | false=>none
       | true=>match fY ks ys with
         | false=>none
         | true=>eqL xs ys
   | _=>none
 | .c x,.c y=>match N.tt.get t with
   | some ⟨.bool,_,_,_⟩=>match lQ x,lQ y with
     | some (a,ka),some (b,kb)=>some (a==b,match ka with | true=>kb | false=>false)
     | _,_=>none
   | some ⟨.ptr,_,_,_⟩=>match x,y with
     | .jj,.jj=>some (true,true)
     | .jj,.ptr _ _=>some (false,true)
     | .ptr _ _,.jj=>some (false,true)
     | .jj,.op _ _=>some (false,true)
     | .op _ _,.jj=>some (false,true)
     | _,_=>none
   | some ⟨.iface,_,_,_⟩=>match x,y with
     | .fL,.fL=>match cst with | true=>some (true,true) | false=>none
     | .fL,.xP _ _=>some (false,true)
     | .xP _ _,.fL=>some (false,true)
     | _,_=>none
   | some ⟨.slice _,_,_,_⟩=>match anh x y with
     | some b=>some (b,true)
     | none=>none
   | _=>none
 | _,_=>none
def anc:Option (Bool×Bool)->T V1
 | some (b,k)=>.aD (RG b k)
 | none=>.fail "=="
def anb:Option (Bool×Bool)->T V1
 | some (b,k)=>.aD (RG (!b) k)
 | none=>.fail "!="
def yA {α:Type} (known b:Bool) (a:α):T α :=
 match known with
 | true=>match b with | true=>.aD a | false=>.fail "guard"
 | false=>.aE b (.aD a)
def Jk:V1->V1->Option (IntKind×Int×Bool×IntKind×Int×Bool)
 | .c x,.c y=>match oQ x with
   | some (k,a,ka)=>match oQ y with
     | some (k',b,kb)=>some (k,a,ka,k',b,kb)
     | none=>none
   | none=>none
 | _,_=>none
def Ze:List Int->Int->Bool
 | [],_=>false
 | x::r,n=>match decide (x=n) with | true=>true | false=>Ze r n
def anU (op:BinOp):V1->V1->Option V1
 | .c (.iv _ _ cs _),.c (.il _ c)=>match Ze cs c with
   | false=>none
   | true=>match op with
     | .eql=>some (.c (.bl false))
     | .neq=>some (.c (.bl true))
     | _=>none
 | _,_=>none
def TA:V1->Option (Int×Int)
 | .c (.il _ c)=>some (c,c+1)
 | .c (.ir _ _ lo hi _)=>some (lo,hi)
 | _=>none
def pC (t f:Bool):Option Bool:=match t with
 | true=>some true
 | false=>match f with | true=>some false | false=>none
def adZ (op:BinOp) (l1 h1 l2 h2:Int):Option Bool:=match op with
 | .lss=>pC (decide (h1<=l2)) (decide (h2<=l1+1))
 | .leq=>pC (decide (h1<=l2+1)) (decide (h2<=l1))
 | .gtr=>pC (decide (h2<=l1)) (decide (h1<=l2+1))
 | .geq=>pC (decide (h2<=l1+1)) (decide (h1<=l2))
 | .eql=>pC false (match decide (h1<=l2) with | true=>true | false=>decide (h2<=l1))
 | .neq=>pC (match decide (h1<=l2) with | true=>true | false=>decide (h2<=l1)) false
 | _=>none
theorem abO {a lo hi m:Int} (h:lo<=a /\ a < hi) (h0:0<=lo /\ 0 < m):0<=a.tmod m /\ a.tmod m < m :=
 ⟨Int.tmod_nonneg _ (by omega),Int.tmod_lt_of_pos _ h0.2⟩
theorem aej {c n lo hi:Int} (h:lo<=n /\ n < hi):c+lo<=c+n /\ c+n < c+hi:=by omega
def aj5 (op:BinOp):V1->V1->Option V1
 | .c (.ir k a lo _hi h),.c (.il _ m)=>match op with
   | .rem=>match decide (0<=lo /\ 0 < m) with
     | true=>if h0:0<=lo /\ 0 < m then some (.c (.ir k (a.tmod m) 0 m (abO h h0))) else none
     | false=>none
   | _=>none
 | .c (.il k c),.c (.ir _ n lo hi h)=>match op,k with
   | .add,.i64=>match decide (-9223372036854775808<=c+lo /\ c+hi<=9223372036854775808) with
     | true=>some (.c (.ir .i64 (c+n) (c+lo) (c+hi) (aej h)))
     | false=>none
   | _,_=>none
 | _,_=>none
def isR:V1->Bool
 | .c (.ir _ _ _ _ _)=>true
 | _=>false
def aiC (op:BinOp) (x y:V1):Option V1:=match isR x,isR y with
 | false,false=>none
 | _,_=>match aj5 op x y with
   | some r=>some r
   | none=>match TA x,TA y with
     | some (l1,h1),some (l2,h2)=>match adZ op l1 h1 l2 h2 with
       | some b=>some (.c (.bl b))
       | none=>none
     | _,_=>none
def aad:V1->V1->Option (ByteArray×Bool×ByteArray×Bool)
 | .c x,.c y=>match LL x with
   | some (a,ka)=>match LL y with
     | some (b,kb)=>some (a,ka,b,kb)
     | none=>none
   | none=>none
 | _,_=>none
def mkS (s:ByteArray) (lit:Bool):V1:=.c (match lit with | true=>.st s | false=>.sv s)
def OT (a b:ByteArray):ByteArray:=⟨⟨a.data.toList++b.data.toList⟩⟩
def l8 (a:ByteArray):Nat:=a.data.toList.length
def OV (op:BinOp) (a b:ByteArray) (lit:Bool):T V1 :=
 match op with
 | .eql=>.aD (RG (D3 a b) lit)
 | .neq=>.aD (RG (!D3 a b) lit)
 | .add=>yA lit (Nat.ble (l8 a+l8 b) 9223372036854775807) (mkS (OT a b) lit)
 | _=>.fail "strBin"
def bin (op:BinOp) (t:TypeId) (cst:Bool) (x y:V1):T V1 :=
 match Jk x y with
 | some (k,a,ka,k',b,kb)=>match decide (k=k') with
   | true=>match anU op x y with
     | some r=>.aD r
     | none=>match aiC op x y with
       | some r=>.aD r
       | none=>sY op k a b (match ka with | true=>kb | false=>false)
   | false=>.fail "kinds"
 | none=>match aad x y with
   | some (a,ka,b,kb)=>OV op a b (Gr ka kb)
   | none=>match op with
     | .eql=>anc (eqV N t cst x y)
     | .neq=>anb (eqV N t cst x y)
     | _=>.fail "binOp"
def shI (op:BinOp) (k:IntKind) (a b:Int):Int :=
 match op with
 | .shl=>k.wrap (a * 2 ^ min b.toNat k.bits)
 | _=>a.fdiv (2 ^ min b.toNat k.bits)
def WS (op:BinOp) (x y:V1):T V1 :=
 match Jk x y with
 | some (k,a,ka,_,b,kb)=>yA kb (decide (0<=b)) (K4 k (shI op k a b) (Gr ka kb))
 | none=>.fail "shift"
def Ji (s:ByteArray) (n:Int):Int:=match yQ s.data.toList n.toNat with
 | some b=>(b.toNat:Int)
 | none=>0
def IJ (fs:List cO):List Cell->List (Nat×V1)->Option (List Cell)
 | l,[]=>some l
 | l,(i,x)::r=>match yQ fs i with
   | some f=>match Nat.beq f.size x.cells.length with
     | true=>match mB l f.off x.cells with | some l'=>IJ fs l' r | none=>none
     | false=>none
   | none=>none
def xU (Hc:Nat):List Cell->List (Nat×V1)->Option (List Cell)
 | l,[]=>some l
 | l,(i,x)::r=>match Nat.beq Hc x.cells.length with
   | true=>match mB l (i * Hc) x.cells with | some l'=>xU Hc l' r | none=>none
   | false=>none
def IG (k:Int):Nat->Nat->T Nat
 | 0,_=>.fail "index"
 | 1,j=>.aE (decide (k=(j:Int))) (.aD j)
 | c+2,j=>.ite (decide (k=(j:Int))) (.aD j) (IG k (c+1) (j+1))
theorem FF {k:Int}:∀{c j m:Nat},(IG k c j).val=some m->k=(m:Int) /\ j<=m /\ m < j+c
 | 0,j,m,h=>by simp [IG,T.val] at h
 | 1,j,m,h=>by
   simp only [IG,T.val] at h;split at h
   ·rename_i hb;cases h;exact⟨aaF hb,ab4 _,by omega⟩
   ·cases h
 | c+2,j,m,h=>by
   simp only [IG,T.val] at h;split at h
   ·rename_i hb;cases h;exact⟨aaF hb,ab4 _,by omega⟩
   ·obtain⟨h1,h2,h3⟩:=FF h;exact⟨h1,by omega,by omega⟩
def Zl (o:Option Nat) (k:Int) (len:Nat):T Nat:=match o with
 | none=>IG k len 0
 | some j=>.aE (decide (k=(j:Int))) (match Nat.blt j len with | true=>.aD j | false=>.fail "index")
theorem PZ {o:Option Nat} {k:Int} {len m:Nat} (h:(Zl o k len).val=some m):k=(m:Int) /\ m < len:=by
 cases o with
 | none=>obtain⟨h1,_,h3⟩:=FF h;exact⟨h1,by omega⟩
 | some j =>
   simp only [Zl,T.val] at h;split at h
   ·rename_i hb;split at h
    ·rename_i hl;cases h;exact⟨aaF hb,acZ hl⟩
    ·cases h
   ·cases h
theorem SX (n:Int):0<=IntKind.u64.wrap n /\ IntKind.u64.wrap n < 18446744073709551616:=by
 have e:IntKind.u64.wrap n=n % 18446744073709551616:=by unfold IntKind.wrap;simp [IntKind.bits,IntKind.signed]
 rw [e];omega
theorem QG {n:Int} (h:-9223372036854775808<=n /\ n < 9223372036854775808):IntKind.i64.wrap n=n:=by
 have e:IntKind.i64.wrap n=if n % 18446744073709551616>=9223372036854775808 then n % 18446744073709551616 - 18446744073709551616 else n % 18446744073709551616:=by unfold IntKind.wrap;simp [IntKind.bits,IntKind.signed]
 rw [e];split<;>omega
def N2 (k:IntKind) (c:Cell) (n:Int) (lit:Bool):V1:=match lit with
 | true=>.c (.il k (k.wrap n))
 | false=>match k with
   | .u64=>.c (.ir .u64 (IntKind.u64.wrap n) 0 18446744073709551616 (SX n))
   | .i64=>match c with
     | .ir _ m lo hi h=>match decide (0<=lo /\ hi<=9223372036854775808) with
       | true=>.c (.ir .i64 m lo hi h)
       | false=>.c (.it .i64 (IntKind.i64.wrap n))
     | _=>.c (.it .i64 (IntKind.i64.wrap n))
   | k=>.c (.it k (k.wrap n))
def ana (x off:Nat):Nat:=@Nat.rec (fun _=>Nat) x (fun _ ih=>ih.succ) off
theorem offN_eq (x:Nat):∀off,ana x off=x+off
 | 0=>rfl
 | n+1=>congrArg Nat.succ (offN_eq x n)
def one (t:Option V1) (why:String):T SV:=match t with | some x=>.aD (.v x) | none=>.fail why
def Sy (s:ByteArray) (l h:Nat):ByteArray:=⟨((s.data.toList.take h).drop l).toArray⟩
def ajZ:SV->Option (Int×Bool)
 | .v (.c c)=>match oQ c with
   | some (_,n,k)=>some (n,k)
   | none=>none
 | _=>none
def CW (ev:Operand->Option SV) (d:Int):Option Operand->Option (Int×Bool)
 | none=>some (d,true)
 | some x=>match ev x with
   | some v=>ajZ v
   | none=>none
def txO (ev:Operand->Option SV):Op->Bool
 | .slice _ x _ _ mx=>match mx with
   | some _=>false
   | none=>match ev x with
     | some (.v (.c c))=>cL (LL c)
     | _=>false
 | _=>false
def ajS (ev:Operand->Option SV) (t:TypeId) (x:Operand) (lo hi:Option Operand):T SV:=match N.tt.get t,ev x with
 | some ⟨.OW,_,_,_⟩,some (.v (.c c))=>match LL c with
   | some (s,ks)=>match CW ev 0 lo,CW ev (l8 s) hi with
     | some (l,k),some (h,k')=>.aE (decide (0<=l /\ l<=h /\ h<=(l8 s:Int))) (.aD (.v (mkS (Sy s l.toNat h.toNat) (Gr ks (Gr k k')))))
     | _,_=>.fail "slice: text"
   | none=>.fail "slice: text"
 | _,_=>.fail "slice: text"
def u6 (ev:Operand->Option SV):Op->Option (T SV)
 | .move x=>some (match ev x with | some v=>.aD v | none=>.fail "move")
 | .assign x=>some (match ev x with | some v=>.aD v | none=>.fail "assign")
 | .pick c a b=>some (match ev c,ev a,ev b with
   | some (.v (.c c)),some x,some y=>match lQ c with
     | some (t,true)=>match t with | true=>.aD x | false=>.aD y
     | some (t,false)=>.ite t (.aD x) (.aD y)
     | none=>.fail "pick"
   | _,_,_=>.fail "pick")
 | .build t parts=>some (match N.tt.get t,zY ev parts.toList with
   | some ⟨.struct fs,_,some z,_⟩,some ps=>match IJ fs z ps with
     | some l=>.aD (.v (.agg l))
     | none=>.fail "build"
   | some ⟨.gb _ Hc _,_,some z,_⟩,some ps=>match xU Hc z ps with
     | some l=>.aD (.v (.agg l))
     | none=>.fail "build"
   | _,_=>.fail "build")
 | .nilCheck x=>some (match ev x with
   | some (.v (.c (.ptr n off)))=>.aD (.v (.c (.ptr n off)))
   | some (.v (.c (.DN n i e off)))=>.aD (.v (.c (.DN n i e off)))
   | some (.v (.c (.xP t c)))=>.aD (.v (.c (.xP t c)))
   | some (.v (.c (.fn f)))=>.aD (.v (.c (.fn f)))
   | some (.xz f l)=>.aD (.xz f l)
   | _=>.fail "nilCheck")
 | .makeFunc fn first captured=>some (match fn,first.toList,Hb ev captured.toList with
   | .func f,[],some l=>match KO l with
     | some cs=>.aD (.xz f cs)
     | none=>.fail "makeFunc"
   | _,_,_=>.fail "makeFunc")
 | .fieldAddr t x i=>some (match ev x,zU N t with
   | some (.v (.c (.ptr n off))),some fs=>match yQ fs i with
     | some f=>match Nat.beq f.size 0 with
       | false=>.aD (.v (.c (.ptr n (off+f.off))))
       | true=>.fail "fieldAddr"
     | none=>.fail "fieldAddr"
   | some (.v (.c (.DN n k e off))),some fs=>match yQ fs i with
     | some f=>match Nat.beq f.size 0 with
       | false=>.aD (.v (.c (.DN n k e (off+f.off))))
       | true=>.fail "fieldAddr"
     | none=>.fail "fieldAddr"
   | _,_=>.fail "fieldAddr")
 | .field t x i=>some (match ev x,zU N t with
   | some (.v (.agg l)),some fs=>match yQ fs i with
     | some f=>one (vf f.agg f.size l f.off) "field"
     | none=>.fail "field"
   | _,_=>.fail "field")
 | .binOp op t x y _=>some (match ev x,ev y with
   | some (.v a),some (.v b)=>match wQ op with
     | true=>(WS op a b).map .v
     | false=>(bin N op t (match tM x with | true=>true | false=>tM y) a b).map .v
   | _,_=>.fail "binOp")
 | .unOp .not _ x=>some (match ev x with
   | some (.v (.c c))=>match lQ c with
     | some (b,k)=>.aD (.v (RG (!b) k))
     | none=>.fail "not"
   | _=>.fail "not")
 | .unOp .neg _ x=>some (match ev x with
   | some (.v (.c c))=>match oQ c with
     | some (k,n,l)=>.aD (.v (K4 k (k.wrap (0 - n)) l))
     | none=>.fail "neg"
   | _=>.fail "neg")
 | .slice t x lo hi mx=>match txO ev (.slice t x lo hi mx) with
   | true=>some (ajS N ev t x lo hi)
   | false=>none
 | .extract x i=>some (match ev x with
   | some (.iW l)=>match yQ l i with | some v=>.aD (.v v) | none=>.fail "extract"
   | _=>.fail "extract")
 | .makeInterface t x=>some (match ev x,N.tt.get t with
   | some (.v (.c c)),some ⟨k,_,_,_⟩=>match k with
     | .iface=>.fail "makeInterface"
     | _=>.aD (.v (.c (.xP t c)))
   | _,_=>.fail "makeInterface")
 | .indexAddr t x i=>some (match ev x,ev i,N.tt.get t with
   | some (.v (.c (.ptr n off))),some (.v (.c (.il _ k))),some ⟨.gb len sz _,_,_,_⟩=>match decide (0<=k /\ k < len) with
     | true=>.aD (.v (.c (.ptr n (off+k.toNat * sz))))
     | false=>.fail "indexAddr"
   | some (.v (.c (.DN n k0 e off))),some (.v (.c (.il _ k))),some ⟨.gb len sz _,_,_,_⟩=>match decide (0<=k /\ k < len) with
     | true=>.aD (.v (.c (.DN n k0 e (off+k.toNat * sz))))
     | false=>.fail "indexAddr"
   | some (.v (.c (.sl n o len _))),some (.v (.c (.il _ k))),some ⟨.slice sz,_,_,_⟩=>match decide (0<=k /\ k < len) with
     | true=>.aD (.v (.c (.ptr n (o+k.toNat * sz))))
     | false=>.fail "indexAddr"
   | some (.v (.c (.vs n o len es kn))),some (.v (.c ix)),some ⟨.slice sz,_,_,_⟩=>match Nat.beq es sz with
     | true=>match oQ ix with
       | some (_,k,lit)=>yA (Gr lit kn) (decide (0<=k /\ k < len)) (.v (.c (.DN n (o+k.toNat) sz 0)))
       | none=>.fail "indexAddr"
     | false=>.fail "indexAddr"
   | some (.v (.c (.ptr n off))),some (.v (.c ix)),some ⟨.gb len sz _,_,_,_⟩=>match oQ ix,Nat.ble len 16 with
     | some (_,k,_),true=>(Zl N.orc k len).map fun j=>.v (.c (.ptr n (off+j * sz)))
     | _,_=>.fail "indexAddr"
   | some (.v (.c (.DN n k0 e off))),some (.v (.c ix)),some ⟨.gb len sz _,_,_,_⟩=>match oQ ix with
     | some (_,k,_)=>.aE (decide (0<=k /\ k < len)) (.aD (.v (.c (.DN n k0 e (ana (k.toNat * sz) off)))))
     | none=>.fail "indexAddr"
   | _,_,_=>.fail "indexAddr")
 | .convert su dst x=>some (match ev x,N.tt.get su,N.tt.get dst with
   | some (.v (.c c)),some _,some ⟨.int k,_,_,_⟩=>match oQ c with
     | some (_,n,lit)=>.aD (.v (N2 k c n lit))
     | none=>.fail "convert"
   | _,_,_=>.fail "convert")
 | .index t x i=>some (match ev x,ev i,N.tt.get t with
   | some (.v (.c (.st s))),some (.v (.c ix)),some ⟨.OW,_,_,_⟩=>match oQ ix with
     | some (_,n,lit)=>(yA lit (decide (0<=n /\ n < (s.data.toList.length:Int))) (K4 .u8 (Ji s n) lit)).map .v
     | none=>.fail "index"
   | some (.v (.c (.sv s))),some (.v (.c ix)),some ⟨.OW,_,_,_⟩=>match oQ ix with
     | some (_,n,_)=>(yA false (decide (0<=n /\ n < (s.data.toList.length:Int))) (.c (.it .u8 (Ji s n)))).map .v
     | none=>.fail "index"
   | some (.v (.agg l)),some (.v (.c (.il _ k))),some ⟨.gb len sz ag,_,_,_⟩=>match decide (0<=k /\ k < len) with
     | true=>one (vf ag sz l (k.toNat * sz)) "index"
     | false=>.fail "index"
   | _,_,_=>.fail "index")
 | .call c=>match c.callee with
   | .builtin .len=>some (match c.args.toList,c.argTypes.toList with
     | [x],[t]=>match ev x,N.tt.get t with
       | some (.v (.c (.sl _ _ len _))),some ⟨.slice _,_,_,_⟩=>.aD (.v (.c (.il .i64 len)))
       | some (.v (.c .dP)),some ⟨.slice _,_,_,_⟩=>.aD (.v (.c (.il .i64 0)))
       | some (.v (.c (.sx _ _))),some ⟨.slice _,_,_,_⟩=>.aD (.v (.c (.il .i64 0)))
       | some (.v (.c (.sf _ _ _ _ _ _))),some ⟨.slice _,_,_,_⟩=>.aD (.v (.c (.il .i64 0)))
       | some (.v (.c (.vs _ _ len _ kn))),some ⟨.slice _,_,_,_⟩=>.aD (.v (K4 .i64 len kn))
       | some (.v (.c (.st s))),some ⟨.OW,_,_,_⟩=>.aD (.v (.c (.il .i64 (l8 s))))
       | some (.v (.c (.sv s))),some ⟨.OW,_,_,_⟩=>.aD (.v (.c (.it .i64 (l8 s))))
       | _,_=>.fail "len"
     | _,_=>.fail "len")
   | _=>none
 | _=>none
def ahH (t:TypeId) (a:AV) (idx es off:Nat):Option (T SV):=match N.tt.get t with
 | some i=>match N.F.K2 a idx es off i.size with
   | some (b,l)=>some (.aE b (one (vf (vA i.kd) i.size l 0) "load: range"))
   | none=>none
 | none=>none
def Fg (t:TypeId) (H:Hp AV):SV->T SV
 | .v (.c (.ptr n off))=>match af H n with
   | some (.cells l _)=>one (sH N t l off) "load: range"
   | some (.bN a)=>match N.F.word a with
     | some l=>one (sH N t l off) "load: range"
     | none=>.fail "load: no chunk"
   | _=>.fail "load: no chunk"
 | .v (.c (.DN n idx es off))=>match af H n with
   | some (.bN a)=>match ahH N t a idx es off with
     | some t=>t
     | none=>match N.F.row a idx es with
       | some (b,l)=>.aE b (one (sH N t l off) "load: range")
       | none=>.fail "load: row"
   | some (.oB l _ _)=>one (sH N t l (idx * es+off)) "load: range"
   | _=>.fail "load: no chunk"
 | _=>.fail "load: no pointer"
def kI (E:Ev) (dst:Option Nat) (v:SV):Ev:=match dst with | some d=>(d,v)::E | none=>E
def gD (H:Hp AV):Option (Nat×aK AV)->Hp AV
 | none=>H
 | some (n,c)=>de H n (some c)
inductive Tgt where
 | fn (f:FuncId) | op (o:Op)
abbrev Callee (AV:Type):=Tgt->List SV->Hp AV->T (SV×Hp AV)
def vq:List V1->List Nat
 | []=>[]
 | x::r=>eR x.cells++vq r
def mP:SV->List Nat
 | .v x=>eR x.cells
 | .iW l=>vq l
 | .lU=>[]
 | .xz _ l=>eR l
def iP:List SV->List Nat
 | []=>[]
 | x::r=>mP x++iP r
def nS:List Nat->Nat->Bool
 | [],_=>false
 | x::r,n=>match Nat.beq x n with | true=>true | false=>nS r n
def kS (H:Hp AV):Nat->List Nat->List Nat->List Nat
 | 0,_,acc=>acc
 | _+1,[],acc=>acc
 | f+1,n::r,acc=>match nS acc n with
   | true=>kS H f r acc
   | false=>match af H n with
     | some (.cells l _)=>kS H f (eR l++r) (n::acc)
     | some (.oB l _ _)=>kS H f (eR l++r) (n::acc)
     | _=>kS H f r (n::acc)
def ud:List Nat->Nat
 | []=>0
 | n::r=>Nat.lor (Nat.shiftLeft 1 n) (ud r)
def iH (R:List Nat) (n:Nat):Bool:=match Nat.land (Nat.shiftRight (ud R) n) 1 with
 | 0=>false
 | _+1=>true
def jT (R:List Nat):Nat->Hp AV->Hp AV
 | _,[]=>[]
 | i,x::r=>(match iH R i with | true=>x | false=>none)::jT R (i+1) r
def dr (R:List Nat):Nat->Hp AV->Hp AV->Hp AV
 | _,[],b=>b
 | _,a,[]=>a
 | i,none::r,_::q=>none::dr R (i+1) r q
 | i,some x::r,y::q=>(match iH R i with | true=>y | false=>some x)::dr R (i+1) r q
def xL:Hp AV->Hp AV->Bool
 | [],_=>true
 | none::r,none::q=>xL r q
 | some _::r,some _::q=>xL r q
 | _,_=>false
def xV (cX:Callee AV) (gn:List Nat) (f:Tgt) (args:List SV) (H:Hp AV):T (SV×Hp AV) :=
 match jT (kS H 400 (iP args++gn) []) 0 H with
 | A=>match BP A args with
   | false=>.fail "call: arguments"
   | true=>match qy A A with
     | false=>.fail "call: heap"
     | true=>(cX f args A).bind fun r=>match xL A r.2 with
       | false=>.fail "call: lost"
       | true=>.aD (r.1,dr (kS H 400 (iP args++gn) []) 0 H r.2)
def yB:Tgt->List Nat
 | .fn f=>match N.gu.get f with | some l=>l | none=>[]
 | .op _=>[]
abbrev Arr:=List Cell×Nat×TypeId×Nat
def PD (t:TypeId) (a b:Option SV):Option Arr :=
 match N.sl.get t,a,b with
 | some si,some (.v (.c (.il _ n))),some (.v (.c (.il _ c)))=>match decide (0<=n /\ n<=c /\ c.toNat * (si.bytes+1)<=zF) with
   | true=>some (kR si.zero c.toNat,si.size,si.e,n.toNat)
   | false=>none
 | _,_,_=>none
def Ke (t:TypeId) (len:Nat) (ps:Option (List (Nat×V1))):Option Arr :=
 match N.sl.get t,ps with
 | some si,some ps=>match xU si.size (kR si.zero len) ps,Nat.ble (len * si.size) 16777216 with
   | some l,true=>some (l,si.size,si.e,len)
   | _,_=>none
 | _,_=>none
def oN (nm:Nat) (H:Hp AV):Option Arr->T (SV×Option (Nat×aK AV))
 | some (l,es,e,len)=>match af H nm,Nat.blt nm H.length,Nat.blt nm N.G with
   | none,true,false=>.aD (.v (.c (.vs nm 0 len es true)),some (nm,.oB l es e))
   | _,_,_=>.fail "make"
 | none=>.fail "make"
def PC (t:TypeId) (a b:Option SV):Option (Bool×AV×Nat×Nat) :=
 match N.sl.get t,a,b with
 | some si,some (.v (.c x)),some (.v (.c y))=>match oQ x,oQ y with
   | some (_,n,_),some (_,c,_)=>match N.F.zer si.zero si.size si.e n.toNat with
     | some a=>some (decide (0<=n /\ n=c /\ n.toNat * (si.bytes+1)<=zF),a,si.size,n.toNat)
     | none=>none
   | _,_=>none
 | _,_,_=>none
def vu (nm:Nat) (H:Hp AV):Option (Bool×AV×Nat×Nat)->T (SV×Option (Nat×aK AV))
 | some (b,a,es,len)=>match af H nm,Nat.blt nm H.length,Nat.blt nm N.G with
   | none,true,false=>.aE b (.aD (.v (.c (.vs nm 0 len es false)),some (nm,.bN a)))
   | _,_,_=>.fail "make"
 | none=>.fail "make"
def zH (nm:Nat) (H:Hp AV) (k:Option Arr) (z:Option (Bool×AV×Nat×Nat)):T (SV×Option (Nat×aK AV)):=match k with
 | some a=>oN N nm H (some a)
 | none=>vu N nm H z
def CX (ev:Operand->Option SV) (d:Nat):Option Operand->Option Nat
 | none=>some d
 | some x=>match ev x with
   | some (.v (.c (.il _ n)))=>match decide (0<=n) with | true=>some n.toNat | false=>none
   | _=>none
structure SPt where
 t:TypeId
 n:Nat
 o:Nat
 es:Nat
 len:Nat
 l:Nat
 h:Nat
def Ce (ev:Operand->Option SV):Op->Option SPt
 | .slice t x lo hi mx=>match mx with
   | some _=>none
   | none=>match ev x with
     | some (.v (.c (.vs n o len es true)))=>match CX ev 0 lo,CX ev len hi with
       | some l,some h=>match Nat.blt l h,Nat.ble h len with
         | true,true=>some ⟨t,n,o,es,len,l,h⟩
         | _,_=>none
       | _,_=>none
     | _=>none
 | _=>none
def Ds (H:Hp AV) (p:SPt):T (SV×Option (Nat×aK AV)):=match N.sl.get p.t,af H p.n with
 | some si,some (.oB Kg es2 _)=>match Nat.beq p.es si.size,Nat.beq p.es es2,Nat.ble ((p.o+p.len) * p.es) Kg.length with
   | true,true,true=>.aD (.v (.c (.vs p.n (p.o+p.l) (p.h - p.l) p.es true)),none)
   | _,_,_=>.fail "slice"
 | _,_=>.fail "slice"
def lL (nm:Nat) (ev:Operand->Option SV) (H:Hp AV) (o:Op):T (SV×Option (Nat×aK AV)) :=
 match u6 N ev o with
 | some t=>t.map fun v=>(v,none)
 | none=>match o with
   | .alloc t=>match N.tt.get t,af H nm,Nat.blt nm H.length,Nat.blt nm N.G with
     | some ⟨_,_,some z,_⟩,none,true,false=>.aD (.v (.c (.ptr nm 0)),some (nm,.cells z t))
     | _,_,_,_=>.fail "alloc"
   | .box t x=>match ev x,af H nm,Nat.blt nm H.length,Nat.blt nm N.G with
     | some (.v v),none,true,false=>.aD (.v (.c (.ptr nm 0)),some (nm,.cells v.cells t))
     | _,_,_,_=>.fail "box"
   | .load t a=>match ev a with
     | some v=>(Fg N t H v).map fun v=>(v,none)
     | none=>.fail "load"
   | .store t a x=>match ev a,ev x with
     | some (.v (.c (.ptr n off))),some (.v v)=>match af H n,N.tt.get t with
       | some (.cells l ty),some i=>match Nat.beq i.size v.cells.length with
         | true=>match mB l off v.cells with
           | some l'=>.aD (ee,some (n,.cells l' ty))
           | none=>.fail "store: range"
         | false=>.fail "store: size"
       | _,_=>.fail "store: no chunk"
     | some (.v (.c (.DN n idx es off))),some (.v v)=>match af H n,N.tt.get t with
       | some (.oB l ve ty),some i=>match Nat.beq i.size v.cells.length with
         | true=>match Nat.beq i.size 0 with
           | true=>.fail "store: size"
           | false=>match mB l (idx * es+off) v.cells with
             | some l'=>.aD (ee,some (n,.oB l' ve ty))
             | none=>.fail "store: range"
         | false=>.fail "store: size"
       | some (.bN a),some i=>match Nat.beq i.size v.cells.length with
         | true=>match N.F.xC a idx es off v.cells with
           | some (b,a')=>.aE b (.aD (ee,some (n,.bN a')))
           | none=>.fail "store: upd"
         | false=>.fail "store: size"
       | _,_=>.fail "store: no chunk"
     | _,_=>.fail "store: no pointer"
   | .makeSlice t x y=>zH N nm H (PD N t (ev x) (ev y)) (PC N t (ev x) (ev y))
   | .buildSlice t len parts=>oN N nm H (Ke N t len (zY ev parts.toList))
   | .slice t x lo hi mx=>match Ce ev (.slice t x lo hi mx) with
     | some p=>Ds N H p
     | none=>.fail "op"
   | _=>.fail "op"
def af3:Op->Bool
 | .slice _ _ _ _ _=>true
 | .makeMap _ _=>true
 | .lookup _ _ _ _=>true
 | .mapUpdate _ _ _ _=>true
 | .call c=>match c.callee with
   | .builtin .append=>true
   | .builtin .copy=>true
   | .builtin .delete=>true
   | .builtin .clear=>true
   | .builtin .min=>true
   | .builtin .max=>true
   | _=>false
 | _=>false
def slC:Cell->Bool
 | .vs _ _ _ _ _=>true
 | .dP=>true
 | .sx _ _=>true
 | .sf _ _ _ _ _ _=>true
 | _=>false
def mpC:Cell->Bool
 | .mp _=>true
 | _=>false
def agm (f:Cell->Bool):Option SV->Bool
 | some (.v (.c c))=>f c
 | _=>false
def FC (ev:Operand->Option SV) (o:Op):Bool:=match af3 o with
 | true=>match Ce ev o with
   | some _=>false
   | none=>(match txO ev o with | true=>false | false=>true)
 | false=>match o with
   | .convert _ _ x=>agm slC (ev x)
   | .call c=>match c.callee with
     | .builtin .len=>match c.args.toList with
       | [x]=>agm mpC (ev x)
       | _=>false
     | _=>false
   | _=>false
def rB (ev:Operand->Option SV) (o:Op):Option (Option (Tgt×List SV)) :=
 match FC ev o with
 | true=>some (match Hb ev o.operands.toList with
   | some l=>some (.op o,l)
   | none=>none)
 | false=>match o with
   | .call c=>match c.callee with
     | .value f=>some (match ev f,Hb ev c.args.toList with
       | some (.v (.c (.fn g))),some l=>match N.ft.get g with
         | some _=>some (.fn g,l)
         | none=>none
       | some (.xz g cs),some l=>match N.ft.get g with
         | some _=>some (.fn g,l++svs cs)
         | none=>none
       | _,_=>none)
     | .invoke r m=>some (match ev r,Hb ev c.args.toList with
       | some (.v (.c (.xP t x))),some l=>match N.mt t m with
         | some g=>match N.ft.get g with
           | some _=>some (.fn g,.v (.c x)::l)
           | none=>none
         | none=>none
       | _,_=>none)
     | _=>none
   | _=>none
inductive SR where
 | yes | no | cond (b:Bool)
def SR.ok:SR->Bool
 | .yes=>true
 | .no=>false
 | .cond b=>b
inductive rD where
 | pure | rd (n:Nat) | wr (n:Nat) | call (R:List Nat) (U:Nat->SR)
def nJ (l:List Cell) (t:TypeId) (l':List Cell) (t':TypeId):Bool:=@decide (l=l' /\ t=t') (Classical.propDecidable _)
def afJ:Option (aK AV)->Option (aK AV)->SR
 | some (.bN a),some (.bN b)=>match N.F.rF a b with | true=>.yes | false=>.no
 | some (.cells l t),some (.cells l' t')=>.cond (nJ l t l' t')
 | _,_=>.no
def Fs (R:List Nat) (H H':Hp AV) (n:Nat):SR:=match iH R n with
 | true=>afJ N (af H n) (af H' n)
 | false=>.no
def gy (nm:Nat) (ev:Operand->Option SV) (H H':Hp AV) (o:Op):rD :=
 match rB N ev o with
 | some (some (g,l))=>.call (kS H 400 (iP l++yB N g) []) (Fs N (kS H 400 (iP l++yB N g) []) H H')
 | some none=>.pure
 | none=>match o with
   | .alloc _=>.wr nm
   | .box _ _=>.wr nm
   | .makeSlice _ _ _=>.wr nm
   | .buildSlice _ _ _=>.wr nm
   | .load _ a=>match ev a with
     | some (.v (.c (.ptr n _)))=>.rd n
     | some (.v (.c (.DN n _ _ _)))=>.rd n
     | _=>.pure
   | .store _ a _=>match ev a with
     | some (.v (.c (.ptr n _)))=>.wr n
     | some (.v (.c (.DN n _ _ _)))=>.wr n
     | _=>.pure
   | .slice t x lo hi mx=>match Ce ev (.slice t x lo hi mx) with
     | some p=>.rd p.n
     | none=>.pure
   | _=>.pure
def nG (cX:Callee AV) (nm:Nat) (o:Oper) (s:St AV):T (St AV) :=
 match rB N (rP N.G s.H s.E) o.op with
 | some (some (g,l))=>(xV cX (yB N g) g l s.H).bind fun r=>.aD {E:=kI s.E o.dst r.1,H:=r.2}
 | some none=>.fail "call"
 | none=>(lL N nm (rP N.G s.H s.E) s.H o.op).bind fun r=>.aD {E:=kI s.E o.dst r.1,H:=gD s.H r.2}
def E7:Op->Bool
 | .alloc _=>true
 | .box _ _=>true
 | .makeSlice _ _ _=>true
 | .buildSlice _ _ _=>true
 | _=>false
def fG:List Oper->Nat
 | []=>0
 | o::r=>match E7 o.op with | true=>fG r+1 | false=>fG r
def o8:List Oper->Nat->Nat->Nat
 | [],b,_=>b
 | _,b,0=>b
 | o::r,b,i+1=>match E7 o.op with | true=>o8 r (b+1) i | false=>o8 r b i
def kV (AV:Type):Nat->Hp AV
 | 0=>[]
 | n+1=>none::kV AV n
def IE (H:Hp AV) (k:Nat):Hp AV:=match k with
 | 0=>H
 | k+1=>H++kV AV (k+1)
theorem growH_eq (H:Hp AV) (k:Nat):IE H k=H++kV AV k:=by
 cases k with
 | zero=>simp [IE,kV]
 | succ k=>rfl
def iO (all:List Oper) (o:Oper) (E:Ev):Option (Bool×Bool) :=
 match o.guard with
 | none=>some (true,true)
 | some (j,want)=>match yQ all j with
   | some oj=>match oj.dst with
     | some d=>match aJ E d with
       | .lU=>none
       | .v (.c c)=>match lQ c with
         | some (b,k)=>some (b==want,k)
         | none=>some (false,true)
       | _=>some (false,true)
     | none=>some (false,true)
   | none=>some (false,true)
def nB (cX:Callee AV) (base:Nat) (all:List Oper) (i:Nat) (o:Oper) (s:St AV):T (St AV×rD) :=
 match iO all o s.E with
 | none=>.fail "guard"
 | some (b,true)=>match b with
   | true=>(nG N cX (o8 all base i) o s).map fun s'=>(s',gy N (o8 all base i) (rP N.G s.H s.E) s.H s'.H o.op)
   | false=>.aD ({s with E:=kI s.E o.dst ee},.pure)
 | some (b,false)=>.ite b ((nG N cX (o8 all base i) o s).map fun s'=>(s',gy N (o8 all base i) (rP N.G s.H s.E) s.H s'.H o.op)) (.aD ({s with E:=kI s.E o.dst ee},.pure))
def pD (cX:Callee AV) (base:Nat) (all:List Oper):Nat->List Oper->St AV->T (St AV)
 | _,[],s=>.aD s
 | i,o::r,s=>(nB N cX base all i o s).bind fun x=>pD cX base all (i+1) r x.1
def eE:rD->rD->Bool
 | .pure,_=>true
 | _,.pure=>true
 | .rd _,.rd _=>true
 | .rd n,.wr m=>!Nat.beq n m
 | .wr n,.rd m=>!Nat.beq n m
 | .wr n,.wr m=>!Nat.beq n m
 | .rd n,.call R U=>match iH R n with | true=>(U n).ok | false=>true
 | .wr n,.call R _=>!iH R n
 | .call R U,.rd n=>match iH R n with | true=>(U n).ok | false=>true
 | .call R _,.wr n=>!iH R n
 | .call _ _,.call _ _=>false
def rm:List Edge->Nat->Bool
 | [],_=>false
 | e::r,i=>match Region.binds .any e with
   | true=>match Nat.beq e.on i with | true=>true | false=>rm r i
   | false=>rm r i
def U2 (rec:Nat->Bool):List Edge->Bool
 | []=>false
 | e::r=>match Region.binds .any e with
   | true=>match rec e.on with | true=>true | false=>U2 rec r
   | false=>U2 rec r
def rf (all:List Oper):Nat->Nat->Nat->Bool
 | 0,_,_=>false
 | f+1,j,i=>match yQ all j with
   | none=>false
   | some o=>match rm o.after.toList i with
     | true=>true
     | false=>U2 (fun k=>rf all f k i) o.after.toList
def Ff (all:List Oper) (j:Nat) (en:rD):List (Nat×rD)->Bool
 | []=>true
 | (i,x)::r=>match eE x en with
   | true=>Ff all j en r
   | false=>match rf all 12 j i with
     | true=>Ff all j en r
     | false=>false
def pL:rD->rD->SR
 | .rd n,.call R U=>match iH R n with | true=>U n | false=>.yes
 | .call R U,.rd n=>match iH R n with | true=>U n | false=>.yes
 | a,b=>match eE a b with | true=>.yes | false=>.no
def PF (all:List Oper) (j:Nat) (en:rD):List (Nat×rD)->Option (List Bool)
 | []=>some []
 | (i,x)::r=>match pL x en with
   | .yes=>PF all j en r
   | .no=>match rf all 12 j i with
     | true=>PF all j en r
     | false=>none
   | .cond b=>match rf all 12 j i with
     | true=>PF all j en r
     | false=>match PF all j en r with
       | some l=>some (b::l)
       | none=>none
def X4 {α:Type}:List Bool->T α->T α
 | [],t=>t
 | b::r,t=>.aE b (X4 r t)
def nX (i:Nat):List Edge->Bool
 | []=>true
 | e::r=>match Region.binds .any e with
   | true=>match Nat.blt e.on i with | true=>nX i r | false=>false
   | false=>nX i r
def pW (bY:Array Oper) (j:Nat) (oj:Oper):Nat->List Oper->Bool
 | _,[]=>true
 | i,oi::r=>match Nat.blt i j with
   | false=>true
   | true=>match rm oj.after.toList i with
     | true=>pW bY j oj (i+1) r
     | false=>match oi.apart bY oj with | true=>pW bY j oj (i+1) r | false=>false
def s9 (bY:Array Oper) (all:List Oper):Nat->List Oper->Bool
 | _,[]=>true
 | j,oj::r=>match pW bY j oj 0 all with | true=>s9 bY all (j+1) r | false=>false
def mK (cX:Callee AV) (base:Nat) (all:List Oper):Nat->List Oper->List (Nat×rD)->St AV->T (St AV)
 | _,[],_,s=>.aD s
 | i,o::r,log,s=>match nX i o.after.toList with
   | false=>.fail "an edge upwards"
   | true=>(nB N cX base all i o s).bind fun x=>match Ff all i x.2 log with
     | true=>mK cX base all (i+1) r ((i,x.2)::log) x.1
     | false=>.fail "the order matters"
abbrev Jv:=List (Nat×Bool)
def vt:Jv->Nat->Option Bool
 | [],_=>none
 | (k,b)::r,n=>match Nat.beq k n with | true=>some b | false=>vt r n
def I4:Jv->Nat->Jv
 | [],_=>[]
 | (k,b)::r,n=>match Nat.beq k n with | true=>I4 r n | false=>(k,b)::I4 r n
def Ct (A:Jv):Option Nat->Jv
 | none=>A
 | some d=>I4 A d
def ajq (all:List Oper) (o:Oper):Option (Nat×Bool) :=
 match o.guard with
 | none=>none
 | some (j,want)=>match yQ all j with
   | none=>none
   | some oj=>match oj.dst with
     | none=>none
     | some d=>some (d,want)
def afv (A:Jv) (ev:Operand->Option SV):Op->Option (T SV)
 | .pick (.tmp t) a b=>match vt A t with
   | none=>none
   | some x=>some (match ev (.tmp t),ev a,ev b with
     | some (.v (.c c)),some p,some q=>match lQ c with
       | some _=>match x with | true=>.aD p | false=>.aD q
       | none=>.fail "pick"
     | _,_,_=>.fail "pick")
 | _=>none
def IZ (cX:Callee AV) (base:Nat) (all:List Oper) (i:Nat) (o:Oper) (A B:Jv) (s:St AV):T (St AV×rD×Jv) :=
 match afv A (rP N.G s.H s.E) o.op with
 | some t=>t.map fun v=>({s with E:=kI s.E o.dst v},.pure,Ct B o.dst)
 | none=>(nG N cX (o8 all base i) o s).map fun s'=>(s',gy N (o8 all base i) (rP N.G s.H s.E) s.H s'.H o.op,Ct B o.dst)
def JM (cX:Callee AV) (base:Nat) (all:List Oper) (i:Nat) (o:Oper) (A:Jv) (s:St AV):T (St AV×rD×Jv) :=
 match iO all o s.E with
 | none=>.fail "guard"
 | some (b,true)=>match b with
   | true=>IZ N cX base all i o A A s
   | false=>.aD ({s with E:=kI s.E o.dst ee},.pure,Ct A o.dst)
 | some (b,false)=>match ajq all o with
   | none=>.fail "guard"
   | some (d,want)=>match vt A d with
     | some x=>match x==want with
       | true=>IZ N cX base all i o A A s
       | false=>.aD ({s with E:=kI s.E o.dst ee},.pure,Ct A o.dst)
     | none=>.ite b (IZ N cX base all i o A ((d,want)::A) s) (.aD ({s with E:=kI s.E o.dst ee},.pure,Ct ((d,!want)::A) o.dst))
def ar8:rD->Bool
 | .pure=>true
 | .rd _=>true
 | .wr _=>false
 | .call [] _=>true
 | .call (_::_) _=>false
def AY (q:Bool) (en:rD) (H H':Hp AV):Bool :=
 match q with
 | false=>false
 | true=>match en with
   | .pure=>true
   | .rd _=>true
   | .wr _=>false
   | .call [] _=>Nat.beq H.length H'.length
   | .call (_::_) _=>false
def uO (cX:Callee AV) (base:Nat) (all:List Oper):Nat->List Oper->Jv->Bool->St AV->T (St AV×Bool)
 | _,[],_,q,s=>.aD (s,q)
 | i,o::r,A,q,s=>(JM N cX base all i o A s).bind fun x=>uO cX base all (i+1) r x.2.2 (AY q x.2.1 s.H x.1.H) x.1
def sg (cX:Callee AV) (base:Nat) (all:List Oper):Nat->List Oper->List (Nat×rD)->Jv->Bool->St AV->T (St AV×Bool)
 | _,[],_,_,q,s=>.aD (s,q)
 | i,o::r,log,A,q,s=>match nX i o.after.toList with
   | false=>.fail "an edge upwards"
   | true=>(JM N cX base all i o A s).bind fun x=>match PF all i x.2.1 log with
     | some l=>X4 l (sg cX base all (i+1) r ((i,x.2.1)::log) x.2.2 (AY q x.2.1 s.H x.1.H) x.1)
     | none=>.fail "the order matters"
def RY (b:Bool) (x y:Cell):Option Cell :=
 match lQ x,lQ y with
 | some (p,kp),some (q,kq)=>match Gr (Gr kp kq) (p==q) with
   | true=>some (.bl p)
   | false=>some (.bt (match b with | true=>p | false=>q))
 | _,_=>match oQ x,oQ y with
   | some (k,p,_),some (k',q,_)=>match decide (k=k') with
     | true=>some (.it k (match b with | true=>p | false=>q))
     | false=>none
   | _,_=>none
def Fx (b:Bool):List Cell->List Cell->Option (List Cell)
 | [],[]=>some []
 | x::xs,y::ys=>match RY b x y with
   | some c=>match Fx b xs ys with | some l=>some (c::l) | none=>none
   | none=>none
 | _,_=>none
def ur (b:Bool):SV->SV->SV
 | .v (.c x),.v (.c y)=>match RY b x y with | some c=>.v (.c c) | none=>.lU
 | .v (.agg x),.v (.agg y)=>match Fx b x y with | some l=>.v (.agg l) | none=>.lU
 | _,_=>.lU
def vw (b:Bool):Ev->Ev->Option Ev
 | [],[]=>some []
 | (k,v)::r,(k',u)::q=>match Nat.beq k k' with
   | true=>match vw b r q with
     | some z=>some ((k,ur b v u)::z)
     | none=>none
   | false=>none
 | _,_=>none
def Qz (n:Option Bool):Option Ev->Option (Option Bool×Ev)
 | some z=>some (n,z)
 | none=>none
def FG:Nat->Ev->Ev
 | 0,_=>[]
 | _+1,[]=>[]
 | n+1,x::r=>x::FG n r
def sO (E:Ev):T (St AV×Bool)->Option (Option Bool×Ev)
 | .aD s=>match s.2 with
   | true=>some (none,FG (s.1.E.length - E.length) s.1.E)
   | false=>none
 | .aE b t=>match sO E t with
   | some (none,W)=>some (some b,W)
   | some (some n,W)=>some (some (match b with | true=>n | false=>false),W)
   | none=>none
 | .ite b t e=>match sO E t,sO E e with
   | some (none,W),some (none,X)=>Qz none (vw b W X)
   | some (some n,W),some (none,X)=>Qz (some (match b with | true=>n | false=>true)) (vw b W X)
   | some (none,W),some (some m,X)=>Qz (some (match b with | true=>true | false=>m)) (vw b W X)
   | some (some n,W),some (some m,X)=>Qz (some (match b with | true=>n | false=>m)) (vw b W X)
   | _,_=>none
 | .fail _=>none
def asX {α:Type}:T α->Bool
 | .aD _=>true
 | _=>false
def RX (s:St AV) (t:T (St AV×Bool)):T (St AV) :=
 match asX t with
 | true=>t.map fun r=>r.1
 | false=>match sO s.E t with
   | some (none,W)=>.aD {s with E:=W++s.E}
   | some (some n,W)=>.aE n (.aD {s with E:=W++s.E})
   | none=>t.map fun r=>r.1
def FU (nt:Nat):List Oper->Bool
 | []=>true
 | o::r=>match o.dst with
   | none=>FU nt r
   | some d=>match Nat.blt d nt with | true=>FU nt r | false=>false
def vT:Code->Option Nat
 | .region id _ _=>some id
 | .seq a b=>match vT a with | some n=>some n | none=>vT b
 | .cond _ a b=>match vT a with | some n=>some n | none=>vT b
 | .block _ c=>vT c
 | .loop c=>vT c
 | _=>none
def ON (E:Ev):Nat->Ev
 | 0=>[]
 | k+1=>(k,aJ E k)::ON E k
def rounds (nt:Nat) (body:St AV->T (Ex×St AV)):Nat->St AV->T (Ex×St AV)
 | 0,_=>.fail "loop: too many rounds"
 | n+1,s=>(body s).bind fun r=>match r.1 with
   | .normal=>rounds nt body n {r.2 with E:=ON r.2.E nt}
   | e=>.aD (e,r.2)
def xc (cX:Callee AV) (lp:Nat->Option (St AV->T (Ex×St AV))) (nt:Nat):Code->St AV->T (Ex×St AV)
 | .skip,s=>.aD (.normal,s)
 | .label _,s=>.aD (.normal,s)
 | .region _ bY d,s=>match FU nt bY.toList with
   | false=>.fail "temporaries"
   | true=>match d with
     | false=>(RX {s with H:=IE s.H (fG bY.toList)} (uO N cX s.H.length bY.toList 0 bY.toList [] true {s with H:=IE s.H (fG bY.toList)})).bind fun s=>.aD (.normal,s)
     | true=>match s9 bY bY.toList 0 bY.toList,Nat.ble N.G s.H.length with
       | false,_=>.fail "not apart"
       | true,false=>.fail "variables"
       | true,true=>(RX {s with H:=IE s.H (fG bY.toList)} (sg N cX s.H.length bY.toList 0 bY.toList [] [] true {s with H:=IE s.H (fG bY.toList)})).bind fun s=>.aD (.normal,s)
 | .seq a b,s=>(xc cX lp nt a s).bind fun r=>match r.1 with
   | .normal=>xc cX lp nt b r.2
   | e=>.aD (e,r.2)
 | .cond c a b,s=>match rP N.G s.H s.E c with
   | some (.v (.c x))=>match lQ x with
     | some (t,true)=>match t with | true=>xc cX lp nt a s | false=>xc cX lp nt b s
     | some (t,false)=>.ite t (xc cX lp nt a s) (xc cX lp nt b s)
     | none=>.fail "cond"
   | _=>.fail "cond"
 | .block id c,s=>(xc cX lp nt c s).bind fun r=>match r.1 with
   | .exit j=>match Nat.beq j id with | true=>.aD (.normal,r.2) | false=>.aD r
   | _=>.aD r
 | .exit id,s=>.aD (.exit id,s)
 | .ret,s=>.aD (.ret,s)
 | .loop c,s=>match vT c with
   | none=>.fail "loop"
   | some id=>match lp id with
     | some g=>g s
     | none=>rounds nt (xc cX lp nt c) 3000 s
 | _,_=>.fail "code"
def L8 (s:St AV):List ResultVar->T (List V1)
 | []=>.aD []
 | .tmp t::r=>match aJ s.E t with
   | .v x=>(L8 s r).map fun l=>x::l
   | _=>.fail "result"
 | .cell a t::r=>match aJ s.E a with
   | .v (.c (.ptr n off))=>match af s.H n with
     | some (.cells l _)=>match sH N t l off with
       | some x=>(L8 s r).map fun l=>x::l
       | none=>.fail "result"
     | _=>.fail "result"
   | _=>.fail "result"
def pr:List V1->SV
 | [x]=>.v x
 | l=>.iW l
def xF (len:Nat) (R:List Nat):Nat->Hp AV->Hp AV
 | _,[]=>[]
 | i,x::r=>(match Nat.blt i len with | true=>x | false=>match nS R i with | true=>x | false=>none)::xF len R (i+1) r
def DU:Nat->Hp AV->Hp AV
 | 0,[]=>[]
 | 0,none::r=>match DU 0 r with
   | []=>[]
   | q=>none::q
 | 0,some c::r=>some c::DU 0 r
 | _+1,[]=>[]
 | n+1,x::r=>x::DU n r
def EW:Nat->Hp AV->List Nat
 | 0,_=>[]
 | _+1,[]=>[]
 | n+1,some (.cells l _)::r=>eR l++EW n r
 | n+1,some (.oB l _ _)::r=>eR l++EW n r
 | n+1,_::r=>EW n r
def gcH (len:Nat) (v:SV) (H:Hp AV):Hp AV :=
 DU len (xF len (kS H 400 (mP v++EW len H) []) 0 H)
def pad:Nat->List SV->Ev
 | _,[]=>[]
 | n,x::r=>(n,x)::pad (n+1) r
def ahw (cX:Callee AV) (f:FuncId) (args:List SV) (H:Hp AV):T (SV×Hp AV) :=
 match N.ft.get f with
 | some fn=>match fn.body with
   | some c=>match Nat.ble args.length fn.ntmps with
     | false=>.fail "arguments"
     | true=>(xc N cX (N.lp f) fn.ntmps c {E:=pad 0 args,H:=H}).bind fun r=>match r.1 with
       | .exit _=>.fail "exit"
       | _=>(L8 N r.2 fn.results.toList).bind fun l=>match gcH H.length (pr l) r.2.H with
         | H'=>match SD H' (pr l) with
           | false=>.fail "result: names"
           | true=>match qy H' H' with
             | false=>.fail "result: heap"
             | true=>.aD (pr l,H')
   | none=>.fail "no body"
 | none=>.fail "no function"
def pa (len:Nat):T (SV×Hp AV)->Option (Option Bool×SV)
 | .aD r=>match Nat.beq r.2.length len with
   | true=>some (none,r.1)
   | false=>none
 | .aE b t=>match pa len t with
   | some (none,v)=>some (some b,v)
   | some (some n,v)=>some (some (match b with | true=>n | false=>false),v)
   | none=>none
 | .ite b t e=>match pa len t,pa len e with
   | some (none,v),some (none,u)=>some (none,ur b v u)
   | some (some n,v),some (none,u)=>some (some (match b with | true=>n | false=>true),ur b v u)
   | some (none,v),some (some m,u)=>some (some (match b with | true=>true | false=>m),ur b v u)
   | some (some n,v),some (some m,u)=>some (some (match b with | true=>n | false=>m),ur b v u)
   | _,_=>none
 | .fail _=>none
def Ak:Hp AV->Bool
 | []=>true
 | none::r=>Ak r
 | some _::_=>false
def afL:SV->Bool
 | .lU=>true
 | _=>false
def bE (cX:Callee AV):Callee AV:=fun f args A =>
 match Ak A with
 | false=>cX f args A
 | true=>match cX f args A with
   | .aD r=>.aD r
   | t=>match pa A.length t with
     | some (n,v)=>match afL v with
       | true=>t
       | false=>match SD A v,xL A A with
         | true,true=>match n with
           | none=>.aD (v,A)
           | some b=>.aE b (.aD (v,A))
         | _,_=>t
     | none=>t
def Y9 (N:eI AV) (o:Op) (args:List SV) (H:Hp AV):T (SV×Hp AV):=N.hv o args H
def lv (tab:FuncId->Option (List SV->Hp AV->T (SV×Hp AV))):Nat->Callee AV
 | 0=>fun g args H=>match g with
   | .op o=>Y9 N o args H
   | .fn f=>match tab f with
     | some g=>g args H
     | none=>.fail "depth"
 | n+1=>fun g args H=>match g with
   | .op o=>Y9 N o args H
   | .fn f=>match tab f with
     | some g=>g args H
     | none=>ahw N (bE (lv tab n)) f args H
