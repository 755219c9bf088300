import Derived.Test.YtcpdipfepeccgaaGreatDoorSxA
set_option linter.unusedVariables false
set_option linter.unusedSimpArgs false
set_option maxHeartbeats 4000000
namespace Go.Sx.Q
open Go Go.Sx
noncomputable section
variable {AV:Type}
def bind {α β:Type} (t:T α) (f:α->T β):T β:=@T.rec α (fun _=>T β) (fun a=>f a) (fun b _ _ t e=>.ite b t e) (fun b _ t=>.need b t) (fun w=>.fail w) t
def map {α β:Type} (f:α->β) (t:T α):T β:=@T.rec α (fun _=>T β) (fun a=>.leaf (f a)) (fun b _ _ t e=>.ite b t e) (fun b _ t=>.need b t) (fun w=>.fail w) t
def hget (H:Hp AV) (n:Nat):Option (Chunk AV):=@List.rec (Option (Chunk AV)) (fun _=>Nat->Option (Chunk AV)) (fun _=>none) (fun x _ ih n=>@Nat.rec (fun _=>Option (Chunk AV)) x (fun m _=>ih m) n) H n
def nth {α:Type} (l:List α) (n:Nat):Option α:=@List.rec α (fun _=>Nat->Option α) (fun _=>none) (fun x _ ih n=>@Nat.rec (fun _=>Option α) (some x) (fun m _=>ih m) n) l n
def lset {α:Type} (l:List α) (n:Nat) (y:α):List α:=@List.rec α (fun _=>Nat->List α) (fun _=>[]) (fun x r ih n=>@Nat.rec (fun _=>List α) (y::r) (fun m _=>x::ih m) n) l n
def look (E:Ev) (n:Nat):SV:=@List.rec (Nat×SV) (fun _=>SV) bc (fun x _ ih=>@Bool.rec (fun _=>SV) ih x.2 (Nat.beq x.1 n)) E
def ltake (l:List Cell) (n:Nat):Option (List Cell):=@List.rec Cell (fun _=>Nat->Option (List Cell)) (fun n=>@Nat.rec (fun _=>Option (List Cell)) (some []) (fun _ _=>none) n) (fun x _ ih n=>@Nat.rec (fun _=>Option (List Cell)) (some []) (fun m _=>match ih m with | some r=>some (x::r) | none=>none) n) l n
def lsub (l:List Cell) (k n:Nat):Option (List Cell):=@List.rec Cell (fun _=>Nat->Option (List Cell)) (fun k=>@Nat.rec (fun _=>Option (List Cell)) (ltake [] n) (fun _ _=>none) k) (fun x r ih k=>@Nat.rec (fun _=>Option (List Cell)) (ltake (x::r) n) (fun m _=>ih m) k) l k
def lput0 (l ys:List Cell):Option (List Cell):=@List.rec Cell (fun _=>List Cell->Option (List Cell)) (fun ys=>match ys with | []=>some [] | _::_=>none) (fun x r ih ys=>match ys with | []=>some (x::r) | y::zs=>match ih zs with | some q=>some (y::q) | none=>none) l ys
def lput (l:List Cell) (n:Nat) (ys:List Cell):Option (List Cell):=@List.rec Cell (fun _=>Nat->Option (List Cell)) (fun n=>@Nat.rec (fun _=>Option (List Cell)) (lput0 [] ys) (fun _ _=>none) n) (fun x r ih n=>@Nat.rec (fun _=>Option (List Cell)) (lput0 (x::r) ys) (fun m _=>match ih m with | some q=>some (x::q) | none=>none) n) l n
def evl (G:Nat) (H:Hp AV) (E:Ev):Operand->Option SV
 | .tmp t=>match look E t with
   | .unk=>none
   | v=>some v
 | .const v=>yD v
 | .global g=>match Nat.blt g G,hget H g with
   | true,some _=>some (.v (.c (.ptr g 0)))
   | _,_=>none
 | .func f=>some (.v (.c (.fn f)))
def evls (ev:Operand->Option SV) (l:List Operand):Option (List SV):=@List.rec Operand (fun _=>Option (List SV)) (some []) (fun x _ ih=>match ev x with
    | some v=>match ih with | some l=>some (v::l) | none=>none
    | none=>none) l
def evlP (ev:Operand->Option SV) (l:List (Nat×Operand)):Option (List (Nat×V1)):=@List.rec (Nat×Operand) (fun _=>Option (List (Nat×V1))) (some []) (fun x _ ih=>match ev x.2 with
    | some (.v v)=>match ih with | some l=>some ((x.1,v)::l) | none=>none
    | _=>none) l
def name (c:Cell):Option Nat:=@Cell.rec (fun _=>Option Nat) (fun _=>none) (fun _=>none) (fun _ _=>none) (fun _ _=>none) (fun _ _ _ _=>none) (fun _ _ _ _ _=>none) (fun _=>none) (fun _=>none) (fun n _=>some n) (fun n _ _ _=>some n) none (fun n _ _ _=>some n) none (fun _ _=>none) (fun n _ _ _ _=>some n) (fun n _ _ _ _ _=>some n) (fun _ _ ih=>ih) none (fun _=>none) none (fun _ _=>none) (fun r=>r) c
def namesL (l:List Cell):List Nat:=@List.rec Cell (fun _=>List Nat) [] (fun c _ ih=>@Option.rec Nat (fun _=>List Nat) ih (fun n=>n::ih) (name c)) l
def clC (H:Hp AV) (c:Cell):Bool:=match name c with | some n=>isS (hget H n) | none=>true
def clNs (H:Hp AV) (l:List Nat):Bool:=@List.rec Nat (fun _=>Bool) true (fun n _ ih=>match isS (hget H n) with | true=>ih | false=>false) l
def clL (H:Hp AV) (l:List Cell):Bool:=clNs H (namesL l)
def clV1 (H:Hp AV):V1->Bool
 | .c x=>clC H x
 | .agg l=>clL H l
def clV1s (H:Hp AV) (l:List V1):Bool:=@List.rec V1 (fun _=>Bool) true (fun x _ ih=>match clV1 H x with | true=>ih | false=>false) l
def clV (H:Hp AV):SV->Bool
 | .v x=>clV1 H x
 | .tup l=>clV1s H l
 | .unk=>true
 | .clo _ l=>clL H l
def clVs (H:Hp AV) (l:List SV):Bool:=@List.rec SV (fun _=>Bool) true (fun x _ ih=>match clV H x with | true=>ih | false=>false) l
def clCk (H:Hp AV):Chunk AV->Bool
 | .cells l _=>clL H l
 | .vec l _ _=>clL H l
 | .dead=>true
 | .abs _=>true
def clHs (H:Hp AV) (l:Hp AV):Bool:=@List.rec (Option (Chunk AV)) (fun _=>Bool) true (fun x _ ih=>match x with | none=>ih | some c=>match clCk H c with | true=>ih | false=>false) l
def repsL (z:List Cell) (n:Nat):List Cell:=@Nat.rec (fun _=>List Cell) [] (fun _ ih=>z++ih) n
def get {α:Type} (t:Tr α) (n:Nat):Option α:=@Tr.rec α (fun _=>Nat->Option α) (fun _=>none) (fun x _ _ l r n=>@Nat.rec (fun _=>Option α) x (fun m _=>@Bool.rec (fun _=>Option α) (r (Nat.div m 2)) (l (Nat.div m 2)) (Nat.beq (Nat.mod m 2) 0)) n) t n
variable (N:Env AV)
def fieldsT (t:TypeId):Option (List FdI):=match get N.tt t with | some ⟨.struct fs,_,_,_⟩=>some fs | _=>none
def part1 (agg:Bool) (n:Nat) (l:List Cell) (off:Nat):Option V1 :=
 match agg with
 | true=>match lsub l off n with | some x=>some (.agg x) | none=>none
 | false=>match nth l off with | some x=>some (.c x) | none=>none
def partV (t:TypeId) (l:List Cell) (off:Nat):Option V1 :=
 match get N.tt t with
 | some i=>part1 (iS i.kd) i.size l off
 | none=>none
def eqL (l m:List Cell):Option (Bool×Bool):=@List.rec Cell (fun _=>List Cell->Option (Bool×Bool)) (fun m=>match m with | []=>some (true,true) | _::_=>none) (fun x _ ih m=>match m with
 | []=>none
 | y::ys=>match eqC x y with
   | some (b,kb)=>match ih ys with
     | some (c,kc)=>match kb with
       | true=>match b with
         | true=>some (c,kc)
         | false=>some (false,true)
       | false=>match kc with
         | true=>match c with
           | true=>some (b,false)
           | false=>some (false,true)
         | false=>some (b&&c,false)
     | none=>none
   | none=>none) l m
def kindsB (l:List FK) (m:List Cell):Bool:=@List.rec FK (fun _=>List Cell->Bool) (fun m=>match m with | []=>true | _::_=>false) (fun k _ ih m=>match m with
 | []=>false
 | c::cs=>match ng c with
   | some k'=>match decide (k=k') with | true=>ih cs | false=>false
   | none=>false) l m
def eqV (t:TypeId) (cst:Bool):V1->V1->Option (Bool×Bool)
 | .agg xs,.agg ys=>match get N.tt t with
   | some ⟨kd,_,_,some ks⟩=>match iS kd with
     | false=>none
     | true=>match kindsB ks xs with
       | false=>none
       | true=>match kindsB ks ys with
         | false=>none
         | true=>eqL xs ys
   | _=>none
 | .c x,.c y=>match get N.tt t with
   | some ⟨.bool,_,_,_⟩=>match di x,di y with
     | some (a,ka),some (b,kb)=>some (a==b,match ka with | true=>kb | false=>false)
     | _,_=>none
   | some ⟨.ptr,_,_,_⟩=>match x,y with
     | .pnil,.pnil=>some (true,true)
     | .pnil,.ptr _ _=>some (false,true)
     | .ptr _ _,.pnil=>some (false,true)
     | .pnil,.op _ _=>some (false,true)
     | .op _ _,.pnil=>some (false,true)
     | _,_=>none
   | some ⟨.iface,_,_,_⟩=>match x,y with
     | .inil,.inil=>match cst with | true=>some (true,true) | false=>none
     | .inil,.ifc _ _=>some (false,true)
     | .ifc _ _,.inil=>some (false,true)
     | _,_=>none
   | some ⟨.slice _,_,_,_⟩=>match Pd x y with
     | some b=>some (b,true)
     | none=>none
   | _=>none
 | _,_=>none
def bin (op:BinOp) (t:TypeId) (cst:Bool) (x y:V1):T V1 :=
 match uN x y with
 | some (k,a,ka,k',b,kb)=>match decide (k=k') with
   | true=>match Pw op x y with
     | some r=>.leaf r
     | none=>match LJ op x y with
       | some r=>.leaf r
       | none=>jH op k a b (match ka with | true=>kb | false=>false)
   | false=>.fail "kinds"
 | none=>match DU x y with
   | some (a,ka,b,kb)=>xK op a b (qJ ka kb)
   | none=>match op with
     | .eql=>O9 (eqV N t cst x y)
     | .neq=>O8 (eqV N t cst x y)
     | _=>.fail "binOp"
def fillP (fs:List FdI) (l:List Cell) (ps:List (Nat×V1)):Option (List Cell):=@List.rec (Nat×V1) (fun _=>List Cell->Option (List Cell)) (fun l=>some l) (fun p _ ih l=>match nth fs p.1 with
    | some f=>match Nat.beq f.size p.2.cells.length with
      | true=>match lput l f.off p.2.cells with | some l'=>ih l' | none=>none
      | false=>none
    | none=>none) ps l
def fillA (esz:Nat) (l:List Cell) (ps:List (Nat×V1)):Option (List Cell):=@List.rec (Nat×V1) (fun _=>List Cell->Option (List Cell)) (fun l=>some l) (fun p _ ih l=>match Nat.beq esz p.2.cells.length with
    | true=>match lput l (p.1 * esz) p.2.cells with | some l'=>ih l' | none=>none
    | false=>none) ps l
def NO (ev:Operand->Option SV) (x:Operand) (why:String):T SV:=match ev x with | some v=>.leaf v | none=>.fail why
def RD (ev:Operand->Option SV) (c a b:Operand):T SV:=match ev c,ev a,ev b with
    | some (.v (.c c)),some x,some y=>match di c with
      | some (t,true)=>match t with | true=>.leaf x | false=>.leaf y
      | some (t,false)=>.ite t (.leaf x) (.leaf y)
      | none=>.fail "pick"
    | _,_,_=>.fail "pick"
def pBuild (ev:Operand->Option SV) (t:TypeId) (parts:Array (Nat×Operand)):T SV:=match get N.tt t,evlP ev parts.toList with
    | some ⟨.struct fs,_,some z,_⟩,some ps=>match fillP fs z ps with
      | some l=>.leaf (.v (.agg l))
      | none=>.fail "build"
    | some ⟨.arr _ esz _,_,some z,_⟩,some ps=>match fillA esz z ps with
      | some l=>.leaf (.v (.agg l))
      | none=>.fail "build"
    | _,_=>.fail "build"
def T9 (ev:Operand->Option SV) (x:Operand):T SV:=match ev x with
    | some (.v (.c (.ptr n off)))=>.leaf (.v (.c (.ptr n off)))
    | some (.v (.c (.vel n i e off)))=>.leaf (.v (.c (.vel n i e off)))
    | some (.v (.c (.ifc t c)))=>.leaf (.v (.c (.ifc t c)))
    | some (.v (.c (.fn f)))=>.leaf (.v (.c (.fn f)))
    | some (.clo f l)=>.leaf (.clo f l)
    | _=>.fail "nilCheck"
def pFieldAddr (ev:Operand->Option SV) (t:TypeId) (x:Operand) (i:Nat):T SV:=match ev x,fieldsT N t with
    | some (.v (.c (.ptr n off))),some fs=>match nth fs i with
      | some f=>match Nat.beq f.size 0 with
        | false=>.leaf (.v (.c (.ptr n (off+f.off))))
        | true=>.fail "fieldAddr"
      | none=>.fail "fieldAddr"
    | some (.v (.c (.vel n k e off))),some fs=>match nth fs i with
      | some f=>match Nat.beq f.size 0 with
        | false=>.leaf (.v (.c (.vel n k e (off+f.off))))
        | true=>.fail "fieldAddr"
      | none=>.fail "fieldAddr"
    | _,_=>.fail "fieldAddr"
def pField (ev:Operand->Option SV) (t:TypeId) (x:Operand) (i:Nat):T SV:=match ev x,fieldsT N t with
    | some (.v (.agg l)),some fs=>match nth fs i with
      | some f=>one (part1 f.agg f.size l f.off) "field"
      | none=>.fail "field"
    | _,_=>.fail "field"
def pBin (ev:Operand->Option SV) (op:BinOp) (t:TypeId) (x y:Operand):T SV:=match ev x,ev y with
    | some (.v a),some (.v b)=>match kD op with
      | true=>map .v (BL op a b)
      | false=>map .v (bin N op t (match isConst x with | true=>true | false=>isConst y) a b)
    | _,_=>.fail "binOp"
def T8 (ev:Operand->Option SV) (x:Operand):T SV:=match ev x with
    | some (.v (.c c))=>match di c with
      | some (b,k)=>.leaf (.v (mkB (!b) k))
      | none=>.fail "not"
    | _=>.fail "not"
def pExtract (ev:Operand->Option SV) (x:Operand) (i:Nat):T SV:=match ev x with
    | some (.tup l)=>match nth l i with | some v=>.leaf (.v v) | none=>.fail "extract"
    | _=>.fail "extract"
def pIfc (ev:Operand->Option SV) (t:TypeId) (x:Operand):T SV:=match ev x,get N.tt t with
    | some (.v (.c c)),some ⟨k,_,_,_⟩=>match k with
      | .iface=>.fail "makeInterface"
      | _=>.leaf (.v (.c (.ifc t c)))
    | _,_=>.fail "makeInterface"
def pIndexAddr (ev:Operand->Option SV) (t:TypeId) (x i:Operand):T SV:=match ev x,ev i,get N.tt t with
    | some (.v (.c (.ptr n off))),some (.v (.c (.il _ k))),some ⟨.arr len sz _,_,_,_⟩=>match decide (0<=k /\ k < len) with
      | true=>.leaf (.v (.c (.ptr n (off+k.toNat * sz))))
      | false=>.fail "indexAddr"
    | some (.v (.c (.vel n k0 e off))),some (.v (.c (.il _ k))),some ⟨.arr len sz _,_,_,_⟩=>match decide (0<=k /\ k < len) with
      | true=>.leaf (.v (.c (.vel n k0 e (off+k.toNat * sz))))
      | false=>.fail "indexAddr"
    | some (.v (.c (.sl n o len _))),some (.v (.c (.il _ k))),some ⟨.slice sz,_,_,_⟩=>match decide (0<=k /\ k < len) with
      | true=>.leaf (.v (.c (.ptr n (o+k.toNat * sz))))
      | false=>.fail "indexAddr"
    | some (.v (.c (.vs n o len es kn))),some (.v (.c ix)),some ⟨.slice sz,_,_,_⟩=>match Nat.beq es sz with
      | true=>match eI ix with
        | some (_,k,lit)=>jD (qJ lit kn) (decide (0<=k /\ k < len)) (.v (.c (.vel n (o+k.toNat) sz 0)))
        | none=>.fail "indexAddr"
      | false=>.fail "indexAddr"
    | some (.v (.c (.ptr n off))),some (.v (.c ix)),some ⟨.arr len sz _,_,_,_⟩=>match eI ix,Nat.ble len 16 with
      | some (_,k,_),true=>map (fun j=>.v (.c (.ptr n (off+j * sz)))) (DH N.orc k len)
      | _,_=>.fail "indexAddr"
    | some (.v (.c (.vel n k0 e off))),some (.v (.c ix)),some ⟨.arr len sz _,_,_,_⟩=>match eI ix with
      | some (_,k,_)=>.need (decide (0<=k /\ k < len)) (.leaf (.v (.c (.vel n k0 e (O7 (k.toNat * sz) off)))))
      | none=>.fail "indexAddr"
    | _,_,_=>.fail "indexAddr"
def pConvert (ev:Operand->Option SV) (src dst:TypeId) (x:Operand):T SV:=match ev x,get N.tt src,get N.tt dst with
    | some (.v (.c c)),some _,some ⟨.int k,_,_,_⟩=>match eI c with
      | some (_,n,lit)=>.leaf (.v (xk k c n lit))
      | none=>.fail "convert"
    | _,_,_=>.fail "convert"
def pIndex (ev:Operand->Option SV) (t:TypeId) (x i:Operand):T SV:=match ev x,ev i,get N.tt t with
    | some (.v (.c (.st s))),some (.v (.c ix)),some ⟨.str,_,_,_⟩=>match eI ix with
      | some (_,n,lit)=>map .v (jD lit (decide (0<=n /\ n < (s.data.toList.length:Int))) (mkI .u8 (rq s n) lit))
      | none=>.fail "index"
    | some (.v (.c (.sv s))),some (.v (.c ix)),some ⟨.str,_,_,_⟩=>match eI ix with
      | some (_,n,_)=>map .v (jD false (decide (0<=n /\ n < (s.data.toList.length:Int))) (.c (.it .u8 (rq s n))))
      | none=>.fail "index"
    | some (.v (.agg l)),some (.v (.c (.il _ k))),some ⟨.arr len sz ag,_,_,_⟩=>match decide (0<=k /\ k < len) with
      | true=>one (part1 ag sz l (k.toNat * sz)) "index"
      | false=>.fail "index"
    | _,_,_=>.fail "index"
def pLen (ev:Operand->Option SV) (x:Operand) (t:TypeId):T SV:=match ev x,get N.tt t with
     | some (.v (.c (.sl _ _ len _))),some ⟨.slice _,_,_,_⟩=>.leaf (.v (.c (.il .i64 len)))
     | some (.v (.c .snil)),some ⟨.slice _,_,_,_⟩=>.leaf (.v (.c (.il .i64 0)))
     | some (.v (.c (.sx _ _))),some ⟨.slice _,_,_,_⟩=>.leaf (.v (.c (.il .i64 0)))
     | some (.v (.c (.sf _ _ _ _ _ _))),some ⟨.slice _,_,_,_⟩=>.leaf (.v (.c (.il .i64 0)))
     | some (.v (.c (.vs _ _ len _ kn))),some ⟨.slice _,_,_,_⟩=>.leaf (.v (mkI .i64 len kn))
     | some (.v (.c (.st s))),some ⟨.str,_,_,_⟩=>.leaf (.v (.c (.il .i64 (dW s))))
     | some (.v (.c (.sv s))),some ⟨.str,_,_,_⟩=>.leaf (.v (.c (.it .i64 (dW s))))
     | _,_=>.fail "len"
def pLens (ev:Operand->Option SV) (c:Call):T SV:=match c.args.toList,c.argTypes.toList with
     | [x],[t]=>pLen N ev x t
     | _,_=>.fail "len"
def pCall (ev:Operand->Option SV) (c:Call):Option (T SV):=match c.callee with
    | .builtin .len=>some (pLens N ev c)
    | _=>none
def cellsV (l:List SV):Option (List Cell):=@List.rec SV (fun _=>Option (List Cell)) (some []) (fun x _ ih=>match x with
 | .v (.c c)=>match ih with | some l=>some (c::l) | none=>none
 | _=>none) l
def svs (l:List Cell):List SV:=@List.rec Cell (fun _=>List SV) [] (fun c _ ih=>.v (.c c)::ih) l
def pMkF (ev:Operand->Option SV) (fn:Fn) (first captured:Array Operand):T SV:=match fn,first.toList,evls ev captured.toList with
    | .func f,[],some l=>match cellsV l with
      | some cs=>.leaf (.clo f cs)
      | none=>.fail "makeFunc"
    | _,_,_=>.fail "makeFunc"
def Ua (ev:Operand->Option SV) (x:Operand):T SV:=match ev x with
    | some (.v (.c c))=>match eI c with
      | some (k,n,l)=>.leaf (.v (mkI k (k.wrap (0 - n)) l))
      | none=>.fail "neg"
    | _=>.fail "neg"
def pTx (ev:Operand->Option SV) (t:TypeId) (x:Operand) (lo hi mx:Option Operand):Option (T SV):=match txO ev (.slice t x lo hi mx) with
    | true=>some (Sx.cutO N ev t x lo hi)
    | false=>none
def pUn (ev:Operand->Option SV) (u:UnOp) (x:Operand):Option (T SV):=match u with
 | .not=>some (T8 ev x)
 | .neg=>some (Ua ev x)
 | _=>none
def pureOp (ev:Operand->Option SV):Op->Option (T SV)
 | .move x=>some (NO ev x "move")
 | .assign x=>some (NO ev x "assign")
 | .pick c a b=>some (RD ev c a b)
 | .build t parts=>some (pBuild N ev t parts)
 | .nilCheck x=>some (T9 ev x)
 | .makeFunc fn first captured=>some (pMkF ev fn first captured)
 | .fieldAddr t x i=>some (pFieldAddr N ev t x i)
 | .field t x i=>some (pField N ev t x i)
 | .binOp op t x y _=>some (pBin N ev op t x y)
 | .unOp u _ x=>pUn ev u x
 | .extract x i=>some (pExtract ev x i)
 | .makeInterface t x=>some (pIfc N ev t x)
 | .indexAddr t x i=>some (pIndexAddr N ev t x i)
 | .convert src dst x=>some (pConvert N ev src dst x)
 | .index t x i=>some (pIndex N ev t x i)
 | .call c=>pCall N ev c
 | .slice t x lo hi mx=>pTx N ev t x lo hi mx
 | _=>none
def prtV (t:TypeId) (a:AV) (idx es off:Nat):Option (T SV):=match get N.tt t with
 | some i=>match N.F.prt a idx es off i.size with
   | some (b,l)=>some (.need b (one (part1 (iS i.kd) i.size l 0) "load: range"))
   | none=>none
 | none=>none
def loadV (t:TypeId) (H:Hp AV):SV->T SV
 | .v (.c (.ptr n off))=>match hget H n with
   | some (.cells l _)=>one (partV N t l off) "load: range"
   | some (.abs a)=>match N.F.word a with
     | some l=>one (partV N t l off) "load: range"
     | none=>.fail "load: no chunk"
   | _=>.fail "load: no chunk"
 | .v (.c (.vel n idx es off))=>match hget H n with
   | some (.abs a)=>match prtV N t a idx es off with
     | some t=>t
     | none=>match N.F.row a idx es with
       | some (b,l)=>.need b (one (partV N t l off) "load: range")
       | none=>.fail "load: row"
   | some (.vec l _ _)=>one (partV N t l (idx * es+off)) "load: range"
   | _=>.fail "load: no chunk"
 | _=>.fail "load: no pointer"
def updH (H:Hp AV) (x:Option (Nat×Chunk AV)):Hp AV:=@Option.rec (Nat×Chunk AV) (fun _=>Hp AV) H (fun p=>lset H p.1 (some p.2)) x
def namesV1s (l:List V1):List Nat:=@List.rec V1 (fun _=>List Nat) [] (fun x _ ih=>namesL x.cells++ih) l
def namesV:SV->List Nat
 | .v x=>namesL x.cells
 | .tup l=>namesV1s l
 | .unk=>[]
 | .clo _ l=>namesL l
def namesVs (l:List SV):List Nat:=@List.rec SV (fun _=>List Nat) [] (fun x _ ih=>namesV x++ih) l
def hasN (l:List Nat) (n:Nat):Bool:=@List.rec Nat (fun _=>Bool) false (fun x _ ih=>@Bool.rec (fun _=>Bool) ih true (Nat.beq x n)) l
def rch1 (H:Hp AV) (ih:List Nat->List Nat->List Nat) (n:Nat) (r acc:List Nat):List Nat:=match hasN acc n with
    | true=>ih r acc
    | false=>match hget H n with
      | some (.cells l _)=>ih (namesL l++r) (n::acc)
      | some (.vec l _ _)=>ih (namesL l++r) (n::acc)
      | _=>ih r (n::acc)
def reach (H:Hp AV) (f:Nat) (l acc:List Nat):List Nat:=@Nat.rec (fun _=>List Nat->List Nat->List Nat) (fun _ acc=>acc) (fun _ ih l acc=>match l with
 | []=>acc
 | n::r=>rch1 H ih n r acc) f l acc
def bitsOf (l:List Nat):Nat:=@List.rec Nat (fun _=>Nat) 0 (fun n _ ih=>Nat.lor (Nat.shiftLeft 1 n) ih) l
def seeB (B n:Nat):Bool:=match Nat.land (Nat.shiftRight B n) 1 with
 | 0=>false
 | _+1=>true
def maskB (B:Nat) (i:Nat) (l:Hp AV):Hp AV:=@List.rec (Option (Chunk AV)) (fun _=>Nat->Hp AV) (fun _=>[]) (fun x _ ih i=>(match seeB B i with | true=>x | false=>none)::ih (i+1)) l i
def mergeB (B:Nat) (i:Nat) (l b:Hp AV):Hp AV:=@List.rec (Option (Chunk AV)) (fun _=>Nat->Hp AV->Hp AV) (fun _ b=>b) (fun x r ih i b=>match b with
 | []=>x::r
 | y::q=>(match x with | none=>none | some x=>match seeB B i with | true=>y | false=>some x)::ih (i+1) q) l i b
def persB (l m:Hp AV):Bool:=@List.rec (Option (Chunk AV)) (fun _=>Hp AV->Bool) (fun _=>true) (fun x _ ih m=>match x,m with
 | none,none::q=>ih q
 | some _,some _::q=>ih q
 | _,_=>false) l m
def callW (cal:Callee AV) (f:Tgt) (args:List SV) (H:Hp AV) (B:Nat) (A:Hp AV):T (SV×Hp AV):=match clVs A args with
    | false=>.fail "call: arguments"
    | true=>match clHs A A with
      | false=>.fail "call: heap"
      | true=>bind (cal f args A) fun r=>match persB A r.2 with
        | false=>.fail "call: lost"
        | true=>.leaf (r.1,mergeB B 0 H r.2)
def callB (cal:Callee AV) (f:Tgt) (args:List SV) (H:Hp AV) (B:Nat):T (SV×Hp AV):=match B with
 | 0=>callW cal f args H 0 (maskB 0 0 H)
 | n+1=>callW cal f args H (n+1) (maskB (n+1) 0 H)
def callV (cal:Callee AV) (gn:List Nat) (f:Tgt) (args:List SV) (H:Hp AV):T (SV×Hp AV):=callB cal f args H (bitsOf (reach H 400 (namesVs args++gn) []))
def mkBuild (t:TypeId) (len:Nat) (ps:Option (List (Nat×V1))):Option Arr :=
 match get N.sl t,ps with
 | some si,some ps=>match fillA si.size (repsL si.zero len) ps,Nat.ble (len * si.size) 16777216 with
   | some l,true=>some (l,si.size,si.e,len)
   | _,_=>none
 | _,_=>none
def mkMake (t:TypeId) (a b:Option SV):Option Arr :=
 match get N.sl t,a,b with
 | some si,some (.v (.c (.il _ n))),some (.v (.c (.il _ c)))=>match decide (0<=n /\ n<=c /\ c.toNat * (si.bytes+1)<=lim) with
   | true=>some (repsL si.zero c.toNat,si.size,si.e,n.toNat)
   | false=>none
 | _,_,_=>none
def len {α:Type} (l:List α):Nat:=@List.rec α (fun _=>Nat) 0 (fun _ _ ih=>ih+1) l
def lightArr (nm:Nat) (H:Hp AV):Option Arr->T (SV×Option (Nat×Chunk AV))
 | some (l,es,e,n)=>match hget H nm,Nat.blt nm (len H),Nat.blt nm N.G with
   | none,true,false=>.leaf (.v (.c (.vs nm 0 n es true)),some (nm,.vec l es e))
   | _,_,_=>.fail "make"
 | none=>.fail "make"
def lightMk (nm:Nat) (H:Hp AV) (k:Option Arr) (z:Option (Bool×AV×Nat×Nat)):T (SV×Option (Nat×Chunk AV)):=match k with
 | some a=>lightArr N nm H (some a)
 | none=>Sx.lightAbs N nm H z
def lAlloc (nm:Nat) (H:Hp AV) (t:TypeId):T (SV×Option (Nat×Chunk AV)):=match get N.tt t,hget H nm,Nat.blt nm (len H),Nat.blt nm N.G with
     | some ⟨_,_,some z,_⟩,none,true,false=>.leaf (.v (.c (.ptr nm 0)),some (nm,.cells z t))
     | _,_,_,_=>.fail "alloc"
def lBox (nm:Nat) (ev:Operand->Option SV) (H:Hp AV) (t:TypeId) (x:Operand):T (SV×Option (Nat×Chunk AV)):=match ev x,hget H nm,Nat.blt nm (len H),Nat.blt nm N.G with
     | some (.v v),none,true,false=>.leaf (.v (.c (.ptr nm 0)),some (nm,.cells v.cells t))
     | _,_,_,_=>.fail "box"
def lLoad (ev:Operand->Option SV) (H:Hp AV) (t:TypeId) (a:Operand):T (SV×Option (Nat×Chunk AV)):=match ev a with
     | some v=>map (fun v=>(v,none)) (loadV N t H v)
     | none=>.fail "load"
def lStore1 (H:Hp AV) (t:TypeId) (n off:Nat) (v:V1):T (SV×Option (Nat×Chunk AV)):=match hget H n,get N.tt t with
     | some (.cells l ty),some i=>match Nat.beq i.size v.cells.length with
       | true=>match lput l off v.cells with
         | some l'=>.leaf (bc,some (n,.cells l' ty))
         | none=>.fail "store: range"
       | false=>.fail "store: size"
     | _,_=>.fail "store: no chunk"
def lStore2 (H:Hp AV) (t:TypeId) (n idx es off:Nat) (v:V1):T (SV×Option (Nat×Chunk AV)):=match hget H n,get N.tt t with
     | some (.vec l ve ty),some i=>match Nat.beq i.size v.cells.length with
       | true=>match Nat.beq i.size 0 with
         | true=>.fail "store: size"
         | false=>match lput l (idx * es+off) v.cells with
           | some l'=>.leaf (bc,some (n,.vec l' ve ty))
           | none=>.fail "store: range"
       | false=>.fail "store: size"
     | some (.abs a),some i=>match Nat.beq i.size v.cells.length with
       | true=>match N.F.upd a idx es off v.cells with
         | some (b,a')=>.need b (.leaf (bc,some (n,.abs a')))
         | none=>.fail "store: upd"
       | false=>.fail "store: size"
     | _,_=>.fail "store: no chunk"
def lStore (ev:Operand->Option SV) (H:Hp AV) (t:TypeId) (a x:Operand):T (SV×Option (Nat×Chunk AV)):=match ev a,ev x with
     | some (.v (.c (.ptr n off))),some (.v v)=>lStore1 N H t n off v
     | some (.v (.c (.vel n idx es off))),some (.v v)=>lStore2 N H t n idx es off v
     | _,_=>.fail "store: no pointer"
def lightSl (H:Hp AV) (p:SPt):T (SV×Option (Nat×Chunk AV)):=match get N.sl p.t,hget H p.n with
 | some si,some (.vec lst es2 _)=>match Nat.beq p.es si.size,Nat.beq p.es es2,Nat.ble ((p.o+p.len) * p.es) (len lst) with
   | true,true,true=>.leaf (.v (.c (.vs p.n (p.o+p.l) (p.h - p.l) p.es true)),none)
   | _,_,_=>.fail "slice"
 | _,_=>.fail "slice"
def lMem (nm:Nat) (ev:Operand->Option SV) (H:Hp AV):Op->T (SV×Option (Nat×Chunk AV))
    | .alloc t=>lAlloc N nm H t
    | .box t x=>lBox N nm ev H t x
    | .load t a=>lLoad N ev H t a
    | .store t a x=>lStore N ev H t a x
    | .makeSlice t x y=>lightMk N nm H (mkMake N t (ev x) (ev y)) (Sx.mkOpen N t (ev x) (ev y))
    | .buildSlice t len parts=>lightArr N nm H (mkBuild N t len (evlP ev parts.toList))
    | .slice a b c d e=>match kT ev (.slice a b c d e) with
      | some p=>lightSl N H p
      | none=>.fail "op"
    | _=>.fail "op"
def light (nm:Nat) (ev:Operand->Option SV) (H:Hp AV) (o:Op):T (SV×Option (Nat×Chunk AV)) :=
 match pureOp N ev o with
 | some t=>map (fun v=>(v,none)) t
 | none=>lMem N nm ev H o
def cHeavy (ev:Operand->Option SV) (o:Op):Option (Option (Tgt×List SV)):=some (match evls ev o.operands.toList with
    | some l=>some (.op o,l)
    | none=>none)
def cValue (ev:Operand->Option SV) (f:Operand) (args:Array Operand):Option (Tgt×List SV):=match ev f,evls ev args.toList with
     | some (.v (.c (.fn g))),some l=>match get N.ft g with
       | some _=>some (.fn g,l)
       | none=>none
     | some (.clo g cs),some l=>match get N.ft g with
       | some _=>some (.fn g,l++svs cs)
       | none=>none
     | _,_=>none
def cInvoke (ev:Operand->Option SV) (r:Operand) (m:String) (args:Array Operand):Option (Tgt×List SV):=match ev r,evls ev args.toList with
     | some (.v (.c (.ifc t x))),some l=>match N.mt t m with
       | some g=>match get N.ft g with
         | some _=>some (.fn g,.v (.c x)::l)
         | none=>none
       | none=>none
     | _,_=>none
def cBuiltin (ev:Operand->Option SV) (o:Op):Builtin->Option (Option (Tgt×List SV))
    | .append=>cHeavy ev o
    | .copy=>cHeavy ev o
    | .delete=>cHeavy ev o
    | .len=>match o with
      | .call c=>match c.args.toList with
        | [x]=>match xp mpC (ev x) with | true=>cHeavy ev o | false=>none
        | _=>none
      | _=>none
    | .clear=>cHeavy ev o
    | .min=>cHeavy ev o
    | .max=>cHeavy ev o
    | _=>none
def cCall (ev:Operand->Option SV) (o:Op) (c:Call):Option (Option (Tgt×List SV)):=match c.callee with
    | .value f=>some (cValue N ev f c.args)
    | .invoke r m=>some (cInvoke N ev r m c.args)
    | .builtin b=>cBuiltin ev o b
def callee? (ev:Operand->Option SV) (o:Op):Option (Option (Tgt×List SV)):=match o with
 | .call c=>cCall N ev (.call c) c
 | .slice a b c d e=>match kT ev (.slice a b c d e) with | some _=>none | none=>(match txO ev (.slice a b c d e) with | true=>none | false=>cHeavy ev (.slice a b c d e))
 | .makeMap a b=>cHeavy ev (.makeMap a b)
 | .lookup a b c d=>cHeavy ev (.lookup a b c d)
 | .mapUpdate a b c d=>cHeavy ev (.mapUpdate a b c d)
 | .convert a b x=>match xp slC (ev x) with | true=>cHeavy ev (.convert a b x) | false=>none
 | _=>none
def gnames:Tgt->List Nat
 | .fn f=>match get N.gu f with | some l=>l | none=>[]
 | .op _=>[]
def sees (R:List Nat) (n:Nat):Bool:=seeB (bitsOf R) n
def keptU (R:List Nat) (H H':Hp AV) (n:Nat):Tri:=match sees R n with
 | true=>IP N (hget H n) (hget H' n)
 | false=>.no
def Tu (ev:Operand->Option SV) (a:Operand):Ent:=match ev a with
     | some (.v (.c (.ptr n _)))=>.rd n
     | some (.v (.c (.vel n _ _ _)))=>.rd n
     | _=>.pure
def Tp (ev:Operand->Option SV) (a:Operand):Ent:=match ev a with
     | some (.v (.c (.ptr n _)))=>.wr n
     | some (.v (.c (.vel n _ _ _)))=>.wr n
     | _=>.pure
def Tv (nm:Nat) (ev:Operand->Option SV) (o:Op):Ent:=match o with
    | .alloc _=>.wr nm
    | .box _ _=>.wr nm
    | .makeSlice _ _ _=>.wr nm
    | .buildSlice _ _ _=>.wr nm
    | .load _ a=>Tu ev a
    | .store _ a _=>Tp ev a
    | .slice a b c d e=>match kT ev (.slice a b c d e) with
      | some p=>.rd p.n
      | none=>.pure
    | _=>.pure
def entOf (nm:Nat) (ev:Operand->Option SV) (H H':Hp AV) (o:Op):Ent :=
 match callee? N ev o with
 | some (some (g,l))=>.call (reach H 400 (namesVs l++gnames N g) []) (keptU N (reach H 400 (namesVs l++gnames N g) []) H H')
 | some none=>.pure
 | none=>Tv nm ev o
def stepOp (cal:Callee AV) (nm:Nat) (o:Oper) (s:St AV):T (St AV) :=
 match callee? N (evl N.G s.H s.E) o.op with
 | some (some (g,l))=>bind (callV cal (gnames N g) g l s.H) fun r=>.leaf {E:=dv s.E o.dst r.1,H:=r.2}
 | some none=>.fail "call"
 | none=>bind (light N nm (evl N.G s.H s.E) s.H o.op) fun r=>.leaf {E:=dv s.E o.dst r.1,H:=updH s.H r.2}
def countMk (l:List Oper):Nat:=@List.rec Oper (fun _=>Nat) 0 (fun o _ ih=>match lP o.op with | true=>ih+1 | false=>ih) l
def nmOf (l:List Oper) (b i:Nat):Nat:=@List.rec Oper (fun _=>Nat->Nat->Nat) (fun b _=>b) (fun o _ ih b i=>match i with
 | 0=>b
 | i+1=>match lP o.op with | true=>ih (b+1) i | false=>ih b i) l b i
def nones (n:Nat):Hp AV:=@Nat.rec (fun _=>Hp AV) [] (fun _ ih=>none::ih) n
def app {α:Type} (l m:List α):List α:=@List.rec α (fun _=>List α) m (fun x _ ih=>x::ih) l
def growH (H:Hp AV) (k:Nat):Hp AV:=match k with
 | 0=>H
 | k+1=>app H (nones (k+1))
def wantedG (all:List Oper) (E:Ev) (j:Nat) (want:Bool):Option (Bool×Bool):=match nth all j with
    | some oj=>match oj.dst with
      | some d=>match look E d with
        | .unk=>none
        | .v (.c c)=>match di c with
          | some (b,k)=>some (b==want,k)
          | none=>some (false,true)
        | _=>some (false,true)
      | none=>some (false,true)
    | none=>some (false,true)
def wantedS (all:List Oper) (o:Oper) (E:Ev):Option (Bool×Bool) :=
 match o.guard with
 | none=>some (true,true)
 | some (j,want)=>wantedG all E j want
def hasEdge (l:List Edge) (i:Nat):Bool:=@List.rec Edge (fun _=>Bool) false (fun e _ ih=>match Region.binds .any e with
    | true=>match Nat.beq e.on i with | true=>true | false=>ih
    | false=>ih) l
def anyE (rec:Nat->Bool) (l:List Edge):Bool:=@List.rec Edge (fun _=>Bool) false (fun e _ ih=>match Region.binds .any e with
    | true=>match rec e.on with | true=>true | false=>ih
    | false=>ih) l
def isAnc (all:List Oper) (f j i:Nat):Bool:=@Nat.rec (fun _=>Nat->Nat->Bool) (fun _ _=>false) (fun _ ih j i=>match nth all j with
    | none=>false
    | some o=>match hasEdge o.after.toList i with
      | true=>true
      | false=>anyE (fun k=>ih k i) o.after.toList) f j i
def compatE:Ent->Ent->Bool
 | .pure,_=>true
 | _,.pure=>true
 | .rd _,.rd _=>true
 | .rd n,.wr m=>!Nat.beq n m
 | .wr n,.rd m=>!Nat.beq n m
 | .wr n,.wr m=>!Nat.beq n m
 | .rd n,.call R U=>match sees R n with | true=>(U n).ok | false=>true
 | .wr n,.call R _=>!sees R n
 | .call R U,.rd n=>match sees R n with | true=>(U n).ok | false=>true
 | .call R _,.wr n=>!sees R n
 | .call _ _,.call _ _=>false
def compatC:Ent->Ent->Tri
 | .rd n,.call R U=>match sees R n with | true=>U n | false=>.yes
 | .call R U,.rd n=>match sees R n with | true=>U n | false=>.yes
 | a,b=>match compatE a b with | true=>.yes | false=>.no
def logC (all:List Oper) (j:Nat) (en:Ent) (l:List (Nat×Ent)):Option (List Bool):=@List.rec (Nat×Ent) (fun _=>Option (List Bool)) (some []) (fun x _ ih=>match compatC x.2 en with
    | .yes=>ih
    | .no=>match isAnc all 12 j x.1 with
      | true=>ih
      | false=>none
    | .cond b=>match isAnc all 12 j x.1 with
      | true=>ih
      | false=>match ih with
        | some l=>some (b::l)
        | none=>none) l
def needs {α:Type} (l:List Bool) (t:T α):T α:=@List.rec Bool (fun _=>T α) t (fun b _ ih=>.need b ih) l
def edgesBelow (i:Nat) (l:List Edge):Bool:=@List.rec Edge (fun _=>Bool) true (fun e _ ih=>match Region.binds .any e with
    | true=>match Nat.blt e.on i with | true=>ih | false=>false
    | false=>ih) l
def lookA (l:Asm) (n:Nat):Option Bool:=@List.rec (Nat×Bool) (fun _=>Option Bool) none (fun x _ ih=>match Nat.beq x.1 n with | true=>some x.2 | false=>ih) l
def dropA (l:Asm) (n:Nat):Asm:=@List.rec (Nat×Bool) (fun _=>Asm) [] (fun x _ ih=>match Nat.beq x.1 n with | true=>ih | false=>x::ih) l
def dropD (A:Asm):Option Nat->Asm
 | none=>A
 | some d=>dropA A d
def gTmp (all:List Oper) (o:Oper):Option (Nat×Bool) :=
 match o.guard with
 | none=>none
 | some (j,want)=>match nth all j with
   | none=>none
   | some oj=>match oj.dst with
     | none=>none
     | some d=>some (d,want)
def pickK1 (A:Asm) (ev:Operand->Option SV) (t:Nat) (a b:Operand):Option (T SV):=match lookA A t with
    | none=>none
    | some x=>some (match ev (.tmp t),ev a,ev b with
      | some (.v (.c c)),some p,some q=>match di c with
        | some _=>match x with | true=>.leaf p | false=>.leaf q
        | none=>.fail "pick"
      | _,_,_=>.fail "pick")
def pickK (A:Asm) (ev:Operand->Option SV):Op->Option (T SV)
 | .pick (.tmp t) a b=>pickK1 A ev t a b
 | _=>none
def execA (cal:Callee AV) (base:Nat) (all:List Oper) (i:Nat) (o:Oper) (A B:Asm) (s:St AV):T (St AV×Ent×Asm) :=
 match pickK A (evl N.G s.H s.E) o.op with
 | some t=>map (fun v=>({s with E:=dv s.E o.dst v},.pure,dropD B o.dst)) t
 | none=>map (fun s'=>(s',entOf N (nmOf all base i) (evl N.G s.H s.E) s.H s'.H o.op,dropD B o.dst)) (stepOp N cal (nmOf all base i) o s)
def step1F (cal:Callee AV) (base:Nat) (all:List Oper) (i:Nat) (o:Oper) (A:Asm) (s:St AV) (b:Bool):T (St AV×Ent×Asm):=match gTmp all o with
    | none=>.fail "guard"
    | some (d,want)=>match lookA A d with
      | some x=>match x==want with
        | true=>execA N cal base all i o A A s
        | false=>.leaf ({s with E:=dv s.E o.dst bc},.pure,dropD A o.dst)
      | none=>.ite b (execA N cal base all i o A ((d,want)::A) s) (.leaf ({s with E:=dv s.E o.dst bc},.pure,dropD ((d,!want)::A) o.dst))
def step1A (cal:Callee AV) (base:Nat) (all:List Oper) (i:Nat) (o:Oper) (A:Asm) (s:St AV):T (St AV×Ent×Asm) :=
 match wantedS all o s.E with
 | none=>.fail "guard"
 | some (b,true)=>match b with
   | true=>execA N cal base all i o A A s
   | false=>.leaf ({s with E:=dv s.E o.dst bc},.pure,dropD A o.dst)
 | some (b,false)=>step1F N cal base all i o A s b
def quietS (q:Bool) (en:Ent) (H H':Hp AV):Bool :=
 match q with
 | false=>false
 | true=>match en with
   | .pure=>true
   | .rd _=>true
   | .wr _=>false
   | .call [] _=>Nat.beq (len H) (len H')
   | .call (_::_) _=>false
def stepOpsA (cal:Callee AV) (base:Nat) (all:List Oper) (i:Nat) (l:List Oper) (A:Asm) (q:Bool) (s:St AV):T (St AV×Bool):=@List.rec Oper (fun _=>Nat->Asm->Bool->St AV->T (St AV×Bool)) (fun _ _ q s=>.leaf (s,q))
 (fun o _ ih i A q s=>bind (step1A N cal base all i o A s) fun x=>ih (i+1) x.2.2 (quietS q x.2.1 s.H x.1.H) x.1) l i A q s
def stepOpsDA (cal:Callee AV) (base:Nat) (all:List Oper) (i:Nat) (l:List Oper) (log:List (Nat×Ent)) (A:Asm) (q:Bool) (s:St AV):T (St AV×Bool):=@List.rec Oper (fun _=>Nat->List (Nat×Ent)->Asm->Bool->St AV->T (St AV×Bool)) (fun _ _ _ q s=>.leaf (s,q))
 (fun o _ ih i log A q s=>match edgesBelow i o.after.toList with
   | false=>.fail "an edge upwards"
   | true=>bind (step1A N cal base all i o A s) fun x=>match logC all i x.2.1 log with
     | some l=>needs l (ih (i+1) ((i,x.2.1)::log) x.2.2 (quietS q x.2.1 s.H x.1.H) x.1)
     | none=>.fail "the order matters") l i log A q s
def joinL (b:Bool) (l m:List Cell):Option (List Cell):=@List.rec Cell (fun _=>List Cell->Option (List Cell)) (fun m=>match m with | []=>some [] | _::_=>none) (fun x _ ih m=>match m with
 | []=>none
 | y::ys=>match wG b x y with
   | some c=>match ih ys with | some l=>some (c::l) | none=>none
   | none=>none) l m
def joinV (b:Bool):SV->SV->SV
 | .v (.c x),.v (.c y)=>match wG b x y with | some c=>.v (.c c) | none=>.unk
 | .v (.agg x),.v (.agg y)=>match joinL b x y with | some l=>.v (.agg l) | none=>.unk
 | _,_=>.unk
def joinZ (b:Bool) (l m:Ev):Option Ev:=@List.rec (Nat×SV) (fun _=>Ev->Option Ev) (fun m=>match m with | []=>some [] | _::_=>none) (fun x _ ih m=>match m with
 | []=>none
 | y::q=>match Nat.beq x.1 y.1 with
   | true=>match ih q with
     | some z=>some ((x.1,joinV b x.2 y.2)::z)
     | none=>none
   | false=>none) l m
def firstN (n:Nat) (l:Ev):Ev:=@Nat.rec (fun _=>Ev->Ev) (fun _=>[]) (fun _ ih l=>match l with | []=>[] | x::r=>x::ih r) n l
def joinI (b:Bool) (x y:Option (Option Bool×Ev)):Option (Option Bool×Ev):=match x,y with
    | some (none,W),some (none,X)=>uX none (joinZ b W X)
    | some (some n,W),some (none,X)=>uX (some (match b with | true=>n | false=>true)) (joinZ b W X)
    | some (none,W),some (some m,X)=>uX (some (match b with | true=>true | false=>m)) (joinZ b W X)
    | some (some n,W),some (some m,X)=>uX (some (match b with | true=>n | false=>m)) (joinZ b W X)
    | _,_=>none
def joinT (E:Ev) (t:T (St AV×Bool)):Option (Option Bool×Ev):=@T.rec (St AV×Bool) (fun _=>Option (Option Bool×Ev)) (fun s=>match s.2 with
    | true=>some (none,firstN (len s.1.E - len E) s.1.E)
    | false=>none) (fun b _ _ t e=>joinI b t e) (fun b _ t=>match t with
    | some (none,W)=>some (some b,W)
    | some (some n,W)=>some (some (match b with | true=>n | false=>false),W)
    | none=>none) (fun _=>none) t
def joinR2 (s:St AV) (t:T (St AV×Bool)):T (St AV):=match joinT s.E t with
    | some (none,W)=>.leaf {s with E:=app W s.E}
    | some (some n,W)=>.need n (.leaf {s with E:=app W s.E})
    | none=>map (fun r=>r.1) t
def joinR (s:St AV) (t:T (St AV×Bool)):T (St AV):=@T.rec (St AV×Bool) (fun _=>T (St AV)) (fun r=>.leaf r.1) (fun b t e _ _=>joinR2 s (.ite b t e)) (fun b t _=>joinR2 s (.need b t)) (fun w=>joinR2 s (.fail w)) t
def dstsOk (nt:Nat) (l:List Oper):Bool:=@List.rec Oper (fun _=>Bool) true (fun o _ ih=>match o.dst with
    | none=>ih
    | some d=>match Nat.blt d nt with | true=>ih | false=>false) l
def tidy (E:Ev) (n:Nat):Ev:=@Nat.rec (fun _=>Ev) [] (fun k ih=>(k,look E k)::ih) n
def rounds (nt:Nat) (body:St AV->T (Ex×St AV)) (n:Nat) (s:St AV):T (Ex×St AV):=@Nat.rec (fun _=>St AV->T (Ex×St AV)) (fun _=>.fail "loop: too many rounds") (fun _ ih s=>bind (body s) fun r=>match r.1 with
    | .normal=>ih {r.2 with E:=tidy r.2.E nt}
    | e=>.leaf (e,r.2)) n s
def xReg (cal:Callee AV) (ops:Array Oper) (base:Nat) (s:St AV):T (Ex×St AV):=map (fun s=>(.normal,s)) (joinR s (stepOpsA N cal base ops.toList 0 ops.toList [] true s))
def xRegD (cal:Callee AV) (ops:Array Oper) (base:Nat) (s:St AV):T (Ex×St AV):=map (fun s=>(.normal,s)) (joinR s (stepOpsDA N cal base ops.toList 0 ops.toList [] [] true s))
def xRegion (cal:Callee AV) (nt:Nat) (ops:Array Oper) (d:Bool) (s:St AV):T (Ex×St AV):=match dstsOk nt ops.toList with
    | false=>.fail "temporaries"
    | true=>match d with
      | false=>xReg N cal ops (len s.H) {s with H:=growH s.H (countMk ops.toList)}
      | true=>match jd ops ops.toList 0 ops.toList,Nat.ble N.G (len s.H) with
        | false,_=>.fail "not apart"
        | true,false=>.fail "variables"
        | true,true=>xRegD N cal ops (len s.H) {s with H:=growH s.H (countMk ops.toList)}
def xCond (x:Option SV) (p q:T (Ex×St AV)):T (Ex×St AV):=match x with
    | some (.v (.c x))=>match di x with
      | some (t,true)=>match t with | true=>p | false=>q
      | some (t,false)=>.ite t p q
      | none=>.fail "cond"
    | _=>.fail "cond"
def xc (cal:Callee AV) (lp:Nat->Option (St AV->T (Ex×St AV))) (nt:Nat):Code->St AV->T (Ex×St AV)
 | .skip,s=>.leaf (.normal,s)
 | .label _,s=>.leaf (.normal,s)
 | .region _ ops d,s=>xRegion N cal nt ops d s
 | .seq a b,s=>bind (xc cal lp nt a s) fun r=>match r.1 with
   | .normal=>xc cal lp nt b r.2
   | e=>.leaf (e,r.2)
 | .cond c a b,s=>xCond (evl N.G s.H s.E c) (xc cal lp nt a s) (xc cal lp nt b s)
 | .block id c,s=>bind (xc cal lp nt c s) fun r=>match r.1 with
   | .exit j=>match Nat.beq j id with | true=>.leaf (.normal,r.2) | false=>.leaf r
   | _=>.leaf r
 | .exit id,s=>.leaf (.exit id,s)
 | .ret,s=>.leaf (.ret,s)
 | .loop c,s=>match kL c with
   | none=>.fail "loop"
   | some id=>match lp id with
     | some g=>g s
     | none=>rounds nt (xc cal lp nt c) 3000 s
 | _,_=>.fail "code"
def resV (s:St AV) (l:List ResultVar):T (List V1):=@List.rec ResultVar (fun _=>T (List V1)) (.leaf []) (fun x _ ih=>match x with
 | .tmp t=>match look s.E t with
   | .v x=>map (fun l=>x::l) ih
   | _=>.fail "result"
 | .cell a t=>match look s.E a with
   | .v (.c (.ptr n off))=>match hget s.H n with
     | some (.cells l _)=>match partV N t l off with
       | some x=>map (fun l=>x::l) ih
       | none=>.fail "result"
     | _=>.fail "result"
   | _=>.fail "result") l
def sweep (len:Nat) (R:List Nat) (i:Nat) (l:Hp AV):Hp AV:=@List.rec (Option (Chunk AV)) (fun _=>Nat->Hp AV) (fun _=>[]) (fun x _ ih i=>(match Nat.blt i len with | true=>x | false=>match hasN R i with | true=>x | false=>none)::ih (i+1)) l i
def trim0 (l:Hp AV):Hp AV:=@List.rec (Option (Chunk AV)) (fun _=>Hp AV) [] (fun x _ ih=>match x with
 | none=>match ih with
   | []=>[]
   | y::q=>none::y::q
 | some c=>some c::ih) l
def trim (n:Nat) (l:Hp AV):Hp AV:=@Nat.rec (fun _=>Hp AV->Hp AV) (fun l=>trim0 l) (fun _ ih l=>match l with | []=>[] | x::r=>x::ih r) n l
def namesH (n:Nat) (l:Hp AV):List Nat:=@Nat.rec (fun _=>Hp AV->List Nat) (fun _=>[]) (fun _ ih l=>match l with
 | []=>[]
 | x::r=>match x with
   | some (.cells l _)=>app (namesL l) (ih r)
   | some (.vec l _ _)=>app (namesL l) (ih r)
   | _=>ih r) n l
def gcH (len:Nat) (v:SV) (H:Hp AV):Hp AV:=trim len (sweep len (reach H 400 (namesV v++namesH len H) []) 0 H)
def pad (n:Nat) (l:List SV):Ev:=@List.rec SV (fun _=>Nat->Ev) (fun _=>[]) (fun x _ ih n=>(n,x)::ih (n+1)) l n
def rEnd (l:List V1) (H':Hp AV):T (SV×Hp AV):=match clV H' (fF l) with
            | false=>.fail "result: names"
            | true=>match clHs H' H' with
              | false=>.fail "result: heap"
              | true=>.leaf (fF l,H')
def rRet (fn:Func) (len:Nat) (r:Ex×St AV):T (SV×Hp AV):=match r.1 with
     | .exit _=>.fail "exit"
     | _=>bind (resV N r.2 fn.results.toList) fun l=>rEnd l (gcH len (fF l) r.2.H)
def runC (cal:Callee AV) (f:FuncId) (fn:Func) (c:Code) (args:List SV) (H:Hp AV):T (SV×Hp AV):=match Nat.ble args.length fn.ntmps with
     | false=>.fail "arguments"
     | true=>bind (xc N cal (N.lp f) fn.ntmps c {E:=pad 0 args,H:=H}) fun r=>rRet N fn (len H) r
def runF (cal:Callee AV) (f:FuncId) (args:List SV) (H:Hp AV):T (SV×Hp AV) :=
 match get N.ft f with
 | some fn=>match fn.body with
   | some c=>runC N cal f fn c args H
   | none=>.fail "no body"
 | none=>.fail "no function"
def allNone (l:Hp AV):Bool:=@List.rec (Option (Chunk AV)) (fun _=>Bool) true (fun x _ ih=>match x with | none=>ih | some _=>false) l
def joinCI (b:Bool) (x y:Option (Option Bool×SV)):Option (Option Bool×SV):=match x,y with
    | some (none,v),some (none,u)=>some (none,joinV b v u)
    | some (some n,v),some (none,u)=>some (some (match b with | true=>n | false=>true),joinV b v u)
    | some (none,v),some (some m,u)=>some (some (match b with | true=>true | false=>m),joinV b v u)
    | some (some n,v),some (some m,u)=>some (some (match b with | true=>n | false=>m),joinV b v u)
    | _,_=>none
def joinCT (n:Nat) (t:T (SV×Hp AV)):Option (Option Bool×SV):=@T.rec (SV×Hp AV) (fun _=>Option (Option Bool×SV)) (fun r=>match Nat.beq (len r.2) n with
    | true=>some (none,r.1)
    | false=>none) (fun b _ _ t e=>joinCI b t e) (fun b _ t=>match t with
    | some (none,v)=>some (some b,v)
    | some (some n,v)=>some (some (match b with | true=>n | false=>false),v)
    | none=>none) (fun _=>none) t
def joinC2 (A:Hp AV) (t:T (SV×Hp AV)):T (SV×Hp AV):=match t with
    | .leaf r=>.leaf r
    | t=>match joinCT (len A) t with
      | some (n,v)=>match IW v with
        | true=>t
        | false=>match clV A v,persB A A with
          | true,true=>match n with
            | none=>.leaf (v,A)
            | some b=>.need b (.leaf (v,A))
          | _,_=>t
      | none=>t
def joinCal (cal:Callee AV):Callee AV:=fun f args A =>
 match allNone A with
 | false=>cal f args A
 | true=>joinC2 A (cal f args A)
def lvF (tab:FuncId->Option (List SV->Hp AV->T (SV×Hp AV))) (f:FuncId) (args:List SV) (H:Hp AV) (t:T (SV×Hp AV)):T (SV×Hp AV):=match tab f with
     | some g=>g args H
     | none=>t
def lv (tab:FuncId->Option (List SV->Hp AV->T (SV×Hp AV))) (n:Nat):Callee AV:=@Nat.rec (fun _=>Callee AV) (fun g args H=>match g with
    | .op o=>yr N o args H
    | .fn f=>lvF tab f args H (.fail "depth")) (fun _ ih g args H=>match g with
    | .op o=>yr N o args H
    | .fn f=>lvF tab f args H (runF N (joinCal ih) f args H)) n
end
end Go.Sx.Q
