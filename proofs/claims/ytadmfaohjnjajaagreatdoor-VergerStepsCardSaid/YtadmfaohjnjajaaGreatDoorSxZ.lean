import Derived.Test.YtadmfaohjnjajaaGreatDoorSxM
import Derived.Laws.AppendOwn
import Derived.Laws.MakeOwn
import Derived.Laws.Slices
set_option linter.unusedVariables false
set_option linter.unusedSimpArgs false
set_option maxHeartbeats 0
set_option maxRecDepth 100000
namespace Go.Sx
variable {AV:Type} {P:Program} {N:dV AV}
def aib (P:Program) (sl:Tr SI):Prop:=∀t si,sl.get t=some si->yU P t=some si
theorem xB:∀{l:List Cell} {n:Nat} {r:List Cell},oq l n=some r->r.length=n /\ ∀(j:Nat) c,r[j]?=some c->l[j]?=some c
 | _,0,r,h=>by simp only [oq,aaC] at h;subst h;simp
 | [],n+1,r,h=>by simp [oq] at h
 | x::l,n+1,r,h=>by
   simp only [oq] at h
   split at h
   ·rename_i q hq
    cases h
    obtain⟨h1,h2⟩:=xB hq
    refine⟨by simp [h1],fun j c hc=>?_⟩
    cases j with
    | zero=>simpa using hc
    | succ j=>simp only [aex] at hc ⊢;exact h2 j c hc
   ·cases h
theorem Ax:∀{l:List Cell} {off n:Nat} {r:List Cell},pM l off n=some r->r.length=n /\ ∀(j:Nat) c,r[j]?=some c->l[off+j]?=some c
 | l,0,n,r,h=>by
   simp only [pM] at h
   obtain⟨h1,h2⟩:=xB h
   exact⟨h1,fun j c hc=>by rw [abJ];exact h2 j c hc⟩
 | [],k+1,n,r,h=>by simp [pM] at h
 | x::l,k+1,n,r,h=>by
   simp only [pM] at h
   obtain⟨h1,h2⟩:=Ax h
   exact⟨h1,fun j c hc=>by rw [show k+1+j=(k+j)+1 by omega,aex];exact h2 j c hc⟩
theorem Wy {l:List Cell} {off n:Nat} {r:List Cell} (h:pM l off n=some r) {c:Cell} (hc:c∈r):c∈l:=by
 obtain⟨j,hj⟩:=List.getElem?_of_mem hc
 exact ab8 ((Ax h).2 j c hj)
def fe (H:Hp AV) (es:Nat):Cell->Option (List Cell)
 | .vs n o k lz true=>match Nat.beq es lz,ae H n with
   | true,some (.kD l es2 _)=>match Nat.beq es es2 with
     | true=>pM l (o * es) (k * es)
     | false=>none
   | _,_=>none
 | _=>none
def AY:Cell->Bool
 | .dq=>true
 | .sx _ _=>true
 | .sf _ _ _ _ _ _=>true
 | .vs _ _ k _ true=>Nat.beq k 0
 | _=>false
def ah2 (H:Hp AV) (es:Nat):Cell->T (SV×Hp AV)
 | .dq=>.aE (.v (.c .dq),H)
 | .sx a cap=>.aE (.v (.c (.sx a cap)),H)
 | .sf n o es z f h=>.aE (.v (.c (.sf n o es z f h)),H)
 | .vs n o len lz true=>match fe H es (.vs n o len lz true) with
   | some _=>.aE (.v (.c (.vs n o len lz true)),H)
   | none=>.fail "append"
 | _=>.fail "append"
def O0 (H:Hp AV) (si:SI) (n2 k:Nat) (news:List Cell):Cell->T (SV×Hp AV)
 | .dq=>match decide (k * (si.bytes+1)<=qU) with
   | true=>.aE (.v (.c (.vs H.length 0 k si.size true)),H++[some (.kD news si.size si.e)])
   | false=>.fail "append"
 | .vs n1 o1 len SO true=>match fe H si.size (.vs n1 o1 len SO true),Nat.beq n1 n2,ae H n1,decide ((len+k) * (si.bytes+1)<=qU) with
   | some mP,false,some (.kD _ _ ty),true=>match Nat.beq ty si.e with
     | true=>.aE (.v (.c (.vs H.length 0 (len+k) si.size true)),fG H (some n1)++[some (.kD (mP++news) si.size si.e)])
     | false=>.fail "append"
   | _,_,_,_=>.fail "append"
 | _=>.fail "append"
def ah0 (H:Hp AV) (si:SI) (n2 k:Nat) (news:List Cell):Cell->T (SV×Hp AV)
 | .sf n1 o1 SO false _ _=>O0 H si n2 k news (.vs n1 o1 0 SO true)
 | .sf _ _ _ true _ _=>O0 H si n2 k news .dq
 | s=>O0 H si n2 k news s
def FZ:SV->Option Nat
 | .v (.c (.il _ n))=>match decide (0<=n) with | true=>some n.toNat | false=>none
 | _=>none
abbrev Vt (o l es:Nat):MT:=.ml o l es
theorem Vs (o l es:Nat):∀q:l8,((Vt o l es).ap q).c<=1 \/ false=false /\ (Vt o l es).ap q=⟨q.b,q.o+(o+l) * es,q.c - (o+l)⟩:=by
 intro q
 simp only [MT.ap]
 split
 ·exact .inl (adr _)
 ·split
  ·exact .inl (abV _)
  ·exact .inr ⟨trivial,rfl⟩
abbrev Wg (f:MT):MT:=.GY f
theorem DS (f:MT) (o es:Nat):∀q:l8,((Wg f).ap q).c<=1 \/ true=false /\ (Wg f).ap q=⟨q.b,q.o+o * es,q.c - o⟩:=by
 intro q
 simp only [MT.ap]
 split
 ·exact .inl (adr _)
 ·exact .inl (abV _)
abbrev aeq (o es:Nat):MT:=.GY (.head o es)
def KG (H:Hp AV) (es l h:Nat):Cell->T (SV×Hp AV)
 | .dq=>match Nat.beq h 0,Nat.ble l h with
   | true,true=>.aE (.v (.c .dq),H)
   | _,_=>.fail "slice"
 | .sf n o lz z f p=>match Nat.beq h 0,Nat.ble l h with
   | true,true=>.aE (.v (.c (.sf n o lz z f p)),H)
   | _,_=>.fail "slice"
 | .vs n o len lz true=>match fe H es (.vs n o len lz true),Nat.ble l h,Nat.ble h len with
   | some _,true,true=>match Nat.beq l 0 with
     | true=>.aE (.v (.c (.vs n o h lz true)),H)
     | false=>match Nat.blt l h with
       | true=>.aE (.v (.c (.vs n (o+l) (h - l) lz true)),H)
       | false=>.aE (.v (.c (.sf n (o+l) lz false (Vt o l lz) (Vs o l lz))),H)
   | _,_,_=>.fail "slice"
 | _=>.fail "slice"
def wF:Cell->Option Nat
 | .dq=>some 0
 | .sf _ _ _ _ _ _=>some 0
 | .vs _ _ len _ true=>some len
 | _=>none
def NH (H:Hp AV) (es:Nat):Cell->T (SV×Hp AV)
 | .dq=>.aE (.v (.c .dq),H)
 | .sf n o lz _ f _=>.aE (.v (.c (.sf n o lz true (Wg f) (DS f o lz))),H)
 | .vs n o len lz true=>match fe H es (.vs n o len lz true) with
   | some _=>.aE (.v (.c (.sf n o lz true (aeq o lz) (DS _ o lz))),H)
   | none=>.fail "slice"
 | _=>.fail "slice"
def Qk (sl:Tr SI) (t:TypeId) (lo hi mx:Bool) (args:List SV) (H:Hp AV):T (SV×Hp AV) :=
 match sl.get t with
 | none=>.fail "slice"
 | some si=>match lo,hi,mx,args with
   | true,false,false,[.v (.c s),l]=>match FZ l,wF s with
     | some l,some h=>KG H si.size l h s
     | _,_=>.fail "slice"
   | false,true,false,[.v (.c s),h]=>match FZ h with
     | some h=>KG H si.size 0 h s
     | none=>.fail "slice"
   | true,true,false,[.v (.c s),l,h]=>match FZ l,FZ h with
     | some l,some h=>KG H si.size l h s
     | _,_=>.fail "slice"
   | false,true,true,[.v (.c s),h,m]=>match FZ h,FZ m with
     | some 0,some 0=>NH H si.size s
     | _,_=>.fail "slice"
   | _,_,_,_=>.fail "slice"
def aeb (sl:Tr SI) (G:Nat) (t:TypeId) (s x:Cell) (H:Hp AV):T (SV×Hp AV) :=
 match sl.get t with
 | some si=>match AY x with
   | true=>ah2 H si.size s
   | false=>match x with
     | .vs n2 o2 k es true=>match fe H si.size (.vs n2 o2 k es true),Nat.ble G H.length with
       | some news,true=>ah0 H si n2 k news s
       | _,_=>.fail "append"
     | _=>.fail "append"
 | none=>.fail "append"
def Ze (sl:Tr SI) (G:Nat) (o:Op) (args:List SV) (H:Hp AV):T (SV×Hp AV) :=
 match o with
 | .call c=>match c.callee with
   | .builtin .append=>match args,c.argTypes.toList with
     | [.v (.c s),.v (.c x)],[t,t']=>match Nat.beq t t' with
       | true=>aeb sl G t s x H
       | false=>.fail "append"
     | _,_=>.fail "append"
   | _=>.fail "heavy"
 | .slice t _ lo hi mx=>Qk sl t lo.isSome hi.isSome mx.isSome args H
 | _=>.fail "heavy"
theorem Da {H:Hp AV} {d:Option Nat} {ck:aG AV} (hd:∀n,d=some n->∃c,ae H n=some c) (n:Nat):ae (fG H d++[some ck]) n=if n=H.length then some ck else if d=some n then some .j8 else ae H n:=by
 rw [LV,Ei]
 by_cases e:n=H.length
 ·rw [if_pos e,if_pos e]
 ·rw [if_neg e,if_neg e]
  cases d with
  | none=>simp [fG]
  | some m =>
    obtain⟨c,hc⟩:=hd m rfl
    by_cases e':m=n
    ·subst e';simp [fG,cg _ (bQ hc)]
    ·have:¬(some m=some n):=fun h=>e' (agM h)
     rw [if_neg this];simp only [fG,bp _ e']
theorem CL {H:Hp AV} (hC:dM N H) {d:Option Nat} {ck:aG AV} (hd:∀n,d=some n->∃c,ae H n=some c) (hck:mL H ck.cellsOf):dM N (fG H d++[some ck]):=by
 have dA:∀n c,ae H n=some c->n≠H.length:=fun n c h e=>by have:=bQ h;omega
 have dw:∀n c,ae H n=some c->∃c',ae (fG H d++[some ck]) n=some c':=fun n c h=>by
  rw [Da hd,if_neg (dA n c h)]
  by_cases e:d=some n
  ·exact⟨_,if_pos e⟩
  ·exact⟨c,by rw [if_neg e];exact h⟩
 refine⟨fun n x h=>?_,trivial⟩
 rw [Da hd] at h
 by_cases e:n=H.length
 ·rw [if_pos e] at h;cases h;exact hck.mono dw
 ·rw [if_neg e] at h
  by_cases e':d=some n
  ·rw [if_pos e'] at h;cases h;intro c hc;cases hc
  ·rw [if_neg e'] at h;exact(hC.1 n x h).mono dw
theorem mH {H:Hp AV} {d:Option Nat} {ck:aG AV} (hd:∀n,d=some n->∃c,ae H n=some c) (o len es:Nat) (kn:Bool):fh (fG H d++[some ck]) (.v (.c (.vs H.length o len es kn))):=by
 intro c hc n hn
 simp [V1.cells] at hc
 subst hc
 simp only [Cell.name,aaC] at hn
 subst hn
 exact⟨ck,by rw [Da hd,if_pos rfl]⟩
theorem dL {H:Hp AV} {es n o k lz:Nat} {cs:List Cell} (h:fe H es (.vs n o k lz true)=some cs) :
 ∃l ty,ae H n=some (.kD l es ty) /\ lz=es /\ cs.length=k * es /\ (∀c∈cs,c∈l) /\ ∀(j:Nat) c,cs[j]?=some c->l[o * es+j]?=some c:=by
 simp only [fe] at h
 split at h
 ·rename_i l es2 ty h1 h2
  split at h
  ·rename_i h3
   have h1:=(aC _ _).1 h1
   have h3:=(aC _ _).1 h3
   subst h1 h3
   obtain⟨q1,q2⟩:=Ax h
   exact⟨l,ty,h2,rfl,q1,fun c hc=>Wy h hc,q2⟩
  ·cases h
 ·cases h
theorem Co {ρ:Nm} {H:Hp AV} {w:World} (hO:eZ N ρ H w) {es n o k lz:Nat} {cs:List Cell} (Jz:0 < es) (hk:0 < k) (h:fe H es (.vs n o k lz true)=some cs) :
 ∃c,(Cell.vs n o k lz true).aq ρ=.slice (some ⟨ρ n,(ρ.L n).o+o * es,none⟩) k c /\ ∀(j:Nat) v,(aA ρ cs)[j]?=some v->w.cell? ((⟨ρ n,(ρ.L n).o+o * es,none⟩:Addr).add j)=some v:=by
 obtain⟨l,ty,h1,rfl,h3,_,h4⟩:=dL h
 refine⟨(ρ.L n).c - 1 - o,?_,fun j v hv=>?_⟩
 ·simp only [Cell.aq,bN]
  rw [if_neg (by omega)]
 ·obtain⟨c,hc,rfl⟩:=zq ρ cs j v hv
  have:=M9 hO h1 (o * lz+j) c (h4 j c hc)
  have e:(⟨ρ n,(ρ.L n).o+o * lz,none⟩:Addr).add j=⟨ρ n,(ρ.L n).o+(o * lz+j),none⟩:=by
   unfold Addr.add
   by_cases hj:j=0<;>simp [hj,aej]
  rw [e];exact this
theorem qF (w:World) (t ty e:TypeId) (i:TypeInfo) (ht:P.underlying t=some (.slice e)) (hi:P.info? e=some i)
 (g o0 FQ afH:Nat) (cur:Array Value) (te:TypeId) (hg:w.heap[g]?=some (.cells cur te (0,0)))
 (a:Addr) (m c:Nat) (news:List Value) (hl:news.length=m * i.size) (pS:∀j u,news[j]?=some u->w.cell? (a.add j)=some u) (h1:∀u∈news,u.oneCell'=true)
 (pR:FQ+m<=afH) (hfit:o0+FQ * i.size+news.length<=cur.size) :
 (Builtin.append_ #[t,t] ty #[.slice (some ⟨g,o0,none⟩) FQ afH,.slice (some a) m c]).run P w =
   .ok (.slice (some ⟨g,o0,none⟩) (FQ+m) afH) (w.setRow g (cur.toList.take (o0+FQ * i.size)++news++cur.toList.drop (o0+FQ * i.size+news.length)).toArray):=by
 have hf:=run_firstCells_some (P:=P) w i.size m a m c news hl pS
 have uO:=run_storeCells_at P g (o0+FQ * i.size) te news 0 cur w hg (by simpa using hfit) h1
 simp only [Nat.add_zero] at uO
 have e0:(⟨g,o0,none⟩:Addr).add (FQ * i.size)=⟨g,o0+FQ * i.size,none⟩:=by
  unfold Addr.add
  by_cases hj:FQ * i.size=0<;>simp [hj]
 simp [Builtin.append_,run_underlying ht,sizeOf,typeInfo,hi,Builtin.lenOf,pR,hf,e0,uO]
theorem Jf {ρ:Nm} {H:Hp AV} {w w0:World} (hO:eZ N ρ H w) (hC:dM N H) (hG:N.G<=H.length) {d:Option Nat} (hd:∀n,d=some n->∃c,ae H n=some c) {l:List Cell} {es:Nat} {e:TypeId} (hl:mL H l) {row:Array Value} {cap:Nat}
 (h0:w0.heap=w.heap) (hos:w0.os=w.os) (htp:w0.tape=w.tape) (Xq:w0.output=w.output) (Hq:row.size=cap * es) (hle:l.length<=cap * es) (hrow:∀(j:Nat) v,(aA ρ l)[j]?=some v->row[j]?=some v) :
 eZ N (ρ.set H.length ⟨w.heap.size,0,cap+1⟩ fun k=>k=w.heap.size) (fG H d++[some (.kD l es e)]) (w0.alloc (.cells row e)) /\
 iZ N H.length ρ H w (ρ.set H.length ⟨w.heap.size,0,cap+1⟩ fun k=>k=w.heap.size) (fG H d++[some (.kD l es e)]) (w0.alloc (.cells row e)):=by
 have Oq:aA (ρ.set H.length ⟨w.heap.size,0,cap+1⟩ fun k=>k=w.heap.size) l=aA ρ l:=dF hl fun n c h=>(ρ.qE _ _ (by have:=bQ h;omega)).1
 have:=DG (w':=w0.alloc (.cells row e)) hO hC hG (d:=d) (ck:=.kD l es e) hd hl (lc:=⟨w.heap.size,0,cap+1⟩) (S:=fun k=>k=w.heap.size)
  (fun k hk _=>by show (w0.heap.push _)[k]?=_;rw [Array.getElem?_push,h0,if_neg (by omega)]) hos htp Xq (by show w.heap.size<=(w0.heap.push _).size;rw [h0];simp)
  (by
    show mM _ _ _ _ _ _
    rw [(jz _ _ _ _).1,(jz _ _ _ _).2,Oq]
    refine .inr ⟨by simp,fun k=>Iff.rfl,row.toList,?_,?_,?_,?_⟩
    ·show (w0.heap.push _)[w.heap.size]?=_
     rw [h0]
     simp
    ·simp [Hq]
    ·rw [bY];simpa using hle
    ·intro j v hv
     have:=hrow j v hv
     simpa using this)
  (fun k hk=>by
    have hk:(ρ.set H.length ⟨w.heap.size,0,cap+1⟩ fun k=>k=w.heap.size).S H.length k:=hk
    rw [(jz _ _ _ _).2] at hk
    exact .inl (by omega))
 exact⟨this.1,this.2.1⟩
theorem uU {ev:Operand->Value} {o:Oper} {c:Call} {w w':World} {v:Value} (ho:o.op=.call c) (hb:c.callee=.builtin .append) {t:TypeId} (ht:c.argTypes.toList=[t,t]) {s x:Value} (hv:(Op.call c).operands.toList.map ev=[s,x])
 (hr:(Builtin.append_ #[t,t] o.type #[s,x]).run P w=.ok v w'):(execOp ev o).run P w=.ok (.value v) w':=by
 obtain⟨dst,op,ty,I5,after,guard⟩:=o
 simp only at ho hr
 subst ho
 obtain⟨cP,args,tys⟩:=c
 simp only at hb ht
 subst hb
 have ht:tys=#[t,t]:=by
  have:=congrArg List.toArray ht
  simpa using this
 subst ht
 have ha:args.map ev=#[s,x]:=by
  have h:args.toList.map ev=[s,x]:=by simpa [Op.operands,Call.operands] using hv
  rw [<- afe (xs:=args),List.map_toArray,h]
 simp [execOp,resolve,invoke,builtin,ha,hr]
theorem YS {ev:Operand->Value} {o:Oper} {c:Call} {w:World} (ho:o.op=.call c) (hb:c.callee=.builtin .append) {t e:TypeId} {i:TypeInfo} (ht:c.argTypes.toList=[t,t]) (hu:P.underlying t=some (.slice e)) (hi:P.info? e=some i) {a b:Option Addr} {n cap JT:Nat} (hle:n<=cap)
 (hv:(Op.call c).operands.toList.map ev=[.slice a n cap,.slice b 0 JT]) (XG:∀q,b=some q->∀w:World,(loadCells q 0).run P w=.ok #[] w):(execOp ev o).run P w=.ok (.value (.slice a n cap)) w:=by
 refine uU ho hb ht hv ?_
 have hf:(Builtin.firstCells i.size 0 (.slice b 0 JT)).run P w=.ok #[] w:=by
  cases b with
  | none=>simp [Builtin.firstCells]
  | some q=>simp only [Builtin.firstCells,Nat.zero_mul];exact XG q rfl w
 cases a with
 | none=>simp [Builtin.append_,run_underlying hu,sizeOf,typeInfo,hi,Builtin.lenOf,hle,hf]
 | some q=>simp [Builtin.append_,run_underlying hu,sizeOf,typeInfo,hi,Builtin.lenOf,hle,hf,storeCells]
theorem G8 (q:Addr) (w:World):(loadCells q 0).run P w=.ok #[] w:=by
 have:=run_loadCells_list (P:=P) w q [] (fun j v h=>by simp at h)
 simpa using this
theorem HS {x:Cell} (h:AY x=true) (ρ:Nm):∃b cap,x.aq ρ=.slice b 0 cap:=by
 cases x<;>simp only [AY] at h<;>try cases h
 ·exact⟨none,0,rfl⟩
 ·exact⟨_,_,rfl⟩
 ·rename_i n o k es kn
  cases kn with
  | false=>cases h
  | true =>
    have h:=(aC _ _).1 h
    subst h
    by_cases e:(ρ.L n).c=0
    ·exact⟨none,0,by simp [Cell.aq,bN,e]⟩
    ·exact⟨some ⟨(ρ.L n).b,(ρ.L n).o+o * es,none⟩,(ρ.L n).c - 1 - o,by simp [Cell.aq,bN,e]⟩
 ·simp only [Cell.aq,bN]
  split<;>exact⟨_,_,rfl⟩
theorem D3:∀{l:List Cell} {n:Nat} {r:List Cell},oq l n=some r->n<=l.length
 | _,0,_,_=>adr _
 | [],n+1,r,h=>by simp [oq] at h
 | x::l,n+1,r,h=>by
   simp only [oq] at h
   split at h
   ·rename_i q hq
    have:=D3 hq
    simp;omega
   ·cases h
theorem P6:∀{l:List Cell} {off n:Nat} {r:List Cell},pM l off n=some r->off+n<=l.length
 | l,0,n,r,h=>by
   simp only [pM] at h
   have:=D3 h
   omega
 | [],k+1,n,r,h=>by simp [pM] at h
 | x::l,k+1,n,r,h=>by
   simp only [pM] at h
   have:=P6 h
   simp;omega
theorem yf {ρ:Nm} {H:Hp AV} {w:World} (hO:eZ N ρ H w) {es n o k lz:Nat} {cs:List Cell} (Jz:0 < es) (h:fe H es (.vs n o k lz true)=some cs):o+k<=(ρ.L n).c - 1:=by
 obtain⟨l,ty,h1,rfl,_⟩:=dL h
 have hle:o * lz+k * lz<=l.length:=by
  simp only [fe,agu,h1] at h
  exact P6 h
 rw [<- aey] at hle
 rcases hO.q n _ h1 with⟨_,Xs,_⟩ | ⟨_,_,row,_,_,hc,_⟩
 ·have:l.length=0:=by rw [<- bY ρ l,Xs];rfl
  have h0:(o+k) * lz=0:=by omega
  rcases Nat.mul_eq_zero.1 h0 with h0 | h0<;>omega
 ·rw [bY] at hc
  exact Nat.le_of_mul_le_mul_right (abL hle hc) Jz
theorem acB {es:Nat} (Jz:0 < es) {H H':Hp AV} {v:SV} {s:Cell} (h:(ah2 H es s).val=some (v,H')):v=.v (.c s) /\ H'=H /\ ∀(ρ:Nm) (w:World),eZ N ρ H w->∃a n cap,s.aq ρ=.slice a n cap /\ n<=cap:=by
 unfold ah2 at h
 split at h
 ·simp only [T.val,aaC,aaF] at h
  exact⟨h.1.symm,h.2.symm,fun ρ w _=>⟨none,0,0,rfl,abV _⟩⟩
 ·simp only [T.val,aaC,aaF] at h
  exact⟨h.1.symm,h.2.symm,fun ρ w _=>⟨_,0,_,rfl,adr _⟩⟩
 ·simp only [T.val,aaC,aaF] at h
  refine⟨h.1.symm,h.2.symm,fun ρ w _=>?_⟩
  simp only [Cell.aq,bN]
  split<;>exact⟨_,0,_,rfl,adr _⟩
 ·rename_i n o len lz
  split at h
  ·rename_i cs hcs
   simp only [T.val,aaC,aaF] at h
   refine⟨h.1.symm,h.2.symm,fun ρ w hO=>?_⟩
   have hf:=yf hO Jz hcs
   simp only [Cell.aq,bN]
   by_cases e:len=0 /\ (ρ.L n).c=0
   ·rw [if_pos e];exact⟨_,_,_,rfl,abV _⟩
   ·rw [if_neg e];exact⟨_,_,_,rfl,by omega⟩
  ·cases h
 ·cases h
theorem yC {row news:List Value} {p:Nat} (hp:p+news.length<=row.length) (j:Nat):(row.take p++news++row.drop (p+news.length))[j]?=if j < p then row[j]? else if j < p+news.length then news[j - p]? else row[j]?:=by
 have hl:(row.take p).length=p:=by simp;omega
 by_cases h1:j < p
 ·rw [if_pos h1,acC,acQ (by omega),aeG,if_pos h1]
 ·rw [if_neg h1]
  by_cases h2:j < p+news.length
  ·rw [if_pos h2,acC,acR (by omega),hl,acQ (by omega)]
  ·rw [if_neg h2,acR (by simp;omega),af2]
   congr 1
   simp
   omega
theorem JU {si:SI} {i:TypeInfo} {z:Value} {t:TypeId} (hu:P.underlying t=some (.slice si.e)) (hi:P.info? si.e=some i) (hz:i.zero=some z) (e1:i.size=si.size) (e2:i.bytes=si.bytes) (fq:0 < si.size) (Oh:z.cells.size=si.size)
 {H H':Hp AV} {v:SV} {s:Cell} {n2 o2 k es:Nat} {news:List Cell} (hk:0 < k) (pS:fe H si.size (.vs n2 o2 k es true)=some news) (hG:N.G<=H.length) (hC:dM N H)
 (h:(O0 H si n2 k news s).val=some (v,H')):fh H' v /\ dM N H' /\ ∀(ρ:Nm) (w:World),eZ N ρ H w->∀ty,∃r w',(Builtin.append_ #[t,t] ty #[s.aq ρ,(Cell.vs n2 o2 k es true).aq ρ]).run P w=.ok r w' /\
   ∃ρ',r=v.aq ρ' /\ eZ N ρ' H' w' /\ iZ N H.length ρ H w ρ' H' w':=by
 obtain⟨l2,Kp,g1,g2,g3,g4,_⟩:=dL pS
 have XF:mL H news:=fun c hc=>hC.1 n2 _ g1 c (g4 c hc)
 have AN:∀(w:World) (aJ cU:Nat),(Builtin.zeroCells z.cells (grownCap w aJ cU si.e - aJ)).size=(grownCap w aJ cU si.e - aJ) * si.size:=fun w aJ cU=>by rw [size_zeroCells,Oh]
 unfold O0 at h
 split at h
 ·-- to nothing
  split at h
  ·rename_i hb
   cases h
   have hb:=aaV hb
   have hd:∀n,(none:Option Nat)=some n->∃c,ae H n=some c:=fun n h=>by cases h
   refine⟨mH (d:=none) hd 0 _ _ _,CL (d:=none) (ck:=.kD news si.size si.e) hC hd XF,fun ρ w hO ty=>?_⟩
   obtain⟨c2,hx,lO⟩:=Co hO fq hk pS
   have Xw:k * si.bytes<=qU:=abL (adV _ (Nat.le_succ _)) hb
   have Jx:k<=qU:=by
    have:k * 1<=k * (si.bytes+1):=adV _ (by omega)
    omega
   simp only [qU] at Xw Jx
   have hr:=run_append_nil (P:=P) w t ty si.e i z hu hi hz _ k c2 (aA ρ news) (by rw [bY,g3,e1]) lO hk (by omega) (by rw [e2];omega)
   obtain⟨o1,o2⟩:=Jf (w0:=w.drew) (d:=none) (l:=news) (es:=si.size) (e:=si.e) (row:=(aA ρ news).toArray++Builtin.zeroCells z.cells (grownCap w k 0 si.e - k)) (cap:=grownCap w k 0 si.e) hO hC hG hd XF rfl rfl rfl rfl
    (by
      have:=grownCap_ge w k 0 si.e
      rw [Array.size_append,AN]
      simp only [List.size_toArray,bY,g3]
      rw [<- aey]
      congr 1
      omega)
    (by
      have:=grownCap_ge w k 0 si.e
      rw [g3];exact adN _ this)
    (fun j v hv=>by
      have hj:=(abt.1 hv).1
      rw [Array.getElem?_append_left (by simpa using hj)]
      simpa using hv)
   refine⟨_,_,(by rw [hx];exact hr),_,?_,o1,o2⟩
   simp only [SV.aq,V1.aq,Cell.aq,bN,(jz _ _ _ _).1]
   rw [if_neg (by omega)]
   simp
  ·cases h
 ·-- to a slice
  rename_i n1 o1 len SO
  split at h
  ·rename_i mP l1 es0 dR q1 q2 q3 q4
   split at h
   ·rename_i q5
    cases h
    have q5:=(aC _ _).1 q5
    subst q5
    have q4:=aaV q4
    have dA:=(bE n1 n2).1 q2
    obtain⟨l1',atU,r1,r2,r3,r4,r5⟩:=dL q1
    rw [q3] at r1
    simp only [aaC,aG.kD.injEq] at r1
    obtain⟨m1,m2,m3⟩:=r1
    subst m1 m2 m3
    have aq8:mL H mP:=fun c hc=>hC.1 n1 _ q3 c (r4 c hc)
    have hcl:mL H (mP++news):=fun c hc=>(aec.1 hc).elim (aq8 c) (XF c)
    have hd:∀n,(some n1:Option Nat)=some n->∃c,ae H n=some c:=fun n h=>by cases h;exact⟨_,q3⟩
    refine⟨mH hd 0 _ _ _,CL (ck:=.kD (mP++news) si.size si.e) hC hd hcl,fun ρ w hO ty=>?_⟩
    obtain⟨c2,hx,lO⟩:=Co hO fq hk pS
    have Xw:(len+k) * si.bytes<=qU:=abL (adV _ (Nat.le_succ _)) q4
    have Jx:len+k<=qU:=by
     have:(len+k) * 1<=(len+k) * (si.bytes+1):=adV _ (by omega)
     omega
    simp only [qU] at Xw Jx
    have hdl:(aA ρ (mP++news))=aA ρ mP++aA ρ news:=by simp [aA]
    have hfit:=yf hO fq q1
    have hlen:(mP++news).length=(len+k) * si.size:=by rw [abl,r3,g3,aey]
    have grow:∀(cU:Nat) (r:Value) (w':World),r=.slice (some ⟨w.heap.size,0,none⟩) (len+k) (grownCap w (len+k) cU si.e) ->
     w'=w.drew.alloc (.cells ((aA ρ mP).toArray++(aA ρ news).toArray++Builtin.zeroCells z.cells (grownCap w (len+k) cU si.e - (len+k))) si.e) ->
     ∃ρ',r=(SV.v (.c (.vs H.length 0 (len+k) si.size true))).aq ρ' /\ eZ N ρ' (fG H (some n1)++[some (.kD (mP++news) si.size si.e)]) w' /\ iZ N H.length ρ H w ρ' (fG H (some n1)++[some (.kD (mP++news) si.size si.e)]) w':=by
     rintro cU r w' rfl rfl
     obtain⟨p1,p2⟩:=Jf (w0:=w.drew) (d:=some n1) (l:=mP++news) (es:=si.size) (e:=si.e) (row:=(aA ρ mP).toArray++(aA ρ news).toArray++Builtin.zeroCells z.cells (grownCap w (len+k) cU si.e - (len+k))) (cap:=grownCap w (len+k) cU si.e) hO hC hG hd hcl rfl rfl rfl rfl
      (by
        have:=grownCap_ge w (len+k) cU si.e
        rw [Array.size_append,AN,Array.size_append]
        simp only [List.size_toArray,bY,g3,r3]
        rw [<- aey,<- aey]
        congr 1
        omega)
      (by
        have:=grownCap_ge w (len+k) cU si.e
        rw [hlen];exact adN _ this)
      (fun j v hv=>by
        rw [hdl] at hv
        have hj:=(abt.1 hv).1
        rw [Array.getElem?_append_left (by simpa using hj)]
        simpa using hv)
     refine⟨_,?_,p1,p2⟩
     simp only [SV.aq,V1.aq,Cell.aq,bN,(jz _ _ _ _).1]
     rw [if_neg (by omega)]
     simp
    by_cases wH:(ρ.L n1).c=0
    ·-- it is nil
     have Ty:len=0:=by omega
     subst Ty
     simp only [abJ] at Xw
     have ho0:mP=[]:=by
      have:mP.length=0:=by rw [r3];simp
      exact agk.1 this
     have hs:(Cell.vs n1 o1 0 SO true).aq ρ=.slice none 0 0:=by simp [Cell.aq,bN,wH]
     have hr:=run_append_nil (P:=P) w t ty si.e i z hu hi hz _ k c2 (aA ρ news) (by rw [bY,g3,e1]) lO hk (by omega) (by rw [e2];omega)
     refine⟨_,_,(by rw [hs,hx];exact hr),grow 0 _ _ (by simp) ?_⟩
     subst ho0
     simp [aA]
    ·have hs:(Cell.vs n1 o1 len SO true).aq ρ=.slice (some ⟨ρ n1,(ρ.L n1).o+o1 * si.size,none⟩) len ((ρ.L n1).c - 1 - o1):=by
      simp only [Cell.aq,bN]
      rw [if_neg (fun h=>wH h.2),r2]
     rcases hO.q n1 _ q3 with⟨h0,hnl,_⟩ | ⟨hcp,hS,row,hrow,Zf,hll,bC⟩
     ·-- it has no yD at all
      have Jw:l1=[]:=by simpa [aA] using hnl
      have Ty:len=0:=by omega
      have ho0:mP=[]:=by
       have:mP.length=0:=by rw [r3,Ty];simp
       exact agk.1 this
      subst Ty ho0
      have hr:=run_append_grow (P:=P) w t ty si.e i z hu hi hz ⟨ρ n1,(ρ.L n1).o+o1 * si.size,none⟩ 0 ((ρ.L n1).c - 1 - o1) [] (by simp) (fun j v h=>by simp at h) _ k c2 (aA ρ news) (by rw [bY,g3,e1]) lO (by omega) (by omega) (growslice_fits (by omega) (by rw [e2];omega))
      exact⟨_,_,(by rw [hs,hx];exact hr),grow _ _ _ rfl (by simp [aA])⟩
     by_cases pR:len+k<=(ρ.L n1).c - 1 - o1
     ·-- there is yD
      have hmul:o1 * si.size+len * si.size+k * si.size<=((ρ.L n1).c - 1) * si.size:=by
       rw [<- aey,<- aey]
       exact adN _ (by omega)
      have hnl:(aA ρ news).length=k * si.size:=by rw [bY,g3]
      have hp:(ρ.L n1).o+o1 * si.size+len * si.size+(aA ρ news).length<=row.length:=by rw [hnl];omega
      have hr:=qF (P:=P) w t ty si.e i hu hi (ρ n1) ((ρ.L n1).o+o1 * si.size) len ((ρ.L n1).c - 1 - o1) row.toArray si.e hrow _ k c2 (aA ρ news) (by rw [hnl,e1]) lO (fun u hu=>by
       simp only [aA,adK] at hu
       obtain⟨c,_,rfl⟩:=hu
       exact zp ρ c) pR (by rw [e1];simpa using hp)
      rw [e1] at hr
      simp only at hr
      have Oq:aA (ρ.set H.length ⟨ρ n1,(ρ.L n1).o+o1 * si.size,(ρ.L n1).c - o1⟩ fun k=>k=ρ n1) (mP++news)=aA ρ (mP++news):=dF hcl fun n c h=>(ρ.qE _ _ (by have:=bQ h;omega)).1
      have Ot:=setRow_heap w (ρ n1) _ (List.toArray (row.take ((ρ.L n1).o+o1 * si.size+len * si.size)++aA ρ news++row.drop ((ρ.L n1).o+o1 * si.size+len * si.size+(aA ρ news).length))) si.e (0,0) hrow
      obtain⟨p1,p2,_⟩:=DG (w':=w.setRow (ρ n1) (row.take ((ρ.L n1).o+o1 * si.size+len * si.size)++aA ρ news++row.drop ((ρ.L n1).o+o1 * si.size+len * si.size+(aA ρ news).length)).toArray) hO hC hG (d:=some n1) (ck:=.kD (mP++news) si.size si.e) hd hcl (lc:=⟨ρ n1,(ρ.L n1).o+o1 * si.size,(ρ.L n1).c - o1⟩) (S:=fun k=>k=ρ n1)
       (fun k hk tC=>setRow_other w (ρ n1) k _ (fun e=>tC n1 _ rfl q3 ((hS k).2 e))) rfl rfl rfl (by simp [World.setRow])
       (by
         show mM _ _ _ _ _ _
         rw [(jz _ _ _ _).1,(jz _ _ _ _).2,Oq]
         refine .inr ⟨by show 0 < (ρ.L n1).c - o1;omega,fun k=>Iff.rfl,_,Ot,?_,?_,?_⟩
         ·show (ρ.L n1).o+o1 * si.size+((ρ.L n1).c - o1 - 1) * si.size<=_
          have e3:o1 * si.size+((ρ.L n1).c - o1 - 1) * si.size=((ρ.L n1).c - 1) * si.size:=by rw [<- aey];congr 1;omega
          simp only [abl,agV,agW]
          omega
         ·show (aA ρ (mP++news)).length<=((ρ.L n1).c - o1 - 1) * si.size
          rw [bY,hlen]
          exact adN _ (by omega)
         ·intro j v hv
          show _=some v
          rw [yC hp]
          rw [hdl] at hv
          have hol:(aA ρ mP).length=len * si.size:=by rw [bY,r3]
          by_cases hj:j < len * si.size
          ·rw [if_pos (by show (ρ.L n1).o+o1 * si.size+j < _;omega)]
           rw [acQ (by omega)] at hv
           obtain⟨cc,F8,rfl⟩:=zq ρ mP j v hv
           have:=bC (o1 * si.size+j) (cc.aq ρ) (by simp [aA,r5 j cc F8])
           rw [<- aej] at this
           exact this
          ·rw [if_neg (by show ¬((ρ.L n1).o+o1 * si.size+j < _);omega)]
           rw [acR (by omega)] at hv
           have hj2:=(abt.1 hv).1
           rw [if_pos (by show (ρ.L n1).o+o1 * si.size+j < _;omega)]
           rw [<- hv]
           congr 1
           show (ρ.L n1).o+o1 * si.size+j - _=_
           omega)
       (fun k hk=>by
         have hk:(ρ.set H.length ⟨ρ n1,(ρ.L n1).o+o1 * si.size,(ρ.L n1).c - o1⟩ fun k=>k=ρ n1).S H.length k:=hk
         rw [(jz _ _ _ _).2] at hk
         exact .inr ⟨n1,_,rfl,q3,(hS k).2 hk⟩)
      refine⟨_,_,(by rw [hs,hx];exact hr),_,?_,p1,p2⟩
      simp only [SV.aq,V1.aq,Cell.aq,bN,(jz _ _ _ _).1]
      rw [if_neg (by omega)]
      simp only [Nat.zero_mul,Nat.add_zero]
      congr 1
      omega
     ·-- there is none
      have holds:∀(j:Nat) v,(aA ρ mP)[j]?=some v->w.cell? ((⟨ρ n1,(ρ.L n1).o+o1 * si.size,none⟩:Addr).add j)=some v:=fun j v hv=>by
       obtain⟨cc,F8,rfl⟩:=zq ρ mP j v hv
       have:=M9 hO q3 (o1 * si.size+j) cc (r5 j cc F8)
       have e:(⟨ρ n1,(ρ.L n1).o+o1 * si.size,none⟩:Addr).add j=⟨ρ n1,(ρ.L n1).o+(o1 * si.size+j),none⟩:=by
        unfold Addr.add
        by_cases hj:j=0<;>simp [hj,aej]
       rw [e];exact this
      have hr:=run_append_grow (P:=P) w t ty si.e i z hu hi hz _ len ((ρ.L n1).c - 1 - o1) (aA ρ mP) (by rw [bY,r3,e1]) holds _ k c2 (aA ρ news) (by rw [bY,g3,e1]) lO (by omega) (by omega) (growslice_fits (by omega) (by rw [e2];omega))
      exact⟨_,_,(by rw [hs,hx];exact hr),grow _ _ _ rfl rfl⟩
   ·cases h
  ·cases h
 ·cases h
theorem oC (w:World) (t ty e:TypeId) (i:TypeInfo) (z:Value) (ht:P.underlying t=some (.slice e)) (hi:P.info? e=some i) (hz:i.zero=some z)
 (b:Option Addr) (a:Addr) (n c:Nat) (news:List Value) (hl:news.length=n * i.size) (pS:∀(j:Nat) v,news[j]?=some v->w.cell? (a.add j)=some v)
 (hn:0 < n) (h63:(n:Int)<=9223372036854775807) (hfit:n * i.bytes<=140737488355328) :
 (Builtin.append_ #[t,t] ty #[.slice b 0 0,.slice (some a) n c]).run P w =
   .ok (.slice (some ⟨w.heap.size,0,none⟩) n (grownCap w n 0 e)) (w.drew.alloc (.cells (news.toArray++Builtin.zeroCells z.cells (grownCap w n 0 e - n)) e)):=by
 cases b with
 | none=>exact run_append_nil (P:=P) w t ty e i z ht hi hz a n c news hl pS hn h63 (by omega)
 | some b =>
   have:=run_append_grow (P:=P) w t ty e i z ht hi hz b 0 0 [] (by simp) (fun j v h=>by simp at h) a n c news hl pS (by omega) (by simpa using h63) (growslice_fits (by omega) (by simpa using hfit))
   simpa using this
theorem Kc {n o es:Nat} {z:Bool} {f:MT} {h:∀l,(f.ap l).c<=1 \/ z=false /\ f.ap l=⟨l.b,l.o+o * es,l.c - o⟩} {ρ:Nm} (h0:(f.ap (ρ.L n)).c<=1):∃ba,(Cell.sf n o es z f h).aq ρ=.slice ba 0 0:=by
 simp only [Cell.aq,bN]
 split
 ·exact⟨_,rfl⟩
 ·exact⟨_,by rw [show (f.ap (ρ.L n)).c - 1 - 0=0 by omega]⟩
theorem acz {si:SI} {i:TypeInfo} {z:Value} {t:TypeId} (hu:P.underlying t=some (.slice si.e)) (hi:P.info? si.e=some i) (hz:i.zero=some z) (e1:i.size=si.size) (e2:i.bytes=si.bytes) (fq:0 < si.size) (Oh:z.cells.size=si.size)
 {H H':Hp AV} {v:SV} {s:Cell} {n2 o2 k es:Nat} {news:List Cell} (hk:0 < k) (pS:fe H si.size (.vs n2 o2 k es true)=some news) (hG:N.G<=H.length) (hC:dM N H)
 (h:(ah0 H si n2 k news s).val=some (v,H')):fh H' v /\ dM N H' /\ ∀(ρ:Nm) (w:World),eZ N ρ H w->∀ty,∃r w',(Builtin.append_ #[t,t] ty #[s.aq ρ,(Cell.vs n2 o2 k es true).aq ρ]).run P w=.ok r w' /\
   ∃ρ',r=v.aq ρ' /\ eZ N ρ' H' w' /\ iZ N H.length ρ H w ρ' H' w':=by
 have AN:∀(w:World) (aJ cU:Nat),(Builtin.zeroCells z.cells (grownCap w aJ cU si.e - aJ)).size=(grownCap w aJ cU si.e - aJ) * si.size:=fun w aJ cU=>by rw [size_zeroCells,Oh]
 obtain⟨l2,Kp,g1,g2,g3,g4,_⟩:=dL pS
 have XF:mL H news:=fun c hc=>hC.1 n2 _ g1 c (g4 c hc)
 unfold ah0 at h
 split at h
 ·rename_i n1 o1 SO f hf
  obtain⟨r1,r2,r3⟩:=JU hu hi hz e1 e2 fq Oh hk pS hG hC h
  refine⟨r1,r2,fun ρ w hO ty=>?_⟩
  have zero:(f.ap (ρ.L n1)).c<=1->∃r w',(Builtin.append_ #[t,t] ty #[(Cell.sf n1 o1 SO false f hf).aq ρ,(Cell.vs n2 o2 k es true).aq ρ]).run P w=.ok r w' /\
   ∃ρ',r=v.aq ρ' /\ eZ N ρ' H' w' /\ iZ N H.length ρ H w ρ' H' w':=by
   intro h0
   obtain⟨ba,hba⟩:∃ba,(Cell.sf n1 o1 SO false f hf).aq ρ=.slice ba 0 0:=Kc h0
   simp only [O0] at h
   split at h
   ·rename_i mP l1 es0 dR q1 q2 q3 q4
    split at h
    ·rename_i q5
     cases h
     have q4:=aaV q4
     simp only [abJ] at q4
     obtain⟨_,_,_,_,s3,_⟩:=dL q1
     have ho0:mP=[]:=agk.1 (by rw [s3];simp)
     subst ho0
     have hd:∀n,(some n1:Option Nat)=some n->∃c,ae H n=some c:=fun n h=>by cases h;exact⟨_,q3⟩
     obtain⟨c2,hx,lO⟩:=Co hO fq hk pS
     have Xw:k * si.bytes<=qU:=abL (adV _ (Nat.le_succ _)) q4
     have Jx:k<=qU:=by
      have:k * 1<=k * (si.bytes+1):=adV _ (by omega)
      omega
     simp only [qU] at Xw Jx
     have hr:=oC (P:=P) w t ty si.e i z hu hi hz ba _ k c2 (aA ρ news) (by rw [bY,g3,e1]) lO hk (by omega) (by rw [e2];omega)
     obtain⟨o1,o2⟩:=Jf (w0:=w.drew) (d:=some n1) (l:=[]++news) (es:=si.size) (e:=si.e) (row:=(aA ρ news).toArray++Builtin.zeroCells z.cells (grownCap w k 0 si.e - k)) (cap:=grownCap w k 0 si.e) hO hC hG hd (by simpa using XF) rfl rfl rfl rfl
      (by
        have:=grownCap_ge w k 0 si.e
        rw [Array.size_append,AN]
        simp only [List.size_toArray,bY,g3]
        rw [<- aey]
        congr 1
        omega)
      (by
        have:=grownCap_ge w k 0 si.e
        rw [acM,g3];exact adN _ this)
      (fun j v hv=>by
        rw [acM] at hv
        have hj:=(abt.1 hv).1
        rw [Array.getElem?_append_left (by simpa using hj)]
        simpa using hv)
     refine⟨_,_,(by rw [hx,hba];exact hr),_,?_,o1,o2⟩
     simp only [SV.aq,V1.aq,Cell.aq,bN,(jz _ _ _ _).1]
     rw [if_neg (by omega)]
     simp
    ·cases h
   ·cases h
  rcases hf (ρ.L n1) with h0 | ⟨_,h0⟩
  ·exact zero h0
  ·by_cases hc:(ρ.L n1).c=0
   ·exact zero (by rw [h0,hc];simp)
   ·by_cases nC:(ρ.L n1).c - o1<=1
    ·exact zero (by rw [h0];exact nC)
    ·have hd:(Cell.sf n1 o1 SO false f hf).aq ρ=(Cell.vs n1 o1 0 SO true).aq ρ:=by
      simp only [Cell.aq,bN,h0]
      have y1:¬(True /\ (ρ.L n1).c - o1=0):=fun h=>by omega
      have y2:¬(True /\ (ρ.L n1).c=0):=fun h=>hc h.2
      rw [if_neg y1,if_neg y2]
      simp only [Nat.zero_mul,Nat.add_zero]
      congr 1
      omega
     rw [hd]
     exact r3 ρ w hO ty
 ·rename_i n1 o1 SO f hf
  obtain⟨r1,r2,r3⟩:=JU hu hi hz e1 e2 fq Oh hk pS hG hC h
  refine⟨r1,r2,fun ρ w hO ty=>?_⟩
  obtain⟨r,w',h1,h2⟩:=r3 ρ w hO ty
  have h0:(f.ap (ρ.L n1)).c<=1:=by
   rcases hf (ρ.L n1) with h0 | ⟨h0,_⟩
   ·exact h0
   ·cases h0
  obtain⟨ba,hba⟩:∃ba,(Cell.sf n1 o1 SO true f hf).aq ρ=.slice ba 0 0:=Kc h0
  refine⟨r,w',?_,h2⟩
  simp only [O0] at h
  split at h
  ·rename_i q4
   have q4:=aaV q4
   obtain⟨c2,hx,lO⟩:=Co hO fq hk pS
   have Xw:k * si.bytes<=qU:=abL (adV _ (Nat.le_succ _)) q4
   have Jx:k<=qU:=by
    have:k * 1<=k * (si.bytes+1):=adV _ (by omega)
    omega
   simp only [qU] at Xw Jx
   have ha:=oC (P:=P) w t ty si.e i z hu hi hz ba _ k c2 (aA ρ news) (by rw [bY,g3,e1]) lO hk (by omega) (by rw [e2];omega)
   have hb:=oC (P:=P) w t ty si.e i z hu hi hz none _ k c2 (aA ρ news) (by rw [bY,g3,e1]) lO hk (by omega) (by rw [e2];omega)
   rw [hx] at h1 ⊢
   rw [hba,ha,<- hb]
   exact h1
  ·cases h
 ·exact JU hu hi hz e1 e2 fq Oh hk pS hG hC h
theorem Dq {es l h:Nat} (Jz:0 < es) {H H':Hp AV} {v:SV} {s:Cell} (hs:fh H (.v (.c s))) (hr:(KG H es l h s).val=some (v,H')):H'=H /\ fh H v /\ ∀(ρ:Nm) (w:World),eZ N ρ H w ->
 ∃a len cap,s.aq ρ=.slice a len cap /\ l<=h /\ h<=len /\ len<=cap /\ (∀k,wF s=some k->k=len) /\ v.aq ρ=sliced a l h cap es:=by
 unfold KG at hr
 split at hr
 ·split at hr
  ·rename_i q1 q2
   cases hr
   have q1:=(aC _ _).1 q1
   have q2:=adI q2
   subst q1
   have q3:l=0:=by omega
   subst q3
   refine⟨rfl,hs,fun ρ w _=>⟨none,0,0,rfl,by omega,by omega,by omega,fun k hk=>by simpa [wF] using hk.symm,rfl⟩⟩
  ·cases hr
 ·split at hr
  ·rename_i n o lz z f p _ _ q1 q2
   cases hr
   have q1:=(aC _ _).1 q1
   have q2:=adI q2
   subst q1
   have q3:l=0:=by omega
   subst q3
   have ha:∀a:Option Addr,a.map (fun x=>x.add 0)=a:=by intro a;cases a<;>simp [Addr.add]
   refine⟨rfl,hs,fun ρ w _=>?_⟩
   obtain⟨a,cap,hd⟩:∃a cap,(Cell.sf n o lz z f p).aq ρ=.slice a 0 cap:=by
    simp only [Cell.aq,bN]
    split<;>exact⟨_,_,rfl⟩
   refine⟨a,0,cap,hd,by omega,by omega,by omega,fun k hk=>by simpa [wF] using hk.symm,?_⟩
   simp only [SV.aq,V1.aq,hd,sliced,Nat.zero_mul,Nat.sub_zero,ha,ite_self]
  ·cases hr
 ·rename_i n o len lz
  split at hr
  ·rename_i cs q1 q2 q3
   have q2:=adI q2
   have q3:=adI q3
   obtain⟨lc,ty,g1,g2,_⟩:=dL q1
   subst g2
   have fin:H'=H->fh H v->(∀(ρ:Nm) (w:World),eZ N ρ H w->o+len<=(ρ.L n).c - 1->v.aq ρ=sliced (if len=0 /\ (ρ.L n).c=0 then none else some ⟨ρ n,(ρ.L n).o+o * lz,none⟩) l h (if len=0 /\ (ρ.L n).c=0 then 0 else(ρ.L n).c - 1 - o) lz) ->
    H'=H /\ fh H v /\ ∀(ρ:Nm) (w:World),eZ N ρ H w->∃a Jo cap,(Cell.vs n o len lz true).aq ρ=.slice a Jo cap /\ l<=h /\ h<=Jo /\ Jo<=cap /\ (∀k,wF (Cell.vs n o len lz true)=some k->k=Jo) /\ v.aq ρ=sliced a l h cap lz:=by
    intro f1 f2 f3
    refine⟨f1,f2,fun ρ w hO=>?_⟩
    have hf:=yf hO Jz q1
    refine⟨_,len,_,?_,q2,q3,?_,fun k hk=>by simpa [wF] using hk.symm,f3 ρ w hO hf⟩
    ·simp only [Cell.aq,bN]
     split
     ·rename_i h0;rw [h0.1]
     ·rfl
    ·split
     ·rename_i h0;omega
     ·omega
   have nm:∀c:Cell,c.name=some n->fh H (.v (.c c)):=fun c hc x hx m hm=>by
    simp [V1.cells] at hx
    subst hx
    rw [hc] at hm
    cases hm
    exact⟨_,g1⟩
   split at hr
   ·rename_i q4
    have q4:=(aC _ _).1 q4
    subst q4
    cases hr
    refine fin rfl (nm _ rfl) fun ρ w hO hf=>?_
    simp only [SV.aq,V1.aq,Cell.aq,bN,sliced,Nat.zero_mul,Nat.sub_zero]
    by_cases hc:(ρ.L n).c=0
    ·have hl:len=0:=by omega
     have hh:h=0:=by omega
     simp [hc,hl,hh]
    ·have z1:¬(h=0 /\ (ρ.L n).c=0):=fun h=>hc h.2
     have z2:¬(len=0 /\ (ρ.L n).c=0):=fun h=>hc h.2
     simp [if_neg z1,if_neg z2,Addr.add]
   ·rename_i q4
    have q4:=(bE _ _).1 q4
    split at hr
    ·rename_i q5
     have q5:l < h:=by
      have:=adI q5
      omega
     cases hr
     refine fin rfl (nm _ rfl) fun ρ w hO hf=>?_
     simp only [SV.aq,V1.aq,Cell.aq,bN,sliced]
     have z1:¬(h - l=0 /\ (ρ.L n).c=0):=fun h=>by omega
     have z2:¬(len=0 /\ (ρ.L n).c=0):=fun h=>by omega
     have z3:¬((ρ.L n).c - 1 - o=l):=by omega
     simp only [if_neg z1,if_neg z2,if_neg z3]
     have dA:l * lz≠0:=Nat.mul_ne_zero q4 (by omega)
     rw [show (o+l) * lz=o * lz+l * lz from aey _ _ _,show (ρ.L n).c - 1 - (o+l)=(ρ.L n).c - 1 - o - l by omega,<- aej]
     simp [Addr.add,dA]
    ·rename_i q5
     have q5:l=h:=by
      by_cases e:l < h
      ·exfalso
       have:=Nat.ble_eq_true_of_le (show l+1<=h by omega)
       rw [show Nat.blt l h=Nat.ble (l+1) h from rfl] at q5
       rw [this] at q5
       cases q5
      ·omega
     cases hr
     subst q5
     refine fin rfl (nm _ rfl) fun ρ w hO hf=>?_
     simp only [SV.aq,V1.aq,Cell.aq,sliced,MT.ap,bN]
     by_cases hc:(ρ.L n).c=0
     ·omega
     ·have z2:¬(len=0 /\ (ρ.L n).c=0):=fun h=>hc h.2
      simp only [if_neg hc,if_neg z2]
      by_cases e:(ρ.L n).c - 1 - o=l
      ·simp [e]
      ·have dA:l * lz≠0:=Nat.mul_ne_zero q4 (by omega)
       have hc3:¬((ρ.L n).c - (o+l)=0):=by omega
       rw [show (o+l) * lz=o * lz+l * lz from aey _ _ _,<- aej]
       simp [e,Addr.add,dA,hc3]
       omega
  ·cases hr
 ·cases hr
theorem Rz {es:Nat} (Jz:0 < es) {H H':Hp AV} {v:SV} {s:Cell} (hs:fh H (.v (.c s))) (hr:(NH H es s).val=some (v,H')):H'=H /\ fh H v /\ ∀(ρ:Nm) (w:World),eZ N ρ H w ->
 ∃a len cap,s.aq ρ=.slice a len cap /\ v.aq ρ=sliced a 0 0 0 es:=by
 unfold NH at hr
 split at hr
 ·cases hr
  exact⟨rfl,hs,fun ρ w _=>⟨none,0,0,rfl,rfl⟩⟩
 ·cases hr
  rename_i n o lz z f p
  refine⟨rfl,?_,fun ρ w _=>?_⟩
  rotate_left
  ·simp only [SV.aq,V1.aq,Cell.aq,sliced,MT.ap,bN]
   by_cases hc:(f.ap (ρ.L n)).c=0
   ·simp [hc]
   ·simp [hc]
  intro c hc m hm
  simp [V1.cells] at hc
  subst hc
  exact hs (.sf n o lz z f p) (by simp [V1.cells]) m hm
 ·rename_i n o len lz
  split at hr
  ·rename_i cs q1
   cases hr
   obtain⟨lc,ty,g1,g2,_⟩:=dL q1
   subst g2
   refine⟨rfl,?_,fun ρ w hO=>?_⟩
   ·intro c hc m hm
    simp [V1.cells] at hc
    subst hc
    simp only [Cell.name,aaC] at hm
    subst hm
    exact⟨_,g1⟩
   ·have hf:=yf hO Jz q1
    simp only [SV.aq,V1.aq,Cell.aq,bN,sliced,MT.ap]
    by_cases hc:(ρ.L n).c=0
    ·have:len=0:=by omega
     simp [hc,this]
    ·rw [if_neg (fun h=>hc h.2)]
     exact⟨_,_,_,rfl,by simp [hc]⟩
  ·cases hr
 ·cases hr
theorem lX {x:SV} {n:Nat} (h:FZ x=some n) (ρ:Nm):∃k,x.aq ρ=.int k (n:Int):=by
 unfold FZ at h
 split at h
 ·rename_i k m
  split at h
  ·rename_i h0
   have h0:=aaV h0
   cases h
   exact⟨k,by simp only [SV.aq,V1.aq,Cell.aq];rw [Int.toNat_of_nonneg h0]⟩
  ·cases h
 ·cases h
theorem agP {sl:Tr SI} (Ho:aib P sl) (hhv:N.hv=Ze sl N.G):Tp P N:=by
 intro o args H v H' h bM hC
 rw [hhv] at h
 unfold Ze at h
 split at h
 ·rename_i c
  split at h
  ·rename_i cH
   split at h
   ·rename_i s x t t' hty
    split at h
    ·rename_i htt
     have htt:=(aC _ _).1 htt
     subst htt
     unfold aeb at h
     split at h
     ·rename_i si hs
      obtain⟨hu,i,z,hi,hz,e1,e2,fq,B8,LO,Jr⟩:=jZ (Ho t si hs)
      have Oh:z.cells.size=si.size:=by
       have:=congrArg List.length (LO Nm.id)
       rw [bY] at this
       simp at this
       omega
      split at h
      ·rename_i he
       obtain⟨rfl,rfl,hs2⟩:=acB (N:=N) fq h
       refine⟨bM _ (abw ..),hC,fun ρ w hO=>?_⟩
       intro ev o ho hv
       obtain⟨a,n,cap,hsd,hle⟩:=hs2 ρ w hO
       obtain⟨b,JT,hxd⟩:=HS he ρ
       refine⟨.slice a n cap,w,.inl (YS ho cH hty hu hi (b:=b) (JT:=JT) hle (by rw [hv];simp [SV.aq,V1.aq,hsd,hxd]) (fun q _ w=>G8 q w)),ρ,by simp [SV.aq,V1.aq,hsd],hO,iZ.refl _ _ _ _⟩
      ·rename_i he
       split at h
       ·rename_i n2 o2 k es
        split at h
        ·rename_i news hn hg
         have hk:0 < k:=by
          rcases Nat.eq_zero_or_pos k with rfl | h0
          ·simp [AY] at he
          ·exact h0
         obtain⟨c1,c2,c3⟩:=acz hu hi hz e1 e2 fq Oh hk hn (adI hg) hC h
         refine⟨c1,c2,fun ρ w hO=>?_⟩
         intro ev o ho hv
         obtain⟨r,w',hr,ρ',h1,h2,h3⟩:=c3 ρ w hO o.type
         exact⟨r,w',.inl (uU ho cH hty (by rw [hv];simp [SV.aq,V1.aq]) hr),ρ',h1,h2,h3⟩
        ·cases h
       ·cases h
     ·cases h
    ·cases h
   ·cases h
  ·cases h
 ·rename_i t x lo hi mx
  unfold Qk at h
  split at h
  ·cases h
  ·rename_i si hs
   obtain⟨hu,i,z,Xy,hz,e1,e2,fq,B8,LO,Jr⟩:=jZ (Ho t si hs)
   split at h
   ·rename_i s l q1 q2 q3
    split at h
    ·rename_i ln hn Jw Xv
     obtain⟨rfl,k1,k2⟩:=Dq (N:=N) fq (bM _ (abw ..)) h
     refine⟨k1,hC,fun ρ w hO=>?_⟩
     intro ev o ho hv
     obtain⟨a,len,cap,d1,d2,d3,d4,d5,d6⟩:=k2 ρ w hO
     obtain⟨kk,hk⟩:=lX Jw ρ
     cases lo with
     | none=>cases q1
     | some lo =>
     cases hi with
     | some _=>cases q2
     | none =>
     cases mx with
     | some _=>cases q3
     | none =>
     simp [Op.operands,SV.aq,V1.aq,d1] at hv
     obtain⟨v1,v2⟩:=hv
     have hlen:=d5 _ Xv
     subst hlen
     refine⟨v.aq ρ,w,.inl ?_,ρ,rfl,hO,iZ.refl _ _ _ _⟩
     rw [d6,<- e1]
     refine iT ho hu Xy v1 ?_
     have v2:ev lo=.int kk ln:=by rw [v2];exact hk
     simp [Instr.sliceBounds,v2,run_sliceBound,d2]
    ·cases h
   ·rename_i s h' q1 q2 q3
    split at h
    ·rename_i hn Jw
     obtain⟨rfl,k1,k2⟩:=Dq (N:=N) fq (bM _ (abw ..)) h
     refine⟨k1,hC,fun ρ w hO=>?_⟩
     intro ev o ho hv
     obtain⟨a,len,cap,d1,d2,d3,d4,d5,d6⟩:=k2 ρ w hO
     obtain⟨kk,hk⟩:=lX Jw ρ
     cases lo with
     | some _=>cases q1
     | none =>
     cases hi with
     | none=>cases q2
     | some hi =>
     cases mx with
     | some _=>cases q3
     | none =>
     simp [Op.operands,SV.aq,V1.aq,d1] at hv
     obtain⟨v1,v2⟩:=hv
     refine⟨v.aq ρ,w,.inl ?_,ρ,rfl,hO,iZ.refl _ _ _ _⟩
     rw [d6,<- e1]
     refine iT ho hu Xy v1 ?_
     have v2:ev hi=.int kk hn:=by rw [v2];exact hk
     simp [Instr.sliceBounds,v2,run_sliceBound,(by omega:hn<=cap)]
    ·cases h
   ·rename_i s l h' q1 q2 q3
    split at h
    ·rename_i ln hn Jw Xv
     obtain⟨rfl,k1,k2⟩:=Dq (N:=N) fq (bM _ (abw ..)) h
     refine⟨k1,hC,fun ρ w hO=>?_⟩
     intro ev o ho hv
     obtain⟨a,len,cap,d1,d2,d3,d4,d5,d6⟩:=k2 ρ w hO
     obtain⟨kk,hk⟩:=lX Jw ρ
     obtain⟨kh,hkh⟩:=lX Xv ρ
     cases lo with
     | none=>cases q1
     | some lo =>
     cases hi with
     | none=>cases q2
     | some hi =>
     cases mx with
     | some _=>cases q3
     | none =>
     simp [Op.operands,SV.aq,V1.aq,d1] at hv
     obtain⟨v1,v2,v3⟩:=hv
     refine⟨v.aq ρ,w,.inl ?_,ρ,rfl,hO,iZ.refl _ _ _ _⟩
     rw [d6,<- e1]
     refine iT ho hu Xy v1 ?_
     have v2:ev lo=.int kk ln:=by rw [v2];exact hk
     have v3:ev hi=.int kh hn:=by rw [v3];exact hkh
     simp [Instr.sliceBounds,v2,v3,run_sliceBound,d2,(by omega:hn<=cap)]
    ·cases h
   ·rename_i s h' m' q1 q2 q3
    split at h
    ·rename_i Jw Xv
     obtain⟨rfl,k1,k2⟩:=Rz (N:=N) fq (bM _ (abw ..)) h
     refine⟨k1,hC,fun ρ w hO=>?_⟩
     intro ev o ho hv
     obtain⟨a,len,cap,d1,d6⟩:=k2 ρ w hO
     obtain⟨kk,hk⟩:=lX Jw ρ
     obtain⟨kh,hkh⟩:=lX Xv ρ
     cases lo with
     | some _=>cases q1
     | none =>
     cases hi with
     | none=>cases q2
     | some hi =>
     cases mx with
     | none=>cases q3
     | some mx =>
     simp [Op.operands,SV.aq,V1.aq,d1] at hv
     obtain⟨v1,v2,v3⟩:=hv
     refine⟨v.aq ρ,w,.inl ?_,ρ,rfl,hO,iZ.refl _ _ _ _⟩
     rw [d6,<- e1]
     refine iT ho hu Xy v1 ?_
     have v2:ev hi=.int kk 0:=by rw [v2];exact hk
     have v3:ev mx=.int kh 0:=by rw [v3];exact hkh
     simp [Instr.sliceBounds,v2,v3,run_sliceBound]
    ·cases h
   ·cases h
 ·cases h
