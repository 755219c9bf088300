import Derived.Test.YtadmfaohjnjajaaGreatDoorSxM
import Derived.Laws.AppendOwn
import Derived.Laws.MakeOwn
import Derived.Laws.Slices
set_option linter.unusedVariables false
set_option linter.unusedSimpArgs false
set_option maxHeartbeats 4000000
namespace Go.Sx
variable {AV:Type} {P:Program} {N:Env AV}
def Un (P:Program) (sl:Tr SI):Prop:=∀t si,sl.get t=some si->rI P t=some si
theorem qp:∀{l:List Cell} {n:Nat} {r:List Cell},jz l n=some r->r.length=n /\ ∀(j:Nat) c,r[j]?=some c->l[j]?=some c
 | _,0,r,h=>by simp only [jz,Option.some.injEq] at h;subst h;simp
 | [],n+1,r,h=>by simp [jz] at h
 | x::l,n+1,r,h=>by
   simp only [jz] at h
   split at h
   ·rename_i q hq
    cases h
    obtain⟨h1,h2⟩:=qp hq
    refine⟨by simp [h1],fun j c hc=>?_⟩
    cases j with
    | zero=>simpa using hc
    | succ j=>simp only [List.getElem?_cons_succ] at hc ⊢;exact h2 j c hc
   ·cases h
theorem tD:∀{l:List Cell} {off n:Nat} {r:List Cell},kJ l off n=some r->r.length=n /\ ∀(j:Nat) c,r[j]?=some c->l[off+j]?=some c
 | l,0,n,r,h=>by
   simp only [kJ] at h
   obtain⟨h1,h2⟩:=qp h
   exact⟨h1,fun j c hc=>by rw [Nat.zero_add];exact h2 j c hc⟩
 | [],k+1,n,r,h=>by simp [kJ] at h
 | x::l,k+1,n,r,h=>by
   simp only [kJ] at h
   obtain⟨h1,h2⟩:=tD h
   exact⟨h1,fun j c hc=>by rw [show k+1+j=(k+j)+1 by omega,List.getElem?_cons_succ];exact h2 j c hc⟩
theorem LV {l:List Cell} {off n:Nat} {r:List Cell} (h:kJ l off n=some r) {c:Cell} (hc:c∈r):c∈l:=by
 obtain⟨j,hj⟩:=List.getElem?_of_mem hc
 exact List.mem_of_getElem? ((tD h).2 j c hj)
def cI (H:Hp AV) (es:Nat):Cell->Option (List Cell)
 | .vs n o k es' true=>match Nat.beq es es',ab H n with
   | true,some (.vec l es2 _)=>match Nat.beq es es2 with
     | true=>kJ l (o * es) (k * es)
     | false=>none
   | _,_=>none
 | _=>none
def tZ:Cell->Bool
 | .snil=>true
 | .sx _ _=>true
 | .sf _ _ _ _ _ _=>true
 | .vs _ _ k _ true=>Nat.beq k 0
 | _=>false
def Uf (H:Hp AV) (es:Nat):Cell->T (SV×Hp AV)
 | .snil=>.leaf (.v (.c .snil),H)
 | .sx a cap=>.leaf (.v (.c (.sx a cap)),H)
 | .sf n o es z f h=>.leaf (.v (.c (.sf n o es z f h)),H)
 | .vs n o len es' true=>match cI H es (.vs n o len es' true) with
   | some _=>.leaf (.v (.c (.vs n o len es' true)),H)
   | none=>.fail "append"
 | _=>.fail "append"
def Fx (H:Hp AV) (si:SI) (n2 k:Nat) (news:List Cell):Cell->T (SV×Hp AV)
 | .snil=>match decide (k * (si.bytes+1)<=lim) with
   | true=>.leaf (.v (.c (.vs H.length 0 k si.size true)),H++[some (.vec news si.size si.e)])
   | false=>.fail "append"
 | .vs n1 o1 len es1 true=>match cI H si.size (.vs n1 o1 len es1 true),Nat.beq n1 n2,ab H n1,decide ((len+k) * (si.bytes+1)<=lim) with
   | some olds,false,some (.vec _ _ ty),true=>match Nat.beq ty si.e with
     | true=>.leaf (.v (.c (.vs H.length 0 (len+k) si.size true)),cU H (some n1)++[some (.vec (olds++news) si.size si.e)])
     | false=>.fail "append"
   | _,_,_,_=>.fail "append"
 | _=>.fail "append"
def Ud (H:Hp AV) (si:SI) (n2 k:Nat) (news:List Cell):Cell->T (SV×Hp AV)
 | .sf n1 o1 es1 false _ _=>Fx H si n2 k news (.vs n1 o1 0 es1 true)
 | .sf _ _ _ true _ _=>Fx H si n2 k news .snil
 | s=>Fx H si n2 k news s
def yS:SV->Option Nat
 | .v (.c (.il _ n))=>match decide (0<=n) with | true=>some n.toNat | false=>none
 | _=>none
abbrev KR (o l es:Nat):SfF:=.rest o l es
theorem KQ (o l es:Nat):∀q:Loc,((KR o l es).ap q).c<=1 \/ false=false /\ (KR o l es).ap q=⟨q.b,q.o+(o+l) * es,q.c - (o+l)⟩:=by
 intro q
 simp only [SfF.ap]
 split
 ·exact .inl (Nat.zero_le _)
 ·split
  ·exact .inl (Nat.le_refl _)
  ·exact .inr ⟨trivial,rfl⟩
abbrev LG (f:SfF):SfF:=.non f
theorem xh (f:SfF) (o es:Nat):∀q:Loc,((LG f).ap q).c<=1 \/ true=false /\ (LG f).ap q=⟨q.b,q.o+o * es,q.c - o⟩:=by
 intro q
 simp only [SfF.ap]
 split
 ·exact .inl (Nat.zero_le _)
 ·exact .inl (Nat.le_refl _)
abbrev RE (o es:Nat):SfF:=.non (.head o es)
def Co (H:Hp AV) (es l h:Nat):Cell->T (SV×Hp AV)
 | .snil=>match Nat.beq h 0,Nat.ble l h with
   | true,true=>.leaf (.v (.c .snil),H)
   | _,_=>.fail "slice"
 | .sf n o es' z f p=>match Nat.beq h 0,Nat.ble l h with
   | true,true=>.leaf (.v (.c (.sf n o es' z f p)),H)
   | _,_=>.fail "slice"
 | .vs n o len es' true=>match cI H es (.vs n o len es' true),Nat.ble l h,Nat.ble h len with
   | some _,true,true=>match Nat.beq l 0 with
     | true=>.leaf (.v (.c (.vs n o h es' true)),H)
     | false=>match Nat.blt l h with
       | true=>.leaf (.v (.c (.vs n (o+l) (h - l) es' true)),H)
       | false=>.leaf (.v (.c (.sf n (o+l) es' false (KR o l es') (KQ o l es'))),H)
   | _,_,_=>.fail "slice"
 | _=>.fail "slice"
def pO:Cell->Option Nat
 | .snil=>some 0
 | .sf _ _ _ _ _ _=>some 0
 | .vs _ _ len _ true=>some len
 | _=>none
def En (H:Hp AV) (es:Nat):Cell->T (SV×Hp AV)
 | .snil=>.leaf (.v (.c .snil),H)
 | .sf n o es' _ f _=>.leaf (.v (.c (.sf n o es' true (LG f) (xh f o es'))),H)
 | .vs n o len es' true=>match cI H es (.vs n o len es' true) with
   | some _=>.leaf (.v (.c (.sf n o es' true (RE o es') (xh _ o es'))),H)
   | none=>.fail "slice"
 | _=>.fail "slice"
def GU (sl:Tr SI) (t:TypeId) (lo hi mx:Bool) (args:List SV) (H:Hp AV):T (SV×Hp AV) :=
 match sl.get t with
 | none=>.fail "slice"
 | some si=>match lo,hi,mx,args with
   | true,false,false,[.v (.c s),l]=>match yS l,pO s with
     | some l,some h=>Co H si.size l h s
     | _,_=>.fail "slice"
   | false,true,false,[.v (.c s),h]=>match yS h with
     | some h=>Co H si.size 0 h s
     | none=>.fail "slice"
   | true,true,false,[.v (.c s),l,h]=>match yS l,yS h with
     | some l,some h=>Co H si.size l h s
     | _,_=>.fail "slice"
   | false,true,true,[.v (.c s),h,m]=>match yS h,yS m with
     | some 0,some 0=>En H si.size s
     | _,_=>.fail "slice"
   | _,_,_,_=>.fail "slice"
def RC (sl:Tr SI) (G:Nat) (t:TypeId) (s x:Cell) (H:Hp AV):T (SV×Hp AV) :=
 match sl.get t with
 | some si=>match tZ x with
   | true=>Uf H si.size s
   | false=>match x with
     | .vs n2 o2 k es true=>match cI H si.size (.vs n2 o2 k es true),Nat.ble G H.length with
       | some news,true=>Ud H si n2 k news s
       | _,_=>.fail "append"
     | _=>.fail "append"
 | none=>.fail "append"
def hvF (sl:Tr SI) (G:Nat) (o:Op) (args:List SV) (H:Hp AV):T (SV×Hp AV) :=
 match o with
 | .call c=>match c.callee with
   | .builtin .append=>match args,c.argTypes.toList with
     | [.v (.c s),.v (.c x)],[t,t']=>match Nat.beq t t' with
       | true=>RC sl G t s x H
       | false=>.fail "append"
     | _,_=>.fail "append"
   | _=>.fail "heavy"
 | .slice t _ lo hi mx=>GU sl t lo.isSome hi.isSome mx.isSome args H
 | _=>.fail "heavy"
theorem wq {H:Hp AV} {d:Option Nat} {ck:Chunk AV} (hd:∀n,d=some n->∃c,ab H n=some c) (n:Nat):ab (cU H d++[some ck]) n=if n=H.length then some ck else if d=some n then some .dead else ab H n:=by
 rw [Dc,xL]
 by_cases e:n=H.length
 ·rw [if_pos e,if_pos e]
 ·rw [if_neg e,if_neg e]
  cases d with
  | none=>simp [cU]
  | some m =>
    obtain⟨c,hc⟩:=hd m rfl
    by_cases e':m=n
    ·subst e';simp [cU,bn _ (aX hc)]
    ·have:¬(some m=some n):=fun h=>e' (Option.some.inj h)
     rw [if_neg this];simp only [cU,aK _ e']
theorem vF {H:Hp AV} (hC:bU N H) {d:Option Nat} {ck:Chunk AV} (hd:∀n,d=some n->∃c,ab H n=some c) (hck:ClL H ck.cellsOf):bU N (cU H d++[some ck]):=by
 have hne:∀n c,ab H n=some c->n≠H.length:=fun n c h e=>by have:=aX h;omega
 have pers:∀n c,ab H n=some c->∃c',ab (cU H d++[some ck]) n=some c':=fun n c h=>by
  rw [wq hd,if_neg (hne n c h)]
  by_cases e:d=some n
  ·exact⟨_,if_pos e⟩
  ·exact⟨c,by rw [if_neg e];exact h⟩
 refine⟨fun n x h=>?_,trivial⟩
 rw [wq hd] at h
 by_cases e:n=H.length
 ·rw [if_pos e] at h;cases h;exact hck.mono pers
 ·rw [if_neg e] at h
  by_cases e':d=some n
  ·rw [if_pos e'] at h;cases h;intro c hc;cases hc
  ·rw [if_neg e'] at h;exact(hC.1 n x h).mono pers
theorem cl_new {H:Hp AV} {d:Option Nat} {ck:Chunk AV} (hd:∀n,d=some n->∃c,ab H n=some c) (o len es:Nat) (kn:Bool):ClV (cU H d++[some ck]) (.v (.c (.vs H.length o len es kn))):=by
 intro c hc n hn
 simp [V1.cells] at hc
 subst hc
 simp only [Cell.name,Option.some.injEq] at hn
 subst hn
 exact⟨ck,by rw [wq hd,if_pos rfl]⟩
theorem bT {H:Hp AV} {es n o k es':Nat} {cs:List Cell} (h:cI H es (.vs n o k es' true)=some cs) :
 ∃l ty,ab H n=some (.vec l es ty) /\ es'=es /\ cs.length=k * es /\ (∀c∈cs,c∈l) /\ ∀(j:Nat) c,cs[j]?=some c->l[o * es+j]?=some c:=by
 simp only [cI] at h
 split at h
 ·rename_i l es2 ty h1 h2
  split at h
  ·rename_i h3
   have h1:=(ai _ _).1 h1
   have h3:=(ai _ _).1 h3
   subst h1 h3
   obtain⟨q1,q2⟩:=tD h
   exact⟨l,ty,h2,rfl,q1,fun c hc=>LV h hc,q2⟩
  ·cases h
 ·cases h
theorem vd {ρ:Nm} {H:Hp AV} {w:World} (hO:Own N ρ H w) {es n o k es':Nat} {cs:List Cell} (hes:0 < es) (hk:0 < k) (h:cI H es (.vs n o k es' true)=some cs) :
 ∃c,(Cell.vs n o k es' true).den ρ=.slice (some ⟨ρ n,(ρ.L n).o+o * es,none⟩) k c /\ ∀(j:Nat) v,(ah ρ cs)[j]?=some v->w.cell? ((⟨ρ n,(ρ.L n).o+o * es,none⟩:Addr).add j)=some v:=by
 obtain⟨l,ty,h1,rfl,h3,_,h4⟩:=bT h
 refine⟨(ρ.L n).c - 1 - o,?_,fun j v hv=>?_⟩
 ·simp only [Cell.den,aW]
  rw [if_neg (by omega)]
 ·obtain⟨c,hc,rfl⟩:=sg ρ cs j v hv
  have:=DV hO h1 (o * es'+j) c (h4 j c hc)
  have e:(⟨ρ n,(ρ.L n).o+o * es',none⟩:Addr).add j=⟨ρ n,(ρ.L n).o+(o * es'+j),none⟩:=by
   unfold Addr.add
   by_cases hj:j=0<;>simp [hj,Nat.add_assoc]
  rw [e];exact this
theorem lH (w:World) (t ty e:TypeId) (i:TypeInfo) (ht:P.underlying t=some (.slice e)) (hi:P.info? e=some i)
 (g o0 sLen sCap:Nat) (cur:Array Value) (te:TypeId) (hg:w.heap[g]?=some (.cells cur te (0,0)))
 (a:Addr) (m c:Nat) (news:List Value) (hl:news.length=m * i.size) (hnews:∀j u,news[j]?=some u->w.cell? (a.add j)=some u) (h1:∀u∈news,u.oneCell'=true)
 (hroom:sLen+m<=sCap) (hfit:o0+sLen * i.size+news.length<=cur.size) :
 (Builtin.append_ #[t,t] ty #[.slice (some ⟨g,o0,none⟩) sLen sCap,.slice (some a) m c]).run P w =
   .ok (.slice (some ⟨g,o0,none⟩) (sLen+m) sCap) (w.setRow g (cur.toList.take (o0+sLen * i.size)++news++cur.toList.drop (o0+sLen * i.size+news.length)).toArray):=by
 have hf:=run_firstCells_some (P:=P) w i.size m a m c news hl hnews
 have hst:=run_storeCells_at P g (o0+sLen * i.size) te news 0 cur w hg (by simpa using hfit) h1
 simp only [Nat.add_zero] at hst
 have e0:(⟨g,o0,none⟩:Addr).add (sLen * i.size)=⟨g,o0+sLen * i.size,none⟩:=by
  unfold Addr.add
  by_cases hj:sLen * i.size=0<;>simp [hj]
 simp [Builtin.append_,run_underlying ht,sizeOf,typeInfo,hi,Builtin.lenOf,hroom,hf,e0,hst]
theorem Bo {ρ:Nm} {H:Hp AV} {w w0:World} (hO:Own N ρ H w) (hC:bU N H) (hG:N.G<=H.length) {d:Option Nat} (hd:∀n,d=some n->∃c,ab H n=some c) {l:List Cell} {es:Nat} {e:TypeId} (hl:ClL H l) {row:Array Value} {cap:Nat}
 (h0:w0.heap=w.heap) (hos:w0.os=w.os) (htp:w0.tape=w.tape) (hout:w0.output=w.output) (hsize:row.size=cap * es) (hle:l.length<=cap * es) (hrow:∀(j:Nat) v,(ah ρ l)[j]?=some v->row[j]?=some v) :
 Own N (ρ.set H.length ⟨w.heap.size,0,cap+1⟩ fun k=>k=w.heap.size) (cU H d++[some (.vec l es e)]) (w0.alloc (.cells row e)) /\
 Evo N H.length ρ H w (ρ.set H.length ⟨w.heap.size,0,cap+1⟩ fun k=>k=w.heap.size) (cU H d++[some (.vec l es e)]) (w0.alloc (.cells row e)):=by
 have hden:ah (ρ.set H.length ⟨w.heap.size,0,cap+1⟩ fun k=>k=w.heap.size) l=ah ρ l:=denL_congr hl fun n c h=>(ρ.set_ne _ _ (by have:=aX h;omega)).1
 have:=wX (w':=w0.alloc (.cells row e)) hO hC hG (d:=d) (ck:=.vec l es e) hd hl (lc:=⟨w.heap.size,0,cap+1⟩) (S:=fun k=>k=w.heap.size)
  (fun k hk _=>by show (w0.heap.push _)[k]?=_;rw [Array.getElem?_push,h0,if_neg (by omega)]) hos htp hout (by show w.heap.size<=(w0.heap.push _).size;rw [h0];simp)
  (by
    show iC _ _ _ _ _ _
    rw [(fz _ _ _ _).1,(fz _ _ _ _).2,hden]
    refine .inr ⟨by simp,fun k=>Iff.rfl,row.toList,?_,?_,?_,?_⟩
    ·show (w0.heap.push _)[w.heap.size]?=_
     rw [h0]
     simp
    ·simp [hsize]
    ·rw [bc];simpa using hle
    ·intro j v hv
     have:=hrow j v hv
     simpa using this)
  (fun k hk=>by
    have hk:(ρ.set H.length ⟨w.heap.size,0,cap+1⟩ fun k=>k=w.heap.size).S H.length k:=hk
    rw [(fz _ _ _ _).2] at hk
    exact .inl (by omega))
 exact⟨this.1,this.2.1⟩
theorem oE {ev:Operand->Value} {o:Oper} {c:Call} {w w':World} {v:Value} (ho:o.op=.call c) (hb:c.callee=.builtin .append) {t:TypeId} (ht:c.argTypes.toList=[t,t]) {s x:Value} (hv:(Op.call c).operands.toList.map ev=[s,x])
 (hr:(Builtin.append_ #[t,t] o.type #[s,x]).run P w=.ok v w'):(execOp ev o).run P w=.ok (.value v) w':=by
 obtain⟨dst,op,ty,pos,after,guard⟩:=o
 simp only at ho hr
 subst ho
 obtain⟨cal,args,tys⟩:=c
 simp only at hb ht
 subst hb
 have ht:tys=#[t,t]:=by
  have:=congrArg List.toArray ht
  simpa using this
 subst ht
 have ha:args.map ev=#[s,x]:=by
  have h:args.toList.map ev=[s,x]:=by simpa [Op.operands,Call.operands] using hv
  rw [<- Array.toArray_toList (xs:=args),List.map_toArray,h]
 simp [execOp,resolve,invoke,builtin,ha,hr]
theorem NH {ev:Operand->Value} {o:Oper} {c:Call} {w:World} (ho:o.op=.call c) (hb:c.callee=.builtin .append) {t e:TypeId} {i:TypeInfo} (ht:c.argTypes.toList=[t,t]) (hu:P.underlying t=some (.slice e)) (hi:P.info? e=some i) {a b:Option Addr} {n cap cap2:Nat} (hle:n<=cap)
 (hv:(Op.call c).operands.toList.map ev=[.slice a n cap,.slice b 0 cap2]) (hb2:∀q,b=some q->∀w:World,(loadCells q 0).run P w=.ok #[] w):(execOp ev o).run P w=.ok (.value (.slice a n cap)) w:=by
 refine oE ho hb ht hv ?_
 have hf:(Builtin.firstCells i.size 0 (.slice b 0 cap2)).run P w=.ok #[] w:=by
  cases b with
  | none=>simp [Builtin.firstCells]
  | some q=>simp only [Builtin.firstCells,Nat.zero_mul];exact hb2 q rfl w
 cases a with
 | none=>simp [Builtin.append_,run_underlying hu,sizeOf,typeInfo,hi,Builtin.lenOf,hle,hf]
 | some q=>simp [Builtin.append_,run_underlying hu,sizeOf,typeInfo,hi,Builtin.lenOf,hle,hf,storeCells]
theorem zF (q:Addr) (w:World):(loadCells q 0).run P w=.ok #[] w:=by
 have:=run_loadCells_list (P:=P) w q [] (fun j v h=>by simp at h)
 simpa using this
theorem Ah {x:Cell} (h:tZ x=true) (ρ:Nm):∃b cap,x.den ρ=.slice b 0 cap:=by
 cases x<;>simp only [tZ] at h<;>try cases h
 ·exact⟨none,0,rfl⟩
 ·exact⟨_,_,rfl⟩
 ·rename_i n o k es kn
  cases kn with
  | false=>cases h
  | true =>
    have h:=(ai _ _).1 h
    subst h
    by_cases e:(ρ.L n).c=0
    ·exact⟨none,0,by simp [Cell.den,aW,e]⟩
    ·exact⟨some ⟨(ρ.L n).b,(ρ.L n).o+o * es,none⟩,(ρ.L n).c - 1 - o,by simp [Cell.den,aW,e]⟩
 ·simp only [Cell.den,aW]
  split<;>exact⟨_,_,rfl⟩
theorem xw:∀{l:List Cell} {n:Nat} {r:List Cell},jz l n=some r->n<=l.length
 | _,0,_,_=>Nat.zero_le _
 | [],n+1,r,h=>by simp [jz] at h
 | x::l,n+1,r,h=>by
   simp only [jz] at h
   split at h
   ·rename_i q hq
    have:=xw hq
    simp;omega
   ·cases h
theorem GI:∀{l:List Cell} {off n:Nat} {r:List Cell},kJ l off n=some r->off+n<=l.length
 | l,0,n,r,h=>by
   simp only [kJ] at h
   have:=xw h
   omega
 | [],k+1,n,r,h=>by simp [kJ] at h
 | x::l,k+1,n,r,h=>by
   simp only [kJ] at h
   have:=GI h
   simp;omega
theorem qO {ρ:Nm} {H:Hp AV} {w:World} (hO:Own N ρ H w) {es n o k es':Nat} {cs:List Cell} (hes:0 < es) (h:cI H es (.vs n o k es' true)=some cs):o+k<=(ρ.L n).c - 1:=by
 obtain⟨l,ty,h1,rfl,_⟩:=bT h
 have hle:o * es'+k * es'<=l.length:=by
  simp only [cI,Nat.beq_refl,h1] at h
  exact GI h
 rw [<- Nat.add_mul] at hle
 rcases hO.q n _ h1 with⟨_,hnil,_⟩ | ⟨_,_,row,_,_,hc,_⟩
 ·have:l.length=0:=by rw [<- bc ρ l,hnil];rfl
  have h0:(o+k) * es'=0:=by omega
  rcases Nat.mul_eq_zero.1 h0 with h0 | h0<;>omega
 ·rw [bc] at hc
  exact Nat.le_of_mul_le_mul_right (Nat.le_trans hle hc) hes
theorem Qv {es:Nat} (hes:0 < es) {H H':Hp AV} {v:SV} {s:Cell} (h:(Uf H es s).val=some (v,H')):v=.v (.c s) /\ H'=H /\ ∀(ρ:Nm) (w:World),Own N ρ H w->∃a n cap,s.den ρ=.slice a n cap /\ n<=cap:=by
 unfold Uf at h
 split at h
 ·simp only [T.val,Option.some.injEq,Prod.mk.injEq] at h
  exact⟨h.1.symm,h.2.symm,fun ρ w _=>⟨none,0,0,rfl,Nat.le_refl _⟩⟩
 ·simp only [T.val,Option.some.injEq,Prod.mk.injEq] at h
  exact⟨h.1.symm,h.2.symm,fun ρ w _=>⟨_,0,_,rfl,Nat.zero_le _⟩⟩
 ·simp only [T.val,Option.some.injEq,Prod.mk.injEq] at h
  refine⟨h.1.symm,h.2.symm,fun ρ w _=>?_⟩
  simp only [Cell.den,aW]
  split<;>exact⟨_,0,_,rfl,Nat.zero_le _⟩
 ·rename_i n o len es'
  split at h
  ·rename_i cs hcs
   simp only [T.val,Option.some.injEq,Prod.mk.injEq] at h
   refine⟨h.1.symm,h.2.symm,fun ρ w hO=>?_⟩
   have hf:=qO hO hes hcs
   simp only [Cell.den,aW]
   by_cases e:len=0 /\ (ρ.L n).c=0
   ·rw [if_pos e];exact⟨_,_,_,rfl,Nat.le_refl _⟩
   ·rw [if_neg e];exact⟨_,_,_,rfl,by omega⟩
  ·simp [T.val] at h
 ·simp [T.val] at h
theorem rm {row news:List Value} {p:Nat} (hp:p+news.length<=row.length) (j:Nat):(row.take p++news++row.drop (p+news.length))[j]?=if j < p then row[j]? else if j < p+news.length then news[j - p]? else row[j]?:=by
 have hl:(row.take p).length=p:=by simp;omega
 by_cases h1:j < p
 ·rw [if_pos h1,List.append_assoc,List.getElem?_append_left (by omega),List.getElem?_take,if_pos h1]
 ·rw [if_neg h1]
  by_cases h2:j < p+news.length
  ·rw [if_pos h2,List.append_assoc,List.getElem?_append_right (by omega),hl,List.getElem?_append_left (by omega)]
  ·rw [if_neg h2,List.getElem?_append_right (by simp;omega),List.getElem?_drop]
   congr 1
   simp
   omega
theorem BQ {si:SI} {i:TypeInfo} {z:Value} {t:TypeId} (hu:P.underlying t=some (.slice si.e)) (hi:P.info? si.e=some i) (hz:i.zero=some z) (e1:i.size=si.size) (e2:i.bytes=si.bytes) (hpos:0 < si.size) (hzs:z.cells.size=si.size)
 {H H':Hp AV} {v:SV} {s:Cell} {n2 o2 k es:Nat} {news:List Cell} (hk:0 < k) (hnews:cI H si.size (.vs n2 o2 k es true)=some news) (hG:N.G<=H.length) (hC:bU N H)
 (h:(Fx H si n2 k news s).val=some (v,H')):ClV H' v /\ bU N H' /\ ∀(ρ:Nm) (w:World),Own N ρ H w->∀ty,∃r w',(Builtin.append_ #[t,t] ty #[s.den ρ,(Cell.vs n2 o2 k es true).den ρ]).run P w=.ok r w' /\
   ∃ρ',r=v.den ρ' /\ Own N ρ' H' w' /\ Evo N H.length ρ H w ρ' H' w':=by
 obtain⟨l2,ty2,g1,g2,g3,g4,_⟩:=bT hnews
 have hcln:ClL H news:=fun c hc=>hC.1 n2 _ g1 c (g4 c hc)
 have hgrown:∀(w:World) (need old:Nat),(Builtin.zeroCells z.cells (grownCap w need old si.e - need)).size=(grownCap w need old si.e - need) * si.size:=fun w need old=>by rw [size_zeroCells,hzs]
 unfold Fx at h
 split at h
 ·-- to nothing
  split at h
  ·rename_i hb
   simp only [T.val,Option.some.injEq,Prod.mk.injEq] at h
   obtain⟨rfl,rfl⟩:=h
   have hb:=of_decide_eq_true hb
   have hd:∀n,(none:Option Nat)=some n->∃c,ab H n=some c:=fun n h=>by cases h
   refine⟨cl_new (d:=none) hd 0 _ _ _,vF (d:=none) (ck:=.vec news si.size si.e) hC hd hcln,fun ρ w hO ty=>?_⟩
   obtain⟨c2,hx,hcells⟩:=vd hO hpos hk hnews
   have hkb:k * si.bytes<=lim:=Nat.le_trans (Nat.mul_le_mul_left _ (Nat.le_succ _)) hb
   have hkn:k<=lim:=by
    have:k * 1<=k * (si.bytes+1):=Nat.mul_le_mul_left _ (by omega)
    omega
   simp only [lim] at hkb hkn
   have hr:=run_append_nil (P:=P) w t ty si.e i z hu hi hz _ k c2 (ah ρ news) (by rw [bc,g3,e1]) hcells hk (by omega) (by rw [e2];omega)
   obtain⟨o1,o2⟩:=Bo (w0:=w.drew) (d:=none) (l:=news) (es:=si.size) (e:=si.e) (row:=(ah ρ news).toArray++Builtin.zeroCells z.cells (grownCap w k 0 si.e - k)) (cap:=grownCap w k 0 si.e) hO hC hG hd hcln rfl rfl rfl rfl
    (by
      have:=grownCap_ge w k 0 si.e
      rw [Array.size_append,hgrown]
      simp only [List.size_toArray,bc,g3]
      rw [<- Nat.add_mul]
      congr 1
      omega)
    (by
      have:=grownCap_ge w k 0 si.e
      rw [g3];exact Nat.mul_le_mul_right _ this)
    (fun j v hv=>by
      have hj:=(List.getElem?_eq_some_iff.1 hv).1
      rw [Array.getElem?_append_left (by simpa using hj)]
      simpa using hv)
   refine⟨_,_,(by rw [hx];exact hr),_,?_,o1,o2⟩
   simp only [SV.den,V1.den,Cell.den,aW,(fz _ _ _ _).1]
   rw [if_neg (by omega)]
   simp
  ·simp [T.val] at h
 ·-- to a slice
  rename_i n1 o1 len es1
  split at h
  ·rename_i olds l1 es0 ty1 q1 q2 q3 q4
   split at h
   ·rename_i q5
    simp only [T.val,Option.some.injEq,Prod.mk.injEq] at h
    obtain⟨rfl,rfl⟩:=h
    have q5:=(ai _ _).1 q5
    subst q5
    have q4:=of_decide_eq_true q4
    have hne:=(aR n1 n2).1 q2
    obtain⟨l1',ty1',r1,r2,r3,r4,r5⟩:=bT q1
    rw [q3] at r1
    simp only [Option.some.injEq,Chunk.vec.injEq] at r1
    obtain⟨m1,m2,m3⟩:=r1
    subst m1 m2 m3
    have hclo:ClL H olds:=fun c hc=>hC.1 n1 _ q3 c (r4 c hc)
    have hcl:ClL H (olds++news):=fun c hc=>(List.mem_append.1 hc).elim (hclo c) (hcln c)
    have hd:∀n,(some n1:Option Nat)=some n->∃c,ab H n=some c:=fun n h=>by cases h;exact⟨_,q3⟩
    refine⟨cl_new hd 0 _ _ _,vF (ck:=.vec (olds++news) si.size si.e) hC hd hcl,fun ρ w hO ty=>?_⟩
    obtain⟨c2,hx,hcells⟩:=vd hO hpos hk hnews
    have hkb:(len+k) * si.bytes<=lim:=Nat.le_trans (Nat.mul_le_mul_left _ (Nat.le_succ _)) q4
    have hkn:len+k<=lim:=by
     have:(len+k) * 1<=(len+k) * (si.bytes+1):=Nat.mul_le_mul_left _ (by omega)
     omega
    simp only [lim] at hkb hkn
    have hdl:(ah ρ (olds++news))=ah ρ olds++ah ρ news:=by simp [ah]
    have hfit:=qO hO hpos q1
    have hlen:(olds++news).length=(len+k) * si.size:=by rw [List.length_append,r3,g3,Nat.add_mul]
    have grow:∀(old:Nat) (r:Value) (w':World),r=.slice (some ⟨w.heap.size,0,none⟩) (len+k) (grownCap w (len+k) old si.e) ->
     w'=w.drew.alloc (.cells ((ah ρ olds).toArray++(ah ρ news).toArray++Builtin.zeroCells z.cells (grownCap w (len+k) old si.e - (len+k))) si.e) ->
     ∃ρ',r=(SV.v (.c (.vs H.length 0 (len+k) si.size true))).den ρ' /\ Own N ρ' (cU H (some n1)++[some (.vec (olds++news) si.size si.e)]) w' /\ Evo N H.length ρ H w ρ' (cU H (some n1)++[some (.vec (olds++news) si.size si.e)]) w':=by
     rintro old r w' rfl rfl
     obtain⟨p1,p2⟩:=Bo (w0:=w.drew) (d:=some n1) (l:=olds++news) (es:=si.size) (e:=si.e) (row:=(ah ρ olds).toArray++(ah ρ news).toArray++Builtin.zeroCells z.cells (grownCap w (len+k) old si.e - (len+k))) (cap:=grownCap w (len+k) old si.e) hO hC hG hd hcl rfl rfl rfl rfl
      (by
        have:=grownCap_ge w (len+k) old si.e
        rw [Array.size_append,hgrown,Array.size_append]
        simp only [List.size_toArray,bc,g3,r3]
        rw [<- Nat.add_mul,<- Nat.add_mul]
        congr 1
        omega)
      (by
        have:=grownCap_ge w (len+k) old si.e
        rw [hlen];exact Nat.mul_le_mul_right _ this)
      (fun j v hv=>by
        rw [hdl] at hv
        have hj:=(List.getElem?_eq_some_iff.1 hv).1
        rw [Array.getElem?_append_left (by simpa using hj)]
        simpa using hv)
     refine⟨_,?_,p1,p2⟩
     simp only [SV.den,V1.den,Cell.den,aW,(fz _ _ _ _).1]
     rw [if_neg (by omega)]
     simp
    by_cases hc0:(ρ.L n1).c=0
    ·-- it is nil
     have hl0:len=0:=by omega
     subst hl0
     simp only [Nat.zero_add] at hkb
     have ho0:olds=[]:=by
      have:olds.length=0:=by rw [r3];simp
      exact List.length_eq_zero_iff.1 this
     have hs:(Cell.vs n1 o1 0 es1 true).den ρ=.slice none 0 0:=by simp [Cell.den,aW,hc0]
     have hr:=run_append_nil (P:=P) w t ty si.e i z hu hi hz _ k c2 (ah ρ news) (by rw [bc,g3,e1]) hcells hk (by omega) (by rw [e2];omega)
     refine⟨_,_,(by rw [hs,hx];exact hr),grow 0 _ _ (by simp) ?_⟩
     subst ho0
     simp [ah]
    ·have hs:(Cell.vs n1 o1 len es1 true).den ρ=.slice (some ⟨ρ n1,(ρ.L n1).o+o1 * si.size,none⟩) len ((ρ.L n1).c - 1 - o1):=by
      simp only [Cell.den,aW]
      rw [if_neg (fun h=>hc0 h.2),r2]
     rcases hO.q n1 _ q3 with⟨h0,hnl,_⟩ | ⟨hcp,hS,row,hrow,hrl,hll,hat⟩
     ·-- it has no room at all
      have hl1:l1=[]:=by simpa [ah] using hnl
      have hl0:len=0:=by omega
      have ho0:olds=[]:=by
       have:olds.length=0:=by rw [r3,hl0];simp
       exact List.length_eq_zero_iff.1 this
      subst hl0 ho0
      have hr:=run_append_grow (P:=P) w t ty si.e i z hu hi hz ⟨ρ n1,(ρ.L n1).o+o1 * si.size,none⟩ 0 ((ρ.L n1).c - 1 - o1) [] (by simp) (fun j v h=>by simp at h) _ k c2 (ah ρ news) (by rw [bc,g3,e1]) hcells (by omega) (by omega) (growslice_fits (by omega) (by rw [e2];omega))
      exact⟨_,_,(by rw [hs,hx];exact hr),grow _ _ _ rfl (by simp [ah])⟩
     by_cases hroom:len+k<=(ρ.L n1).c - 1 - o1
     ·-- there is room
      have hmul:o1 * si.size+len * si.size+k * si.size<=((ρ.L n1).c - 1) * si.size:=by
       rw [<- Nat.add_mul,<- Nat.add_mul]
       exact Nat.mul_le_mul_right _ (by omega)
      have hnl:(ah ρ news).length=k * si.size:=by rw [bc,g3]
      have hp:(ρ.L n1).o+o1 * si.size+len * si.size+(ah ρ news).length<=row.length:=by rw [hnl];omega
      have hr:=lH (P:=P) w t ty si.e i hu hi (ρ n1) ((ρ.L n1).o+o1 * si.size) len ((ρ.L n1).c - 1 - o1) row.toArray si.e hrow _ k c2 (ah ρ news) (by rw [hnl,e1]) hcells (fun u hu=>by
       simp only [ah,List.mem_map] at hu
       obtain⟨c,_,rfl⟩:=hu
       exact sd ρ c) hroom (by rw [e1];simpa using hp)
      rw [e1] at hr
      simp only at hr
      have hden:ah (ρ.set H.length ⟨ρ n1,(ρ.L n1).o+o1 * si.size,(ρ.L n1).c - o1⟩ fun k=>k=ρ n1) (olds++news)=ah ρ (olds++news):=denL_congr hcl fun n c h=>(ρ.set_ne _ _ (by have:=aX h;omega)).1
      have hblk:=setRow_heap w (ρ n1) _ (List.toArray (row.take ((ρ.L n1).o+o1 * si.size+len * si.size)++ah ρ news++row.drop ((ρ.L n1).o+o1 * si.size+len * si.size+(ah ρ news).length))) si.e (0,0) hrow
      obtain⟨p1,p2,_⟩:=wX (w':=w.setRow (ρ n1) (row.take ((ρ.L n1).o+o1 * si.size+len * si.size)++ah ρ news++row.drop ((ρ.L n1).o+o1 * si.size+len * si.size+(ah ρ news).length)).toArray) hO hC hG (d:=some n1) (ck:=.vec (olds++news) si.size si.e) hd hcl (lc:=⟨ρ n1,(ρ.L n1).o+o1 * si.size,(ρ.L n1).c - o1⟩) (S:=fun k=>k=ρ n1)
       (fun k hk hno=>setRow_other w (ρ n1) k _ (fun e=>hno n1 _ rfl q3 ((hS k).2 e))) rfl rfl rfl (by simp [World.setRow])
       (by
         show iC _ _ _ _ _ _
         rw [(fz _ _ _ _).1,(fz _ _ _ _).2,hden]
         refine .inr ⟨by show 0 < (ρ.L n1).c - o1;omega,fun k=>Iff.rfl,_,hblk,?_,?_,?_⟩
         ·show (ρ.L n1).o+o1 * si.size+((ρ.L n1).c - o1 - 1) * si.size<=_
          have e3:o1 * si.size+((ρ.L n1).c - o1 - 1) * si.size=((ρ.L n1).c - 1) * si.size:=by rw [<- Nat.add_mul];congr 1;omega
          simp only [List.length_append,List.length_take,List.length_drop]
          omega
         ·show (ah ρ (olds++news)).length<=((ρ.L n1).c - o1 - 1) * si.size
          rw [bc,hlen]
          exact Nat.mul_le_mul_right _ (by omega)
         ·intro j v hv
          show _=some v
          rw [rm hp]
          rw [hdl] at hv
          have hol:(ah ρ olds).length=len * si.size:=by rw [bc,r3]
          by_cases hj:j < len * si.size
          ·rw [if_pos (by show (ρ.L n1).o+o1 * si.size+j < _;omega)]
           rw [List.getElem?_append_left (by omega)] at hv
           obtain⟨cc,hcc,rfl⟩:=sg ρ olds j v hv
           have:=hat (o1 * si.size+j) (cc.den ρ) (by simp [ah,r5 j cc hcc])
           rw [<- Nat.add_assoc] at this
           exact this
          ·rw [if_neg (by show ¬((ρ.L n1).o+o1 * si.size+j < _);omega)]
           rw [List.getElem?_append_right (by omega)] at hv
           have hj2:=(List.getElem?_eq_some_iff.1 hv).1
           rw [if_pos (by show (ρ.L n1).o+o1 * si.size+j < _;omega)]
           rw [<- hv]
           congr 1
           show (ρ.L n1).o+o1 * si.size+j - _=_
           omega)
       (fun k hk=>by
         have hk:(ρ.set H.length ⟨ρ n1,(ρ.L n1).o+o1 * si.size,(ρ.L n1).c - o1⟩ fun k=>k=ρ n1).S H.length k:=hk
         rw [(fz _ _ _ _).2] at hk
         exact .inr ⟨n1,_,rfl,q3,(hS k).2 hk⟩)
      refine⟨_,_,(by rw [hs,hx];exact hr),_,?_,p1,p2⟩
      simp only [SV.den,V1.den,Cell.den,aW,(fz _ _ _ _).1]
      rw [if_neg (by omega)]
      simp only [Nat.zero_mul,Nat.add_zero]
      congr 1
      omega
     ·-- there is none
      have holds:∀(j:Nat) v,(ah ρ olds)[j]?=some v->w.cell? ((⟨ρ n1,(ρ.L n1).o+o1 * si.size,none⟩:Addr).add j)=some v:=fun j v hv=>by
       obtain⟨cc,hcc,rfl⟩:=sg ρ olds j v hv
       have:=DV hO q3 (o1 * si.size+j) cc (r5 j cc hcc)
       have e:(⟨ρ n1,(ρ.L n1).o+o1 * si.size,none⟩:Addr).add j=⟨ρ n1,(ρ.L n1).o+(o1 * si.size+j),none⟩:=by
        unfold Addr.add
        by_cases hj:j=0<;>simp [hj,Nat.add_assoc]
       rw [e];exact this
      have hr:=run_append_grow (P:=P) w t ty si.e i z hu hi hz _ len ((ρ.L n1).c - 1 - o1) (ah ρ olds) (by rw [bc,r3,e1]) holds _ k c2 (ah ρ news) (by rw [bc,g3,e1]) hcells (by omega) (by omega) (growslice_fits (by omega) (by rw [e2];omega))
      exact⟨_,_,(by rw [hs,hx];exact hr),grow _ _ _ rfl rfl⟩
   ·simp [T.val] at h
  ·simp [T.val] at h
 ·simp [T.val] at h
theorem jH (w:World) (t ty e:TypeId) (i:TypeInfo) (z:Value) (ht:P.underlying t=some (.slice e)) (hi:P.info? e=some i) (hz:i.zero=some z)
 (b:Option Addr) (a:Addr) (n c:Nat) (news:List Value) (hl:news.length=n * i.size) (hnews:∀(j:Nat) v,news[j]?=some v->w.cell? (a.add j)=some v)
 (hn:0 < n) (h63:(n:Int)<=9223372036854775807) (hfit:n * i.bytes<=140737488355328) :
 (Builtin.append_ #[t,t] ty #[.slice b 0 0,.slice (some a) n c]).run P w =
   .ok (.slice (some ⟨w.heap.size,0,none⟩) n (grownCap w n 0 e)) (w.drew.alloc (.cells (news.toArray++Builtin.zeroCells z.cells (grownCap w n 0 e - n)) e)):=by
 cases b with
 | none=>exact run_append_nil (P:=P) w t ty e i z ht hi hz a n c news hl hnews hn h63 (by omega)
 | some b =>
   have:=run_append_grow (P:=P) w t ty e i z ht hi hz b 0 0 [] (by simp) (fun j v h=>by simp at h) a n c news hl hnews (by omega) (by simpa using h63) (growslice_fits (by omega) (by simpa using hfit))
   simpa using this
theorem BV {n o es:Nat} {z:Bool} {f:SfF} {h:∀l,(f.ap l).c<=1 \/ z=false /\ f.ap l=⟨l.b,l.o+o * es,l.c - o⟩} {ρ:Nm} (h0:(f.ap (ρ.L n)).c<=1):∃ba,(Cell.sf n o es z f h).den ρ=.slice ba 0 0:=by
 simp only [Cell.den,aW]
 split
 ·exact⟨_,rfl⟩
 ·exact⟨_,by rw [show (f.ap (ρ.L n)).c - 1 - 0=0 by omega]⟩
theorem Qt {si:SI} {i:TypeInfo} {z:Value} {t:TypeId} (hu:P.underlying t=some (.slice si.e)) (hi:P.info? si.e=some i) (hz:i.zero=some z) (e1:i.size=si.size) (e2:i.bytes=si.bytes) (hpos:0 < si.size) (hzs:z.cells.size=si.size)
 {H H':Hp AV} {v:SV} {s:Cell} {n2 o2 k es:Nat} {news:List Cell} (hk:0 < k) (hnews:cI H si.size (.vs n2 o2 k es true)=some news) (hG:N.G<=H.length) (hC:bU N H)
 (h:(Ud H si n2 k news s).val=some (v,H')):ClV H' v /\ bU N H' /\ ∀(ρ:Nm) (w:World),Own N ρ H w->∀ty,∃r w',(Builtin.append_ #[t,t] ty #[s.den ρ,(Cell.vs n2 o2 k es true).den ρ]).run P w=.ok r w' /\
   ∃ρ',r=v.den ρ' /\ Own N ρ' H' w' /\ Evo N H.length ρ H w ρ' H' w':=by
 have hgrown:∀(w:World) (need old:Nat),(Builtin.zeroCells z.cells (grownCap w need old si.e - need)).size=(grownCap w need old si.e - need) * si.size:=fun w need old=>by rw [size_zeroCells,hzs]
 obtain⟨l2,ty2,g1,g2,g3,g4,_⟩:=bT hnews
 have hcln:ClL H news:=fun c hc=>hC.1 n2 _ g1 c (g4 c hc)
 unfold Ud at h
 split at h
 ·rename_i n1 o1 es1 f hf
  obtain⟨r1,r2,r3⟩:=BQ hu hi hz e1 e2 hpos hzs hk hnews hG hC h
  refine⟨r1,r2,fun ρ w hO ty=>?_⟩
  have zero:(f.ap (ρ.L n1)).c<=1->∃r w',(Builtin.append_ #[t,t] ty #[(Cell.sf n1 o1 es1 false f hf).den ρ,(Cell.vs n2 o2 k es true).den ρ]).run P w=.ok r w' /\
   ∃ρ',r=v.den ρ' /\ Own N ρ' H' w' /\ Evo N H.length ρ H w ρ' H' w':=by
   intro h0
   obtain⟨ba,hba⟩:∃ba,(Cell.sf n1 o1 es1 false f hf).den ρ=.slice ba 0 0:=BV h0
   simp only [Fx] at h
   split at h
   ·rename_i olds l1 es0 ty1 q1 q2 q3 q4
    split at h
    ·rename_i q5
     simp only [T.val,Option.some.injEq,Prod.mk.injEq] at h
     obtain⟨rfl,rfl⟩:=h
     have q4:=of_decide_eq_true q4
     simp only [Nat.zero_add] at q4
     obtain⟨_,_,_,_,s3,_⟩:=bT q1
     have ho0:olds=[]:=List.length_eq_zero_iff.1 (by rw [s3];simp)
     subst ho0
     have hd:∀n,(some n1:Option Nat)=some n->∃c,ab H n=some c:=fun n h=>by cases h;exact⟨_,q3⟩
     obtain⟨c2,hx,hcells⟩:=vd hO hpos hk hnews
     have hkb:k * si.bytes<=lim:=Nat.le_trans (Nat.mul_le_mul_left _ (Nat.le_succ _)) q4
     have hkn:k<=lim:=by
      have:k * 1<=k * (si.bytes+1):=Nat.mul_le_mul_left _ (by omega)
      omega
     simp only [lim] at hkb hkn
     have hr:=jH (P:=P) w t ty si.e i z hu hi hz ba _ k c2 (ah ρ news) (by rw [bc,g3,e1]) hcells hk (by omega) (by rw [e2];omega)
     obtain⟨o1,o2⟩:=Bo (w0:=w.drew) (d:=some n1) (l:=[]++news) (es:=si.size) (e:=si.e) (row:=(ah ρ news).toArray++Builtin.zeroCells z.cells (grownCap w k 0 si.e - k)) (cap:=grownCap w k 0 si.e) hO hC hG hd (by simpa using hcln) rfl rfl rfl rfl
      (by
        have:=grownCap_ge w k 0 si.e
        rw [Array.size_append,hgrown]
        simp only [List.size_toArray,bc,g3]
        rw [<- Nat.add_mul]
        congr 1
        omega)
      (by
        have:=grownCap_ge w k 0 si.e
        rw [List.nil_append,g3];exact Nat.mul_le_mul_right _ this)
      (fun j v hv=>by
        rw [List.nil_append] at hv
        have hj:=(List.getElem?_eq_some_iff.1 hv).1
        rw [Array.getElem?_append_left (by simpa using hj)]
        simpa using hv)
     refine⟨_,_,(by rw [hx,hba];exact hr),_,?_,o1,o2⟩
     simp only [SV.den,V1.den,Cell.den,aW,(fz _ _ _ _).1]
     rw [if_neg (by omega)]
     simp
    ·simp [T.val] at h
   ·simp [T.val] at h
  rcases hf (ρ.L n1) with h0 | ⟨_,h0⟩
  ·exact zero h0
  ·by_cases hc:(ρ.L n1).c=0
   ·exact zero (by rw [h0,hc];simp)
   ·by_cases hc':(ρ.L n1).c - o1<=1
    ·exact zero (by rw [h0];exact hc')
    ·have hd:(Cell.sf n1 o1 es1 false f hf).den ρ=(Cell.vs n1 o1 0 es1 true).den ρ:=by
      simp only [Cell.den,aW,h0]
      have y1:¬(True /\ (ρ.L n1).c - o1=0):=fun h=>by omega
      have y2:¬(True /\ (ρ.L n1).c=0):=fun h=>hc h.2
      rw [if_neg y1,if_neg y2]
      simp only [Nat.zero_mul,Nat.add_zero]
      congr 1
      omega
     rw [hd]
     exact r3 ρ w hO ty
 ·rename_i n1 o1 es1 f hf
  obtain⟨r1,r2,r3⟩:=BQ hu hi hz e1 e2 hpos hzs hk hnews hG hC h
  refine⟨r1,r2,fun ρ w hO ty=>?_⟩
  obtain⟨r,w',h1,h2⟩:=r3 ρ w hO ty
  have h0:(f.ap (ρ.L n1)).c<=1:=by
   rcases hf (ρ.L n1) with h0 | ⟨h0,_⟩
   ·exact h0
   ·cases h0
  obtain⟨ba,hba⟩:∃ba,(Cell.sf n1 o1 es1 true f hf).den ρ=.slice ba 0 0:=BV h0
  refine⟨r,w',?_,h2⟩
  simp only [Fx] at h
  split at h
  ·rename_i q4
   have q4:=of_decide_eq_true q4
   obtain⟨c2,hx,hcells⟩:=vd hO hpos hk hnews
   have hkb:k * si.bytes<=lim:=Nat.le_trans (Nat.mul_le_mul_left _ (Nat.le_succ _)) q4
   have hkn:k<=lim:=by
    have:k * 1<=k * (si.bytes+1):=Nat.mul_le_mul_left _ (by omega)
    omega
   simp only [lim] at hkb hkn
   have ha:=jH (P:=P) w t ty si.e i z hu hi hz ba _ k c2 (ah ρ news) (by rw [bc,g3,e1]) hcells hk (by omega) (by rw [e2];omega)
   have hb:=jH (P:=P) w t ty si.e i z hu hi hz none _ k c2 (ah ρ news) (by rw [bc,g3,e1]) hcells hk (by omega) (by rw [e2];omega)
   rw [hx] at h1 ⊢
   rw [hba,ha,<- hb]
   exact h1
  ·simp [T.val] at h
 ·exact BQ hu hi hz e1 e2 hpos hzs hk hnews hG hC h
theorem wF {es l h:Nat} (hes:0 < es) {H H':Hp AV} {v:SV} {s:Cell} (hs:ClV H (.v (.c s))) (hr:(Co H es l h s).val=some (v,H')):H'=H /\ ClV H v /\ ∀(ρ:Nm) (w:World),Own N ρ H w ->
 ∃a len cap,s.den ρ=.slice a len cap /\ l<=h /\ h<=len /\ len<=cap /\ (∀k,pO s=some k->k=len) /\ v.den ρ=sliced a l h cap es:=by
 unfold Co at hr
 split at hr
 ·split at hr
  ·rename_i q1 q2
   simp only [T.val,Option.some.injEq,Prod.mk.injEq] at hr
   obtain⟨rfl,rfl⟩:=hr
   have q1:=(ai _ _).1 q1
   have q2:=Nat.le_of_ble_eq_true q2
   subst q1
   have q3:l=0:=by omega
   subst q3
   refine⟨rfl,hs,fun ρ w _=>⟨none,0,0,rfl,by omega,by omega,by omega,fun k hk=>by simpa [pO] using hk.symm,rfl⟩⟩
  ·simp [T.val] at hr
 ·split at hr
  ·rename_i n o es' z f p _ _ q1 q2
   simp only [T.val,Option.some.injEq,Prod.mk.injEq] at hr
   obtain⟨rfl,rfl⟩:=hr
   have q1:=(ai _ _).1 q1
   have q2:=Nat.le_of_ble_eq_true q2
   subst q1
   have q3:l=0:=by omega
   subst q3
   have ha:∀a:Option Addr,a.map (fun x=>x.add 0)=a:=by intro a;cases a<;>simp [Addr.add]
   refine⟨rfl,hs,fun ρ w _=>?_⟩
   obtain⟨a,cap,hd⟩:∃a cap,(Cell.sf n o es' z f p).den ρ=.slice a 0 cap:=by
    simp only [Cell.den,aW]
    split<;>exact⟨_,_,rfl⟩
   refine⟨a,0,cap,hd,by omega,by omega,by omega,fun k hk=>by simpa [pO] using hk.symm,?_⟩
   simp only [SV.den,V1.den,hd,sliced,Nat.zero_mul,Nat.sub_zero,ha,ite_self]
  ·simp [T.val] at hr
 ·rename_i n o len es'
  split at hr
  ·rename_i cs q1 q2 q3
   have q2:=Nat.le_of_ble_eq_true q2
   have q3:=Nat.le_of_ble_eq_true q3
   obtain⟨lc,ty,g1,g2,_⟩:=bT q1
   subst g2
   have fin:H'=H->ClV H v->(∀(ρ:Nm) (w:World),Own N ρ H w->o+len<=(ρ.L n).c - 1->v.den ρ=sliced (if len=0 /\ (ρ.L n).c=0 then none else some ⟨ρ n,(ρ.L n).o+o * es',none⟩) l h (if len=0 /\ (ρ.L n).c=0 then 0 else(ρ.L n).c - 1 - o) es') ->
    H'=H /\ ClV H v /\ ∀(ρ:Nm) (w:World),Own N ρ H w->∃a len' cap,(Cell.vs n o len es' true).den ρ=.slice a len' cap /\ l<=h /\ h<=len' /\ len'<=cap /\ (∀k,pO (Cell.vs n o len es' true)=some k->k=len') /\ v.den ρ=sliced a l h cap es':=by
    intro f1 f2 f3
    refine⟨f1,f2,fun ρ w hO=>?_⟩
    have hf:=qO hO hes q1
    refine⟨_,len,_,?_,q2,q3,?_,fun k hk=>by simpa [pO] using hk.symm,f3 ρ w hO hf⟩
    ·simp only [Cell.den,aW]
     split
     ·rename_i h0;rw [h0.1]
     ·rfl
    ·split
     ·rename_i h0;omega
     ·omega
   have nm:∀c:Cell,c.name=some n->ClV H (.v (.c c)):=fun c hc x hx m hm=>by
    simp [V1.cells] at hx
    subst hx
    rw [hc] at hm
    cases hm
    exact⟨_,g1⟩
   split at hr
   ·rename_i q4
    have q4:=(ai _ _).1 q4
    subst q4
    simp only [T.val,Option.some.injEq,Prod.mk.injEq] at hr
    obtain⟨rfl,rfl⟩:=hr
    refine fin rfl (nm _ rfl) fun ρ w hO hf=>?_
    simp only [SV.den,V1.den,Cell.den,aW,sliced,Nat.zero_mul,Nat.sub_zero]
    by_cases hc:(ρ.L n).c=0
    ·have hl:len=0:=by omega
     have hh:h=0:=by omega
     simp [hc,hl,hh]
    ·have z1:¬(h=0 /\ (ρ.L n).c=0):=fun h=>hc h.2
     have z2:¬(len=0 /\ (ρ.L n).c=0):=fun h=>hc h.2
     simp [if_neg z1,if_neg z2,Addr.add]
   ·rename_i q4
    have q4:=(aR _ _).1 q4
    split at hr
    ·rename_i q5
     have q5:l < h:=by
      have:=Nat.le_of_ble_eq_true q5
      omega
     simp only [T.val,Option.some.injEq,Prod.mk.injEq] at hr
     obtain⟨rfl,rfl⟩:=hr
     refine fin rfl (nm _ rfl) fun ρ w hO hf=>?_
     simp only [SV.den,V1.den,Cell.den,aW,sliced]
     have z1:¬(h - l=0 /\ (ρ.L n).c=0):=fun h=>by omega
     have z2:¬(len=0 /\ (ρ.L n).c=0):=fun h=>by omega
     have z3:¬((ρ.L n).c - 1 - o=l):=by omega
     simp only [if_neg z1,if_neg z2,if_neg z3]
     have hne:l * es'≠0:=Nat.mul_ne_zero q4 (by omega)
     rw [show (o+l) * es'=o * es'+l * es' from Nat.add_mul _ _ _,show (ρ.L n).c - 1 - (o+l)=(ρ.L n).c - 1 - o - l by omega,<- Nat.add_assoc]
     simp [Addr.add,hne]
    ·rename_i q5
     have q5:l=h:=by
      by_cases e:l < h
      ·exfalso
       have:=Nat.ble_eq_true_of_le (show l+1<=h by omega)
       rw [show Nat.blt l h=Nat.ble (l+1) h from rfl] at q5
       rw [this] at q5
       cases q5
      ·omega
     simp only [T.val,Option.some.injEq,Prod.mk.injEq] at hr
     obtain⟨rfl,rfl⟩:=hr
     subst q5
     refine fin rfl (nm _ rfl) fun ρ w hO hf=>?_
     simp only [SV.den,V1.den,Cell.den,sliced,SfF.ap,aW]
     by_cases hc:(ρ.L n).c=0
     ·omega
     ·have z2:¬(len=0 /\ (ρ.L n).c=0):=fun h=>hc h.2
      simp only [if_neg hc,if_neg z2]
      by_cases e:(ρ.L n).c - 1 - o=l
      ·simp [e]
      ·have hne:l * es'≠0:=Nat.mul_ne_zero q4 (by omega)
       have hc3:¬((ρ.L n).c - (o+l)=0):=by omega
       rw [show (o+l) * es'=o * es'+l * es' from Nat.add_mul _ _ _,<- Nat.add_assoc]
       simp [e,Addr.add,hne,hc3]
       omega
  ·simp [T.val] at hr
 ·simp [T.val] at hr
theorem HP {es:Nat} (hes:0 < es) {H H':Hp AV} {v:SV} {s:Cell} (hs:ClV H (.v (.c s))) (hr:(En H es s).val=some (v,H')):H'=H /\ ClV H v /\ ∀(ρ:Nm) (w:World),Own N ρ H w ->
 ∃a len cap,s.den ρ=.slice a len cap /\ v.den ρ=sliced a 0 0 0 es:=by
 unfold En at hr
 split at hr
 ·simp only [T.val,Option.some.injEq,Prod.mk.injEq] at hr
  obtain⟨rfl,rfl⟩:=hr
  exact⟨rfl,hs,fun ρ w _=>⟨none,0,0,rfl,rfl⟩⟩
 ·simp only [T.val,Option.some.injEq,Prod.mk.injEq] at hr
  obtain⟨rfl,rfl⟩:=hr
  rename_i n o es' z f p
  refine⟨rfl,?_,fun ρ w _=>?_⟩
  rotate_left
  ·simp only [SV.den,V1.den,Cell.den,sliced,SfF.ap,aW]
   by_cases hc:(f.ap (ρ.L n)).c=0
   ·simp [hc]
   ·simp [hc]
  intro c hc m hm
  simp [V1.cells] at hc
  subst hc
  exact hs (.sf n o es' z f p) (by simp [V1.cells]) m hm
 ·rename_i n o len es'
  split at hr
  ·rename_i cs q1
   simp only [T.val,Option.some.injEq,Prod.mk.injEq] at hr
   obtain⟨rfl,rfl⟩:=hr
   obtain⟨lc,ty,g1,g2,_⟩:=bT q1
   subst g2
   refine⟨rfl,?_,fun ρ w hO=>?_⟩
   ·intro c hc m hm
    simp [V1.cells] at hc
    subst hc
    simp only [Cell.name,Option.some.injEq] at hm
    subst hm
    exact⟨_,g1⟩
   ·have hf:=qO hO hes q1
    simp only [SV.den,V1.den,Cell.den,aW,sliced,SfF.ap]
    by_cases hc:(ρ.L n).c=0
    ·have:len=0:=by omega
     simp [hc,this]
    ·rw [if_neg (fun h=>hc h.2)]
     exact⟨_,_,_,rfl,by simp [hc]⟩
  ·simp [T.val] at hr
 ·simp [T.val] at hr
theorem gV {x:SV} {n:Nat} (h:yS x=some n) (ρ:Nm):∃k,x.den ρ=.int k (n:Int):=by
 unfold yS at h
 split at h
 ·rename_i k m
  split at h
  ·rename_i h0
   have h0:=of_decide_eq_true h0
   cases h
   exact⟨k,by simp only [SV.den,V1.den,Cell.den];rw [Int.toNat_of_nonneg h0]⟩
  ·cases h
 ·cases h
theorem Tv {sl:Tr SI} (hsl:Un P sl) (hhv:N.hv=hvF sl N.G):Jk P N:=by
 intro o args H v H' h hargs hC
 rw [hhv] at h
 unfold hvF at h
 split at h
 ·rename_i c
  split at h
  ·rename_i hcal
   split at h
   ·rename_i s x t t' hty
    split at h
    ·rename_i htt
     have htt:=(ai _ _).1 htt
     subst htt
     unfold RC at h
     split at h
     ·rename_i si hs
      obtain⟨hu,i,z,hi,hz,e1,e2,hpos,hzl,hzd,hzn⟩:=fT (hsl t si hs)
      have hzs:z.cells.size=si.size:=by
       have:=congrArg List.length (hzd Nm.id)
       rw [bc] at this
       simp at this
       omega
      split at h
      ·rename_i he
       obtain⟨rfl,rfl,hs2⟩:=Qv (N:=N) hpos h
       refine⟨hargs _ (List.mem_cons_self ..),hC,fun ρ w hO=>?_⟩
       intro ev o ho hv
       obtain⟨a,n,cap,hsd,hle⟩:=hs2 ρ w hO
       obtain⟨b,cap2,hxd⟩:=Ah he ρ
       refine⟨.slice a n cap,w,.inl (NH ho hcal hty hu hi (b:=b) (cap2:=cap2) hle (by rw [hv];simp [SV.den,V1.den,hsd,hxd]) (fun q _ w=>zF q w)),ρ,by simp [SV.den,V1.den,hsd],hO,Evo.refl _ _ _ _⟩
      ·rename_i he
       split at h
       ·rename_i n2 o2 k es
        split at h
        ·rename_i news hn hg
         have hk:0 < k:=by
          rcases Nat.eq_zero_or_pos k with rfl | h0
          ·simp [tZ] at he
          ·exact h0
         obtain⟨c1,c2,c3⟩:=Qt hu hi hz e1 e2 hpos hzs hk hn (Nat.le_of_ble_eq_true hg) hC h
         refine⟨c1,c2,fun ρ w hO=>?_⟩
         intro ev o ho hv
         obtain⟨r,w',hr,ρ',h1,h2,h3⟩:=c3 ρ w hO o.type
         exact⟨r,w',.inl (oE ho hcal hty (by rw [hv];simp [SV.den,V1.den]) hr),ρ',h1,h2,h3⟩
        ·simp [T.val] at h
       ·simp [T.val] at h
     ·simp [T.val] at h
    ·simp [T.val] at h
   ·simp [T.val] at h
  ·simp [T.val] at h
 ·rename_i t x lo hi mx
  unfold GU at h
  split at h
  ·simp [T.val] at h
  ·rename_i si hs
   obtain⟨hu,i,z,hii,hz,e1,e2,hpos,hzl,hzd,hzn⟩:=fT (hsl t si hs)
   split at h
   ·rename_i s l q1 q2 q3
    split at h
    ·rename_i ln hn hl1 hl2
     obtain⟨rfl,k1,k2⟩:=wF (N:=N) hpos (hargs _ (List.mem_cons_self ..)) h
     refine⟨k1,hC,fun ρ w hO=>?_⟩
     intro ev o ho hv
     obtain⟨a,len,cap,d1,d2,d3,d4,d5,d6⟩:=k2 ρ w hO
     obtain⟨kk,hk⟩:=gV hl1 ρ
     cases lo with
     | none=>cases q1
     | some lo =>
     cases hi with
     | some _=>cases q2
     | none =>
     cases mx with
     | some _=>cases q3
     | none =>
     simp [Op.operands,SV.den,V1.den,d1] at hv
     obtain⟨v1,v2⟩:=hv
     have hlen:=d5 _ hl2
     subst hlen
     refine⟨v.den ρ,w,.inl ?_,ρ,rfl,hO,Evo.refl _ _ _ _⟩
     rw [d6,<- e1]
     refine eP ho hu hii v1 ?_
     have v2:ev lo=.int kk ln:=by rw [v2];exact hk
     simp [Instr.sliceBounds,v2,run_sliceBound,d2]
    ·simp [T.val] at h
   ·rename_i s h' q1 q2 q3
    split at h
    ·rename_i hn hl1
     obtain⟨rfl,k1,k2⟩:=wF (N:=N) hpos (hargs _ (List.mem_cons_self ..)) h
     refine⟨k1,hC,fun ρ w hO=>?_⟩
     intro ev o ho hv
     obtain⟨a,len,cap,d1,d2,d3,d4,d5,d6⟩:=k2 ρ w hO
     obtain⟨kk,hk⟩:=gV hl1 ρ
     cases lo with
     | some _=>cases q1
     | none =>
     cases hi with
     | none=>cases q2
     | some hi =>
     cases mx with
     | some _=>cases q3
     | none =>
     simp [Op.operands,SV.den,V1.den,d1] at hv
     obtain⟨v1,v2⟩:=hv
     refine⟨v.den ρ,w,.inl ?_,ρ,rfl,hO,Evo.refl _ _ _ _⟩
     rw [d6,<- e1]
     refine eP ho hu hii v1 ?_
     have v2:ev hi=.int kk hn:=by rw [v2];exact hk
     simp [Instr.sliceBounds,v2,run_sliceBound,(by omega:hn<=cap)]
    ·simp [T.val] at h
   ·rename_i s l h' q1 q2 q3
    split at h
    ·rename_i ln hn hl1 hl2
     obtain⟨rfl,k1,k2⟩:=wF (N:=N) hpos (hargs _ (List.mem_cons_self ..)) h
     refine⟨k1,hC,fun ρ w hO=>?_⟩
     intro ev o ho hv
     obtain⟨a,len,cap,d1,d2,d3,d4,d5,d6⟩:=k2 ρ w hO
     obtain⟨kk,hk⟩:=gV hl1 ρ
     obtain⟨kh,hkh⟩:=gV hl2 ρ
     cases lo with
     | none=>cases q1
     | some lo =>
     cases hi with
     | none=>cases q2
     | some hi =>
     cases mx with
     | some _=>cases q3
     | none =>
     simp [Op.operands,SV.den,V1.den,d1] at hv
     obtain⟨v1,v2,v3⟩:=hv
     refine⟨v.den ρ,w,.inl ?_,ρ,rfl,hO,Evo.refl _ _ _ _⟩
     rw [d6,<- e1]
     refine eP ho hu hii v1 ?_
     have v2:ev lo=.int kk ln:=by rw [v2];exact hk
     have v3:ev hi=.int kh hn:=by rw [v3];exact hkh
     simp [Instr.sliceBounds,v2,v3,run_sliceBound,d2,(by omega:hn<=cap)]
    ·simp [T.val] at h
   ·rename_i s h' m' q1 q2 q3
    split at h
    ·rename_i hl1 hl2
     obtain⟨rfl,k1,k2⟩:=HP (N:=N) hpos (hargs _ (List.mem_cons_self ..)) h
     refine⟨k1,hC,fun ρ w hO=>?_⟩
     intro ev o ho hv
     obtain⟨a,len,cap,d1,d6⟩:=k2 ρ w hO
     obtain⟨kk,hk⟩:=gV hl1 ρ
     obtain⟨kh,hkh⟩:=gV hl2 ρ
     cases lo with
     | some _=>cases q1
     | none =>
     cases hi with
     | none=>cases q2
     | some hi =>
     cases mx with
     | none=>cases q3
     | some mx =>
     simp [Op.operands,SV.den,V1.den,d1] at hv
     obtain⟨v1,v2,v3⟩:=hv
     refine⟨v.den ρ,w,.inl ?_,ρ,rfl,hO,Evo.refl _ _ _ _⟩
     rw [d6,<- e1]
     refine eP ho hu hii v1 ?_
     have v2:ev hi=.int kk 0:=by rw [v2];exact hk
     have v3:ev mx=.int kh 0:=by rw [v3];exact hkh
     simp [Instr.sliceBounds,v2,v3,run_sliceBound]
    ·simp [T.val] at h
   ·simp [T.val] at h
 ·simp [T.val] at h
end Go.Sx
