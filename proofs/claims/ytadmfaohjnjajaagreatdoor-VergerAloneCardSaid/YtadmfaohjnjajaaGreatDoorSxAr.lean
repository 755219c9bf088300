import Derived.Test.YtadmfaohjnjajaaGreatDoorSxN
set_option linter.unusedVariables false
set_option linter.unusedSimpArgs false
set_option maxHeartbeats 0
set_option maxRecDepth 100000
namespace Go.Sx
section
structure AK (α:Type) where
 es:Nat
 tf:0 < es
 ty:TypeId
 enc:α->List Cell
 len:∀a,(enc a).length=es
 nm:∀a,∀c∈enc a,c.name=none
 jm:List Cell->Option α
 ig:∀cs a,jm cs=some a->aF Nm.id (enc a)=aF Nm.id cs /\ ∀c∈cs,c.name=none
 bK:α
namespace AK
variable {α:Type} (K:AK α)
def aT (l:List α):List Value:=l.flatMap fun a=>aF Nm.id (K.enc a)
theorem jZ (l:List α):(K.aT l).length=l.length * K.es:=by
 induction l with
 | nil=>simp [aT]
 | cons a l ih =>have h1:=K.len a;simp only [aT,List.flatMap_cons,aaP,dM,h1,aaQ] at ih ⊢;rw [ih,aei,Nat.one_mul,Nat.add_comm]
theorem VI (l:List α):∀v∈K.aT l,v.oneCell'=true:=by intro v hv;obtain⟨a,_,h⟩:=List.mem_flatMap.1 hv;obtain⟨c,_,rfl⟩:=ac0.1 h;exact Ab _ c
theorem mm (l r:List α):K.aT (l++r)=K.aT l++K.aT r:=by simp [aT]
theorem wA (l:List α) (n:Nat):(K.aT l).take (n * K.es)=K.aT (l.take n):=by
 induction l generalizing n with
 | nil=>simp [aT]
 | cons a l ih =>
   cases n with
   | zero=>simp [aT]
   | succ n =>
     have h1:(aF Nm.id (K.enc a)).length=K.es:=by rw [dM,K.len a]
     simp only [aT,List.flatMap_cons,List.take_succ_cons] at ih ⊢;rw [List.take_append,h1,aei,Nat.one_mul,Nat.add_sub_cancel,ih n,List.take_of_length_le (by omega)]
theorem wB (l:List α) (n:Nat):(K.aT l).drop (n * K.es)=K.aT (l.drop n):=by
 induction l generalizing n with
 | nil=>simp [aT]
 | cons a l ih =>
   cases n with
   | zero=>simp [aT]
   | succ n =>
     have h1:(aF Nm.id (K.enc a)).length=K.es:=by rw [dM,K.len a]
     simp only [aT,List.flatMap_cons,List.drop_succ_cons] at ih ⊢;rw [List.drop_append,h1,aei,Nat.one_mul,Nat.add_sub_cancel,ih n,List.drop_of_length_le (by omega),acB]
theorem yY (l:List α) (i j:Nat) (hi:i < l.length) (hj:j < K.es):(K.aT l)[i * K.es+j]?=(aF Nm.id (K.enc (l.getD i K.bK)))[j]?:=by
 induction l generalizing i with
 | nil=>simp at hi
 | cons a l ih =>
   have h1:(aF Nm.id (K.enc a)).length=K.es:=by rw [dM,K.len a]
   have e:K.aT (a::l)=aF Nm.id (K.enc a)++K.aT l:=by simp [aT]
   rw [e];cases i with
   | zero=>simp [acM (show j < (aF Nm.id (K.enc a)).length by omega)]
   | succ i =>rw [acR (by rw [h1,aei];omega),h1];have:=ih i (by simpa using hi);rw [show (i+1) * K.es+j - K.es=i * K.es+j by rw [aei];omega,this];simp
theorem VH (l:List α) (i:Nat) (a:α) (hi:i < l.length):K.aT (l.set i a)=(K.aT l).take (i * K.es)++(aF Nm.id (K.enc a)++(K.aT l).drop (i * K.es+K.es)):=by
 rw [List.set_eq_take_append_cons_drop,if_pos hi,mm,wA];have e:i * K.es+K.es=(i+1) * K.es:=by rw [aei,Nat.one_mul]
 rw [e,wB];simp [aT]
def row (l:List α) (idx es:Nat):Option (Bool×List Cell):=match Nat.beq es K.es with
 | true=>some (decide (idx < l.length),K.enc (l.getD idx K.bK))
 | false=>none
def xC (l:List α) (idx es off:Nat) (cs:List Cell):Option (Bool×List α):=match Nat.beq es K.es with
 | false=>none
 | true=>match mB (K.enc (l.getD idx K.bK)) off cs with
   | none=>none
   | some r=>match K.jm r with
     | some a=>some (decide (idx < l.length),l.set idx a)
     | none=>none
def gb (l:List α):Option (Nat×TypeId×List Value):=some (K.es,K.ty,K.aT l)
def q (l:List α) (lc:m9) (S:Nat->Prop) (w:World):Prop:=ng lc S (K.aT l) K.es K.ty w
def BI:Nat->List Cell->Option (List α)
 | 0,[]=>some []
 | 0,_::_=>none
 | n+1,cs=>match oM cs K.es with
   | none=>none
   | some r=>match K.jm r,BI n (cs.drop K.es) with
     | some a,some l=>some (a::l)
     | _,_=>none
def Le (l:List α) (cs:List Cell):Option (List α):=match K.BI (cs.length / K.es) cs with
 | some r=>some (l++r)
 | none=>none
theorem amZ {l:List α} {lc:m9} {S:Nat->Prop} {w w':World} (h:∀k,S k->w'.heap[k]?=w.heap[k]?) (hq:K.q l lc S w):K.q l lc S w':=AA hq h
theorem Xu {l:List α} {lc:m9} {S:Nat->Prop} {w:World} {k:Nat} (hq:K.q l lc S w) (hk:S k):k < w.heap.size:=by
 rcases hq with⟨_,_,h⟩ | ⟨_,h,row,h2,_⟩
 ·exact absurd hk (h k)
 ·rw [(h k).1 hk];exact(ada.1 h2).1
theorem uV {l:List α} {idx es:Nat} {b:Bool} {cs:List Cell} (h:K.row l idx es=some (b,cs)):∀c∈cs,c.name=none:=by
 unfold row at h;split at h
 ·cases h;exact K.nm _
 ·cases h
theorem yf {l:List α} {lc:m9} {S:Nat->Prop} {w:World} {idx es:Nat} {cs:List Cell} (hq:K.q l lc S w) (h:K.row l idx es=some (true,cs)) (j:Nat) (c:Cell) (hc:cs[j]?=some c):w.cell? ⟨lc.b,lc.o+idx * es+j,none⟩=some (c.ay Nm.id):=by
 unfold row at h;split at h
 ·rename_i he;have he:=(aG _ _).1 he;subst he;simp only [aaf,aaB,decide_eq_true_eq] at h;obtain⟨hi,rfl⟩:=h;have hj:j < K.es:=by have:=(aaS.1 hc).1;rw [K.len] at this;exact this
  have:=JC hq (idx * K.es+j) (c.ay Nm.id) (by rw [K.yY l idx j hi hj];unfold aF;rw [aeG,hc];rfl);have e:(⟨lc.b,lc.o,none⟩:Addr).add (idx * K.es+j)=⟨lc.b,lc.o+idx * K.es+j,none⟩:=by
   unfold Addr.add;by_cases h0:idx * K.es+j=0
   ·simp [h0];omega
   ·simp [adr]
  rw [<- e];exact this
 ·cases h
theorem W9 {l:List α} {lc:m9} {w:World} {idx es:Nat} {cs:List Cell} (hq:Me lc (K.aT l) K.es w) (h:K.row l idx es=some (true,cs)) (j:Nat) (c:Cell) (hc:cs[j]?=some c):w.cell? ⟨lc.b,lc.o+idx * es+j,none⟩=some (c.ay Nm.id):=by
 unfold row at h;split at h
 ·rename_i he;have he:=(aG _ _).1 he;subst he;simp only [aaf,aaB,decide_eq_true_eq] at h;obtain⟨hi,rfl⟩:=h;have hj:j < K.es:=by have:=(aaS.1 hc).1;rw [K.len] at this;exact this
  have:=hq.2 (idx * K.es+j) (c.ay Nm.id) (by rw [K.yY l idx j hi hj];unfold aF;rw [aeG,hc];rfl);have e:(⟨lc.b,lc.o,none⟩:Addr).add (idx * K.es+j)=⟨lc.b,lc.o+idx * K.es+j,none⟩:=by
   unfold Addr.add;by_cases h0:idx * K.es+j=0
   ·simp [h0];omega
   ·simp [h0,adr]
  rw [<- e];exact this
 ·cases h
theorem wP:∀{l:List Cell} {off:Nat} {ys r:List Cell},mB l off ys=some r->off+ys.length<=l.length /\ r=l.take off++(ys++l.drop (off+ys.length))
 | l,0,[],r,h=>by simp only [mB,aaf] at h;subst h;simp
 | [],0,y::ys,r,h=>by simp [mB] at h
 | x::l,0,y::ys,r,h=>by
   simp only [mB] at h;split at h
   ·rename_i q hq;cases h;obtain⟨h1,h2⟩:=wP hq;simp only [aby,List.take_zero,acB] at h1 h2;refine⟨by simp;omega,?_⟩;simp [h2]
   ·cases h
 | [],n+1,ys,r,h=>by simp [mB] at h
 | x::l,n+1,ys,r,h=>by
   simp only [mB] at h;split at h
   ·rename_i q hq;cases h;obtain⟨h1,h2⟩:=wP hq;refine⟨by simp;omega,?_⟩;rw [h2,show n+1+ys.length=(n+ys.length)+1 by omega];simp
   ·cases h
theorem JG {l:List α} {lc:m9} {S:Nat->Prop} {w:World} {idx off:Nat} {cs r:List Cell} {a:α} (hq:K.q l lc S w) (hi:idx < l.length) (hr:mB (K.enc (l.getD idx K.bK)) off cs=some r) (d1:aF Nm.id (K.enc a)=aF Nm.id r) (uv:∀c∈cs,c.name=none):(∀c∈cs,c.name=none) /\ S lc.b /\ ∃(row:List Value) (ty:TypeId),w.heap[lc.b]?=some (.cells row.toArray ty (0,0)) /\ lc.o+idx * K.es+off+cs.length<=row.length /\
 K.q (l.set idx a) lc S (w.setRow lc.b (row.take (lc.o+idx * K.es+off)++(aF Nm.id cs++row.drop (lc.o+idx * K.es+off+cs.length))).toArray):=by
 obtain⟨p1,p2⟩:=wP hr;rw [K.len] at p1;rcases hq with⟨_,h0,_⟩ | ⟨hcp,hS,row,hrow,Vf,hll,bG⟩
 ·have:=congrArg List.length h0;rw [K.jZ] at this;rcases Nat.mul_eq_zero.1 this with h | h
  ·omega
  ·have:=K.tf;omega
 ·have hvl:=K.jZ l;have hmul:(idx+1) * K.es<=l.length * K.es:=ac2 _ hi;rw [aei,Nat.one_mul] at hmul;have hfit:lc.o+idx * K.es+off+cs.length<=row.length:=by omega
  refine⟨uv,(hS _).2 rfl,row,K.ty,hrow,hfit,.inr ⟨hcp,hS,_,setRow_heap w lc.b _ _ K.ty (0,0) hrow,?_,?_,?_⟩⟩
  ·simp only [aaP,aga,agb,dM];omega
  ·rw [K.jZ,afX,<- K.jZ];exact hll
  ·intro j v hv;have e1:row.take (lc.o+idx * K.es+off)++(aF Nm.id cs++row.drop (lc.o+idx * K.es+off+cs.length))=row.take (lc.o+idx * K.es+off)++aF Nm.id cs++row.drop (lc.o+idx * K.es+off+(aF Nm.id cs).length):=by rw [dM,acA]
   rw [e1,Db (by rw [dM];exact hfit),dM];have yw:∀j,j < K.es->(aF Nm.id (K.enc a))[j]?=if j < off then(aF Nm.id (K.enc (l.getD idx K.bK)))[j]? else if j < off+cs.length then(aF Nm.id cs)[j - off]? else(aF Nm.id (K.enc (l.getD idx K.bK)))[j]?:=by
    intro j hj;rw [d1,p2];have e2:aF Nm.id ((K.enc (l.getD idx K.bK)).take off++(cs++(K.enc (l.getD idx K.bK)).drop (off+cs.length)))=(aF Nm.id (K.enc (l.getD idx K.bK))).take off++aF Nm.id cs++(aF Nm.id (K.enc (l.getD idx K.bK))).drop (off+(aF Nm.id cs).length):=by rw [dM];simp [aF,List.map_take,List.map_drop]
    rw [e2,Db (by rw [dM,dM,K.len];exact p1),dM]
   rw [K.VH l idx a hi] at hv;have hl1:((K.aT l).take (idx * K.es)).length=idx * K.es:=by rw [aga];omega
   have hl2:(aF Nm.id (K.enc a)).length=K.es:=by rw [dM,K.len]
   by_cases c1:j < idx * K.es
   ·rw [acM (by omega),aeE,if_pos c1] at hv;rw [if_pos (by omega)];exact bG j v hv
   ·rw [acR (by omega),hl1] at hv;by_cases c2:j - idx * K.es < K.es
    ·rw [acM (by omega),yw _ c2] at hv;have back:∀u,(aF Nm.id (K.enc (l.getD idx K.bK)))[j - idx * K.es]?=some u->row[lc.o+j]?=some u:=fun u hu=>by have:=K.yY l idx (j - idx * K.es) hi c2;rw [show idx * K.es+(j - idx * K.es)=j by omega] at this;exact bG j u (by rw [this];exact hu)
     by_cases c3:j - idx * K.es < off
     ·rw [if_pos c3] at hv;rw [if_pos (by omega)];exact back v hv
     ·rw [if_neg c3] at hv;rw [if_neg (by omega)];by_cases c4:j - idx * K.es < off+cs.length
      ·rw [if_pos c4] at hv;rw [if_pos (by omega),<- hv];congr 1;omega
      ·rw [if_neg c4] at hv;rw [if_neg (by omega)];exact back v hv
    ·rw [acR (by omega),hl2,afG] at hv;rw [if_neg (by omega),if_neg (by omega)];refine bG j v ?_;rw [<- hv];congr 1;omega
theorem yd {l l':List α} {lc:m9} {S:Nat->Prop} {w:World} {idx es off:Nat} {cs:List Cell} (hq:K.q l lc S w) (h:K.xC l idx es off cs=some (true,l')):(∀c∈cs,c.name=none) /\ S lc.b /\ ∃(row:List Value) (ty:TypeId),w.heap[lc.b]?=some (.cells row.toArray ty (0,0)) /\ lc.o+idx * es+off+cs.length<=row.length /\
 K.q l' lc S (w.setRow lc.b (row.take (lc.o+idx * es+off)++(aF Nm.id cs++row.drop (lc.o+idx * es+off+cs.length))).toArray):=by
 unfold xC at h;split at h
 ·cases h
 ·rename_i he;have he:=(aG _ _).1 he;subst he;split at h
  ·cases h
  ·rename_i r hr;split at h
   ·rename_i a ha;simp only [aaf,aaB,decide_eq_true_eq] at h;obtain⟨hi,rfl⟩:=h;obtain⟨d1,d2⟩:=K.ig r a ha;exact K.JG hq hi hr d1 fun c hc=>d2 c (by rw [(wP hr).2];simp [hc])
   ·cases h
theorem Ac:∀{n:Nat} {cs:List Cell} {l:List α},K.BI n cs=some l->K.aT l=aF Nm.id cs /\ ∀c∈cs,c.name=none
 | 0,[],l,h=>by simp only [BI,aaf] at h;subst h;simp [aT,aF]
 | 0,_::_,l,h=>by simp [BI] at h
 | n+1,cs,l,h=>by
   simp only [BI] at h;split at h
   ·cases h
   ·rename_i r hr;split at h
    ·rename_i a l' ha hl;cases h;obtain⟨d1,d2⟩:=K.ig r a ha;obtain⟨q1,q2⟩:=Ac hl;have Vf:=yp hr;have hle:=E8 hr;have er:r=cs.take K.es:=by
      apply List.ext_getElem?;intro j;rw [aeE];by_cases hj:j < K.es
      ·rw [if_pos hj];have hjr:j < r.length:=by rw [Vf.1];exact hj
       have:=Vf.2 j r[j] (aaN hjr);rw [this,aaN hjr]
      ·rw [if_neg hj,List.getElem?_eq_none (by rw [Vf.1];omega)]
     have ecs:cs=r++cs.drop K.es:=by rw [er,af9]
     refine⟨?_,fun c hc=>?_⟩
     ·have:K.aT (a::l')=aF Nm.id (K.enc a)++K.aT l':=by simp [aT]
      rw [this,d1,q1];conv=>rhs;rw [ecs]
      simp [aF]
     ·rw [ecs] at hc;rcases adg.1 hc with h | h
      ·exact d2 c h
      ·exact q2 c h
    ·cases h
theorem BS {l l':List α} {cs:List Cell} (h:K.Le l cs=some l'):(∀x∈cs,x.name=none) /\ K.aT l'=K.aT l++aF Nm.id cs:=by
 unfold Le at h;split at h
 ·rename_i r hr;cases h;obtain⟨h1,h2⟩:=K.Ac hr;exact⟨h2,by rw [K.mm,h1]⟩
 ·cases h
theorem BL (l:List α) (i j:Nat):K.aT ((l.take j).drop i)=((K.aT l).take (j * K.es)).drop (i * K.es):=by rw [K.wA,K.wB]
end AK
end
section
variable {AV:Type} {P:Program} {N:eI AV}
def He (F:gX AV):eI AV:={tt:=.lf,ft:=.lf,gu:=.lf,G:=0,F:=F}
theorem XP {K:Hp AV} {l:m9} {S:Nat->Prop} {w w':World} (hk:∀k,S k->w'.heap[k]?=w.heap[k]?) (h:oK N K l S w):oK N K l S w':=by obtain⟨ρ,h1,h2,h3⟩:=h;exact⟨ρ,h1,⟨fun n c hc=>o7 (h2.q n c hc) rfl rfl rfl fun k hf=>hk k ((h3 k).2 ⟨n,c,hc,hf⟩),h2.qR⟩,h3⟩
theorem Xu {ρ:Nm} {n:Nat} {c:aK AV} {w:World} (h:c.q N ρ n w) {k:Nat} (hk:c.fp ρ n k):k < w.heap.size:=by
 cases c with
 | cells l ty =>have hk:k=ρ n:=hk;have h:w.heap[ρ n]?=some _:=h;rw [hk];exact(ada.1 h).1
 | oB l es ty =>
   have hk:ρ.S n k:=hk;rcases h with⟨_,_,h⟩ | ⟨_,h,row,h2,_⟩
   ·exact absurd hk (h k)
   ·rw [(h k).1 hk];exact(ada.1 h2).1
 | kN=>exact hk.elim
 | bN a=>exact N.F.dom a _ _ w k h hk
theorem XQ {K:Hp AV} {l:m9} {S:Nat->Prop} {w:World} {k:Nat} (h:oK N K l S w) (hk:S k):k < w.heap.size:=by obtain⟨ρ,h1,h2,h3⟩:=h;obtain⟨i,c,hc,hf⟩:=(h3 k).1 hk;exact Xu (h2.q i c hc) hf
structure GJ (F:gX AV) (lay:AV->Option (Hp AV)):Prop where
 gb:∀a x,F.gb a=some x->lay a=none
 row:∀a i e x,F.row a i e=some x->lay a=none
 K2:∀a i e o n x,F.K2 a i e o n=some x->lay a=none
 xC:∀a i e o cs b a',F.xC a i e o cs=some (b,a')->lay a=none /\ lay a'=none
 word:∀a cs,F.word a=some cs->lay a=none
 mp:∀a x,F.mp a=some x->lay a=none:=by intro a x h;cases h
def vk (F:gX AV) (lay:AV->Option (Hp AV)) (a:AV) (l:m9) (S:Nat->Prop) (w:World):Prop:=match lay a with
 | none=>F.q a l S w
 | some K=>oK (He F) K l S w
theorem fR {F:gX AV} {lay:AV->Option (Hp AV)} {a:AV} (h:lay a=none) (l:m9) (S:Nat->Prop) (w:World):vk F lay a l S w↔F.q a l S w:=by unfold vk;rw [h]
def gX.Pt (F:gX AV) (lay:AV->Option (Hp AV)) (h:GJ F lay):gX AV where
 q:=vk F lay
 loc:=fun a l S w w' hk hq=>by
  unfold vk at hq ⊢;split at hq
  ·exact F.loc a l S w w' hk hq
  ·exact XP hk hq
 dom:=fun a l S w k hq hk=>by
  unfold vk at hq;split at hq
  ·exact F.dom a l S w k hq hk
  ·exact XQ hq hk
 row:=F.row
 uV:=F.uV
 R:=F.R
 yf:=fun a l S w idx es cs hR hq hr=>F.yf a l S w idx es cs hR ((fR (h.row a idx es _ hr) l S w).1 hq) hr
 K2:=F.K2
 A0:=F.A0
 J1:=fun a l S w i e o n cs hR hq hp=>F.J1 a l S w i e o n cs hR ((fR (h.K2 a i e o n _ hp) l S w).1 hq) hp
 xC:=F.xC
 yd:=fun a l S w idx es off cs a' hq hu=>by obtain⟨h1,h2⟩:=h.xC a idx es off cs true a' hu;obtain⟨g1,g2,row,ty,g3,g4,g5⟩:=F.yd a l S w idx es off cs a' ((fR h1 l S w).1 hq) hu;exact⟨g1,g2,row,ty,g3,g4,(fR h2 l S _).2 g5⟩
 word:=F.word
 wy:=F.wy
 C1:=fun a l S w cs hq hw=>F.C1 a l S w cs ((fR (h.word a cs hw) l S w).1 hq) hw
 rF:=F.rF
 tq:=F.tq
 gb:=F.gb
 kZ:=fun a es ty vs ha=>⟨(F.kZ a es ty vs ha).1,fun l S w=>(fR (h.gb a _ ha) l S w).trans ((F.kZ a es ty vs ha).2 l S w)⟩
 su:=fun a=>match lay a with
  | none=>F.su a
  | some _=>none
 Ec:=fun a b es ty vs hs hb l S w hR hq=>by
  split at hs
  ·rename_i h1;exact F.Ec a b es ty vs hs hb l S w hR ((fR h1 l S w).1 hq)
  ·cases hs
 len:=F.len
 tG:=F.tG
 cat:=F.cat
 KP:=F.KP
 Le:=F.Le
 BS:=F.BS
 cut:=F.cut
 BL:=F.BL
 zer:=F.zer
 Az:=F.Az
 txt:=F.txt
 VK:=F.VK
 mp:=F.mp
 ah1:=fun a ks ag es hm=>⟨(F.ah1 a ks ag es hm).1,fun l S w=>(fR (h.mp a _ hm) l S w).trans ((F.ah1 a ks ag es hm).2 l S w)⟩
 ah2:=F.ah2
 RE:=F.RE
 X8:=F.X8
 ME:=F.ME
 ah0:=F.ah0
 RD:=F.RD
 ah7:=F.ah7
 RJ:=F.RJ
 ah3:=F.ah3
 RF:=F.RF
theorem HV {N N':eI AV} {K:Hp AV} (hq:∀i a,af K i=some (.bN a)->∀l S w,N.F.q a l S w->N'.F.q a l S w) {l:m9} {S:Nat->Prop} {w:World} (h:oK N K l S w):oK N' K l S w:=by
 obtain⟨ρ,h1,h2,h3⟩:=h;refine⟨ρ,h1,⟨fun n c hc=>?_,h2.qR⟩,h3⟩;have:=h2.q n c hc;cases c with
 | cells l ty=>exact this
 | oB l es ty=>exact this
 | kN=>exact this
 | bN a=>exact hq n a hc _ _ _ this
end
section
variable {AV:Type} {P:Program} {N:eI AV}
def Ou (N:eI AV) (H H1:Hp AV):Prop:=∀(ρ:Nm) (w:World),gF N ρ H w->∃ρ1,gF N ρ1 H1 w /\ (∀m,m < H.length->ρ1.L m=ρ.L m) /\ ∀m d k,af H1 m=some d->d.fp ρ1 m k->∃m' d',af H m'=some d' /\ d'.fp ρ m' k
def Fld (N:eI AV) (H R:Hp AV):Prop:=∀(ρ:Nm) (w:World),gF N ρ H w->∃ρ1,gF N ρ1 R w /\ (∀m c,af H m=some c->ρ1.L m=ρ.L m) /\ ∀m d k,af R m=some d->d.fp ρ1 m k->∃m' d',af H m'=some d' /\ d'.fp ρ m' k
theorem Ou.refl (H:Hp AV):Ou N H H:=fun ρ _ h=>⟨ρ,h,fun _ _=>rfl,fun m d k h h'=>⟨m,d,h,h'⟩⟩
theorem Fld.refl (H:Hp AV):Fld N H H:=fun ρ _ h=>⟨ρ,h,fun _ _ _=>rfl,fun m d k h h'=>⟨m,d,h,h'⟩⟩
theorem Ou.trans {A B C:Hp AV} (h1:Ou N A B) (h2:Ou N B C) (hl:A.length<=B.length):Ou N A C:=fun ρ w h=>by obtain⟨ρ1,o1,l1,f1⟩:=h1 ρ w h;obtain⟨ρ2,o2,l2,f2⟩:=h2 ρ1 w o1;refine⟨ρ2,o2,fun m hm=>(l2 m (by omega)).trans (l1 m hm),fun m d k hd hk=>?_⟩;obtain⟨m',d',Bw,eh⟩:=f2 m d k hd hk;exact f1 m' d' k Bw eh
theorem Fld.trans {A B C:Hp AV} (h1:Fld N A B) (h2:Fld N B C) (hp':∀m c,af A m=some c->∃c',af B m=some c'):Fld N A C:=fun ρ w h=>by
 obtain⟨ρ1,o1,l1,f1⟩:=h1 ρ w h;obtain⟨ρ2,o2,l2,f2⟩:=h2 ρ1 w o1;refine⟨ρ2,o2,fun m c hm=>?_,fun m d k hd hk=>?_⟩
 ·obtain⟨c',oU⟩:=hp' m c hm;exact(l2 m c' oU).trans (l1 m c hm)
 ·obtain⟨m',d',Bw,eh⟩:=f2 m d k hd hk;exact f1 m' d' k Bw eh
theorem EC {H K:Hp AV} (hC:eX N H) {n:Nat} {a:AV} (hn:af H n=some (.bN a)) (R9:∃c,af K 0=some c) (hGn:N.G<=n) (hq:∀l S w,N.F.q a l S w->oK N K l S w):Ou N H (p9 H n K):=fun ρ w hO=>by
 have hlt:=b7 hn;have hKn:K≠[]:=by rintro rfl;obtain⟨c,hc⟩:=R9;cases hc
 obtain⟨ρ1,o1,eL,eS,hS⟩:=XD hO hC hn R9 hGn hq;refine⟨ρ1,o1,eL,fun m d k hd hk=>?_⟩;rcases Mp (H:=H) (K:=K) hlt hKn m d hd with⟨h1,h2,h3⟩ | ⟨i,d',rfl,h3,rfl⟩
 ·rw [cY (eL m h2) (eS m h2 h1)] at hk;exact⟨m,d,h3,hk⟩
 ·exact⟨n,_,hn,(hS k).2 ⟨i,d',h3,hk⟩⟩
def jN (ρ:Nm) (H:Hp AV) (n:Nat) (ns:List Nat) (k:Nat):Prop:=∃m d,(m=n \/ m∈ns) /\ af H m=some d /\ d.fp ρ m k
def ux (n:Nat) (ns:List Nat) (a:AV):Nat->Hp AV->Hp AV
 | _,[]=>[]
 | i,x::r=>(match Nat.beq i n with | true=>some (.bN a) | false=>match nS ns i with | true=>none | false=>x)::ux n ns a (i+1) r
theorem NG (n:Nat) (ns:List Nat) (a:AV):∀(H:Hp AV) (i m:Nat),af (ux n ns a i H) m=if m < H.length then(if i+m=n then some (.bN a) else if i+m∈ns then none else af H m) else none
 | [],i,m=>by cases m<;>simp [ux,af]
 | x::r,i,0=>by
   simp only [ux,af,aaQ,Nat.zero_lt_succ,if_true,Nat.add_zero];cases h:Nat.beq i n with
   | true=>rw [if_pos ((aG _ _).1 h)]
   | false =>
     rw [if_neg ((bT _ _).1 h)];cases h':nS ns i with
     | true=>rw [if_pos ((gP _ _).1 h')]
     | false=>rw [if_neg (fun e=>by rw [(gP _ _).2 e] at h';cases h')]
 | x::r,i,m+1=>by simp only [ux,af,aaQ,NG n ns a r (i+1) m,Nat.add_lt_add_iff_right];rw [show i+1+m=i+(m+1) by omega]
theorem vJ {n:Nat} {ns:List Nat} {a:AV} {H:Hp AV} {m:Nat} {c:aK AV} (h:af (ux n ns a 0 H) m=some c):(m=n /\ c=.bN a) \/ (m≠n /\ m ∉ ns /\ af H m=some c):=by
 rw [NG] at h;split at h
 ·rw [aby] at h;split at h
  ·rename_i e;cases h;exact .inl ⟨e,rfl⟩
  ·rename_i e;split at h
   ·cases h
   ·rename_i e';exact .inr ⟨e,e',h⟩
 ·cases h
theorem adP {f:FuncId} {args:List SV} {H H1 H2 R:Hp AV} {v:SV} (ho:Ou N H H1) (h01:∀m c,af H m=some c->∃c',af H1 m=some c') (hc:rT P N f args H1 v H2) (hf:Fld N H2 R) (bZ:∀x∈args,gf H x)
 (hv:gf R v) (hR:eX N R) (dC:∀m c,af H m=some c->∃c',af R m=some c') (H6:∀m,m < H.length->af H m=none->af R m=none) (len:H.length<=R.length):rT P N f args H v R:=by
 obtain⟨hv2,_,Nv⟩:=hc;refine⟨hv,hR,fun ρ w hO=>?_⟩;obtain⟨ρ1,o1,l1,f1⟩:=ho ρ w hO;have PV:args.map (SV.ay ρ1)=args.map (SV.ay ρ):=adb fun x hx=>SV.cg (bZ x hx) fun m c h=>l1 m (b7 h);rw [<- PV];refine(Nv ρ1 w o1).mono ?_;rintro e w' ⟨ρ2,rfl,o2,hE⟩;obtain⟨ρ3,o3,l3,f3⟩:=hf ρ2 w' o2;refine⟨ρ3,?_,o3,⟨dC,fun m c h=>?_,H6,len,fun k hk vD=>?_,fun m c k h hk=>?_,hE.os,hE.tape,hE.output,hE.size⟩⟩
 ·congr 1;exact(SV.cg hv2 fun m c h=>l3 m c h).symm
 ·obtain⟨c1,h1⟩:=h01 m c h;obtain⟨c2,h2⟩:=hE.dC m c1 h1;rw [l3 m c2 h2,hE.kF m c1 h1,l1 m (b7 h)]
 ·refine hE.mW k hk fun m d hd eh=>?_;obtain⟨m',d',h1,h2⟩:=f1 m d k hd eh;exact vD m' d' h1 h2
 ·obtain⟨m',d',h1,h2⟩:=f3 m c k h hk;rcases hE.new m' d' k h1 h2 with h3 | ⟨m'',d'',h3,h4⟩
  ·exact .inl h3
  ·exact .inr (f1 m'' d'' k h3 h4)
theorem jh {f:FuncId} {args Gn:List SV} {H R:Hp AV} {v:SV} (hc:rT P N f args H v R) (h:∀ρ,Gn.map (SV.ay ρ)=args.map (SV.ay ρ)):rT P N f Gn H v R :=
 ⟨hc.1,hc.2.1,fun ρ w hO=>by rw [h ρ];exact hc.2.2 ρ w hO⟩
theorem rA {f:FuncId} {args:List SV} {H R:Hp AV} {v v':SV} (hc:rT P N f args H v R) (hcl:gf R v') (h:∀ρ,v'.ay ρ=v.ay ρ):rT P N f args H v' R :=
 ⟨hcl,hc.2.1,fun ρ w hO=>(hc.2.2 ρ w hO).mono fun e w' ⟨ρ',he,h1,h2⟩=>⟨ρ',by rw [h ρ'];exact he,h1,h2⟩⟩
end
section
variable {AV:Type} {P:Program} {N:eI AV}
theorem De (π σ:Nat->Nat):∀c:Cell,(c.cV σ).cV π=c.cV (fun n=>π (σ n))
 | .xP t c=>by simp only [Cell.cV];rw [De π σ c]
 | .ptr _ _=>rfl
 | .DN _ _ _ _=>rfl
 | .sl _ _ _ _=>rfl
 | .vs _ _ _ _ _=>rfl
 | .sf _ _ _ _ _ _=>rfl
 | .bl _=>rfl
 | .bt _=>rfl
 | .il _ _=>rfl
 | .it _ _=>rfl
 | .iv _ _ _ _=>rfl
 | .ir _ _ _ _ _=>rfl
 | .st _=>rfl
 | .sv _=>rfl
 | .jj=>rfl
 | .dP=>rfl
 | .sx _ _=>rfl
 | .fL=>rfl
 | .fn _=>rfl
 | .nfn=>rfl
 | .op _ _=>rfl
 | .mp none=>rfl
 | .mp (some _)=>rfl
theorem JT {π:Nat->Nat}:∀c:Cell,(∀n,c.name=some n->π n=n)->c.cV π=c
 | .xP t c,h=>by simp only [Cell.cV];rw [JT c h]
 | .ptr n _,h=>by simp only [Cell.cV];rw [h n rfl]
 | .DN n _ _ _,h=>by simp only [Cell.cV];rw [h n rfl]
 | .sl n _ _ _,h=>by simp only [Cell.cV];rw [h n rfl]
 | .vs n _ _ _ _,h=>by simp only [Cell.cV];rw [h n rfl]
 | .sf n _ _ _ _ _,h=>by simp only [Cell.cV];rw [h n rfl]
 | .bl _,h=>rfl
 | .bt _,h=>rfl
 | .il _ _,h=>rfl
 | .it _ _,h=>rfl
 | .iv _ _ _ _,h=>rfl
 | .ir _ _ _ _ _,h=>rfl
 | .st _,h=>rfl
 | .sv _,h=>rfl
 | .jj,h=>rfl
 | .dP,h=>rfl
 | .sx _ _,h=>rfl
 | .fL,h=>rfl
 | .fn _,h=>rfl
 | .nfn,h=>rfl
 | .op _ _,h=>rfl
 | .mp none,h=>rfl
 | .mp (some n),h=>by simp only [Cell.cV,Option.map_some];rw [h n rfl]
theorem zB {l:List Cell} {n:Nat}:n∈eR l↔∃c∈l,c.name=some n:=by
 induction l with
 | nil=>simp [eR]
 | cons c r ih =>
   simp only [eR];cases h:c.name with
   | none=>simp [ih,h]
   | some m=>simp [ih,h,eq_comm]
theorem AB {π σ:Nat->Nat} {x:V1} (h:∀n∈eR x.cells,π (σ n)=n):(x.cV σ).cV π=x:=by
 have one:∀l:List Cell,(∀n∈eR l,π (σ n)=n)->(l.map (Cell.cV σ)).map (Cell.cV π)=l:=fun l hl=>by
  rw [List.map_map];conv=>rhs;rw [<- List.map_id l]
  refine adb fun c hc=>?_;show (c.cV σ).cV π=c;rw [De];exact JT c fun n hn=>hl n (zB.2 ⟨c,hc,hn⟩)
 cases x with
 | c c =>show V1.c ((c.cV σ).cV π)=_;rw [De,JT c fun n hn=>h n (zB.2 ⟨c,aet.2 rfl,hn⟩)]
 | agg l=>exact congrArg V1.agg (one l h)
theorem tE {l:List V1} {n:Nat}:n∈vq l↔∃x∈l,n∈eR x.cells:=by
 induction l with
 | nil=>simp [vq]
 | cons x r ih=>simp [vq,ih]
theorem AF {π σ:Nat->Nat} {x:SV} (h:∀n∈mP x,π (σ n)=n):(x.cV σ).cV π=x:=by
 cases x with
 | v x=>exact congrArg SV.v (AB h)
 | xz f l =>
   refine congrArg (SV.xz f) ?_;rw [List.map_map];conv=>rhs;rw [<- List.map_id l]
   refine adb fun c hc=>?_;show (c.cV σ).cV π=c;rw [De];exact JT c fun n hn=>h n (zB.2 ⟨c,hc,hn⟩)
 | iW l =>
   refine congrArg SV.iW ?_;rw [List.map_map];conv=>rhs;rw [<- List.map_id l]
   exact adb fun x hx=>AB fun n hn=>h n (tE.2 ⟨x,hx,hn⟩)
 | lU=>rfl
theorem qY {l:List SV} {n:Nat}:n∈iP l↔∃x∈l,n∈mP x:=by
 induction l with
 | nil=>simp [iP]
 | cons x r ih=>simp [iP,ih]
def DR:List Nat->List Nat->List Nat
 | acc,[]=>acc
 | acc,x::r=>match nS acc x with | true=>DR acc r | false=>DR (acc++[x]) r
theorem rY:∀(l acc:List Nat),acc.Nodup->(DR acc l).Nodup /\ ∀n,n∈DR acc l↔n∈acc \/ n∈l
 | [],acc,h=>⟨h,fun n=>by simp [DR]⟩
 | x::r,acc,h=>by
   simp only [DR];split
   ·rename_i hx;have hx:=(gP _ _).1 hx;obtain⟨h1,h2⟩:=rY r acc h;refine⟨h1,fun n=>?_⟩;rw [h2,aaO];constructor
    ·rintro (h | h)
     ·exact .inl h
     ·exact .inr (.inr h)
    ·rintro (h | rfl | h)
     ·exact .inl h
     ·exact .inl hx
     ·exact .inr h
   ·rename_i hx;have hx:x ∉ acc:=fun e=>by rw [(gP _ _).2 e] at hx;cases hx
    obtain⟨h1,h2⟩:=rY r (acc++[x]) (by
     rw [afN];refine⟨h,by simp,?_⟩;intro a ha b hb e;rw [aet.1 hb] at e;exact hx (e▸ha))
    refine⟨h1,fun n=>?_⟩;rw [h2];simp [or_assoc]
def qQ:List Nat->Nat->Nat
 | [],_=>0
 | x::r,n=>match Nat.beq x n with | true=>0 | false=>qQ r n+1
theorem sQ:∀{l:List Nat} {n:Nat},n∈l->l[qQ l n]?=some n
 | [],n,h=>by cases h
 | x::r,n,h=>by
   simp only [qQ];cases e:Nat.beq x n with
   | true=>simp [(aG _ _).1 e]
   | false =>
     have:=(bT _ _).1 e;simp only [adU];rcases aaO.1 h with rfl | h
     ·exact absurd rfl this
     ·exact sQ h
theorem Bc:∀{l:List Nat},l.Nodup->∀{i j n:Nat},l[i]?=some n->l[j]?=some n->i=j
 | [],_,i,j,n,h,_=>by simp at h
 | x::r,hd,i,j,n,h1,h2=>by
   obtain⟨hx,hr⟩:=ads.1 hd;cases i with
   | zero =>
     simp only [aeD,aaf] at h1;subst h1;cases j with
     | zero=>rfl
     | succ j=>exact absurd (aca (by simpa using h2)) hx
   | succ i =>
     simp only [adU] at h1;cases j with
     | zero =>simp only [aeD,aaf] at h2;subst h2;exact absurd (aca h1) hx
     | succ j=>exact congrArg (·+1) (Bc hr h1 (by simpa using h2))
def GD (H:Hp AV):List Nat->Option (List AV)
 | []=>some []
 | n::r=>match af H n with
   | some (.bN a)=>match GD H r with | some l=>some (a::l) | none=>none
   | _=>none
theorem CE {H:Hp AV}:∀{ns:List Nat} {l:List AV},GD H ns=some l->l.length=ns.length /\ ∀(i n:Nat),ns[i]?=some n->∃a:AV,l[i]?=some a /\ af H n=some (.bN a)
 | [],l,h=>by simp only [GD,aaf] at h;subst h;exact⟨rfl,fun i n h=>by simp at h⟩
 | n::r,l,h=>by
   simp only [GD] at h;split at h
   ·rename_i a ha;split at h
    ·rename_i l' hl;cases h;obtain⟨h1,h2⟩:=CE hl;refine⟨congrArg (·+1) h1,fun i m hm=>?_⟩;cases i with
     | zero=>cases hm;exact⟨a,rfl,ha⟩
     | succ i=>exact h2 i m hm
    ·cases h
   ·cases h
def cZ (sn:Nat->AV):Nat->List Bool->Hp AV
 | _,[]=>[]
 | i,b::r=>(match b with | true=>some (.bN (sn i)) | false=>none)::cZ sn (i+1) r
theorem ij (sn:Nat->AV):∀(M:List Bool) (i:Nat),(cZ sn i M).length=M.length
 | [],i=>rfl
 | b::r,i=>congrArg (·+1) (ij sn r (i+1))
theorem nH (sn:Nat->AV):∀(M:List Bool) (i n:Nat) (c:aK AV),af (cZ sn i M) n=some c↔M[n]?=some true /\ c=.bN (sn (i+n))
 | [],i,n,c=>by cases n<;>simp [cZ,af]
 | b::r,i,0,c=>by cases b<;>simp [cZ,af,eq_comm]
 | b::r,i,n+1,c=>by simp only [cZ,af,adU];rw [nH sn r (i+1) n c,show i+1+n=i+(n+1) by omega]
def fA (l:List AV):Hp AV:=l.map fun a=>some (.bN a)
theorem eW (l:List AV) (n:Nat) (c:aK AV):af (fA l) n=some c↔∃a,l[n]?=some a /\ c=.bN a:=by
 induction l generalizing n with
 | nil=>cases n<;>simp [fA,af]
 | cons a r ih =>
   cases n with
   | zero=>simp [fA,af,eq_comm]
   | succ n=>exact ih n
theorem we (l:List AV):(fA l).length=l.length:=by simp [fA]
def tQ (cL:AV->Nat->Bool):Nat->List Bool->Hp AV->Bool
 | _,[],_=>true
 | i,b::m,x::r=>match b with
   | false=>tQ cL (i+1) m r
   | true=>match x with
     | some (.bN a)=>match cL a i with | true=>tQ cL (i+1) m r | false=>false
     | _=>false
 | _,_::_,[]=>false
theorem vH {cL:AV->Nat->Bool} {sn:Nat->AV} (hs:∀a i,cL a i=true->a=sn i):∀{M:List Bool} {i:Nat} {H:Hp AV},tQ cL i M H=true->M.length<=H.length /\ ∀n,M[n]?=some true->af H n=some (.bN (sn (i+n)))
 | [],i,H,h=>⟨by simp,fun n h=>by simp at h⟩
 | b::m,i,[],h=>by simp [tQ] at h
 | b::m,i,x::r,h=>by
   have go:∀(h':tQ cL (i+1) m r=true) (h0:b=true->x=some (.bN (sn i))),(b::m).length<=(x::r).length /\ ∀n,(b::m)[n]?=some true->af (x::r) n=some (.bN (sn (i+n))):=fun h' h0=>by
    obtain⟨h1,h2⟩:=vH hs h';refine⟨by simpa using h1,fun n hn=>?_⟩;cases n with
    | zero =>simp only [aeD,aaf] at hn;exact h0 hn
    | succ n =>simp only [adU] at hn;have:=h2 n hn;rw [show i+1+n=i+(n+1) by omega] at this;exact this
   cases b with
   | false=>exact go (by simpa [tQ] using h) (fun e=>by cases e)
   | true =>
     simp only [tQ] at h;split at h
     ·split at h
      ·rename_i ha;exact go h (fun _=>by rw [hs _ i ha])
      ·cases h
     ·cases h
def p8:List Nat->List AV->Hp AV->Hp AV
 | n::r,a::l,H=>p8 r l (de H n (some (.bN a)))
 | _,_,H=>H
theorem Eu:∀(ns:List Nat) (l:List AV) (H:Hp AV),(p8 ns l H).length=H.length
 | [],l,H=>by cases l<;>rfl
 | n::r,[],H=>rfl
 | n::r,a::l,H=>by show (p8 r l (de H n (some (.bN a)))).length=_;rw [Eu r l,eB]
theorem nN:∀(ns:List Nat) (l:List AV) (H:Hp AV) (m:Nat),m ∉ ns->af (p8 ns l H) m=af H m
 | [],l,H,m,h=>by cases l<;>rfl
 | n::r,[],H,m,h=>rfl
 | n::r,a::l,H,m,h=>by show af (p8 r l (de H n (some (.bN a)))) m=_;rw [nN r l _ m (fun e=>h (aaW _ e)),bz _ (fun e=>h (by rw [e];exact aaV))]
theorem wN:∀(ns:List Nat) (l:List AV) (H:Hp AV),ns.Nodup->(∀n∈ns,n < H.length)->∀(i n:Nat) (a:AV),ns[i]?=some n->l[i]?=some a->af (p8 ns l H) n=some (.bN a)
 | [],l,H,h,hl,i,n,a,h1,h2=>by simp at h1
 | n::r,[],H,h,hl,i,m,a,h1,h2=>by simp at h2
 | n::r,b::l,H,h,hl,i,m,a,h1,h2=>by
   show af (p8 r l (de H n (some (.bN b)))) m=_;obtain⟨hn,hr⟩:=ads.1 h;cases i with
   | zero =>simp only [aeD,aaf] at h1 h2;subst h1 h2;rw [nN r l _ _ hn,cG _ (hl _ aaV)]
   | succ i =>simp only [adU] at h1 h2;exact wN r l _ hr (fun x hx=>by rw [eB];exact hl x (aaW _ hx)) i m a h1 h2
def Om (G:Nat):List Nat->Bool
 | []=>true
 | n::r=>match Nat.ble G n with | true=>Om G r | false=>false
theorem yO {G:Nat}:∀{l:List Nat},Om G l=true->∀n∈l,G<=n
 | [],_,n,h=>by cases h
 | x::r,h,n,hn=>by
   simp only [Om] at h;split at h
   ·rename_i hx;rcases aaO.1 hn with rfl | hn
    ·exact acZ hx
    ·exact yO h n hn
   ·cases h
def CM (G:Nat) (ns:List Nat) (L i:Nat):Nat:=match Nat.blt i G with
 | true=>i
 | false=>match yQ ns (i - G) with
   | some n=>n
   | none=>L+(i - G - ns.length)
theorem Rt {G:Nat} {ns:List Nat} {L i:Nat} (h:i < G):CM G ns L i=i:=by
 unfold CM;have e:Nat.blt i G=true:=by simpa [Nat.blt_eq] using h
 rw [e]
theorem pH {G:Nat} {ns:List Nat} {L j n:Nat} (h:ns[j]?=some n):CM G ns L (G+j)=n:=by
 unfold CM;have e:Nat.blt (G+j) G=false:=by
  cases e:Nat.blt (G+j) G with
  | false=>rfl
  | true=>rw [Nat.blt_eq] at e;omega
 rw [e,adK,nth_eq,h]
theorem zs {G:Nat} {ns:List Nat} {L j:Nat}:CM G ns L (G+ns.length+j)=L+j:=by
 unfold CM;have e:Nat.blt (G+ns.length+j) G=false:=by
  cases e:Nat.blt (G+ns.length+j) G with
  | false=>rfl
  | true=>rw [Nat.blt_eq] at e;omega
 have e2:yQ ns (G+ns.length+j - G)=none:=by rw [nth_eq,List.getElem?_eq_none];omega
 rw [e];simp only [e2];omega
def bJ (cL:AV->Nat->Bool) (M:List Bool) (tree:List SV->List AV->T (SV×List AV×List AV)) (args:List SV) (H:Hp AV):T (SV×Hp AV) :=
 match tQ cL 0 M H with
 | false=>.fail "summary: variables"
 | true=>match DR [] (iP args) with
   | ns=>match GD H ns,Om M.length ns with
     | some l,true=>(tree (args.map (SV.cV fun n=>M.length+qQ ns n)) l).bind fun r=>match Nat.beq r.2.1.length l.length with
       | true=>.aD (r.1.cV (CM M.length ns H.length),p8 ns r.2.1 H++fA r.2.2)
       | false=>.fail "summary: objects"
     | _,_=>.fail "summary: objects"
theorem hZ {cL:AV->Nat->Bool} {sn:Nat->AV} (hs:∀a i,cL a i=true->a=sn i) {M:List Bool} (hG:N.G=M.length) {tree:List SV->List AV->T (SV×List AV×List AV)} {f:FuncId}
 (h:∀args l v l' nw,(tree args l).val=some (v,l',nw)->l'.length=l.length->(∀x∈args,gf (cZ sn 0 M++fA l) x)->rT P N f args (cZ sn 0 M++fA l) v (cZ sn 0 M++fA (l'++nw))):cE P N f (bJ cL M tree):=by
 refine cE.of fun args H v H' hr ha hC=>?_;unfold bJ at hr;split at hr
 ·cases hr
 rename_i Y7;obtain⟨hML,Y7⟩:=vH hs Y7;dsimp only at hr;obtain⟨jQ,nQ⟩:=rY (iP args) [] List.nodup_nil;generalize DR [] (iP args)=ns at hr jQ nQ;split at hr
 ·rename_i l hl GS;obtain⟨⟨v1,l',nw⟩,ht,hr⟩:=T.bq hr;split at hr
  ·rename_i hlen;have hlen:l'.length=l.length:=(aG _ _).1 hlen;cases hr;obtain⟨al1,al2⟩:=CE hl;have GS:=yO GS;have Bs:∀n∈ns,n < H.length:=fun n hn=>by obtain⟨i,hi⟩:=adQ.1 hn;obtain⟨a,_,h2⟩:=al2 i n hi;exact b7 h2
   let G:=M.length;let π:=CM G ns H.length;have back:∀x∈args,((x.cV fun n=>G+qQ ns n).cV π)=x:=fun x hx=>AF fun n hn=>by have:n∈ns:=(nQ n).2 (.inr (qY.2 ⟨x,hx,hn⟩));exact pH (sQ this)
   have ZH:args=(args.map (SV.cV fun n=>G+qQ ns n)).map (SV.cV π):=by
    rw [List.map_map];conv=>lhs;rw [<- List.map_id args]
    exact adb fun x hx=>(back x hx).symm
   have G7:(cZ sn 0 M).length=G:=ij sn M 0;have lP:∀(q:List AV) i c,af (cZ sn 0 M++fA q) i=some c↔(i < G /\ M[i]?=some true /\ c=.bN (sn i)) \/ ∃j a,i=G+j /\ q[j]?=some a /\ c=.bN a:=fun q i c=>by
    rw [bA,G7];by_cases hi:i < G
    ·rw [if_pos hi,nH,aby];constructor
     ·rintro ⟨h1,h2⟩;exact .inl ⟨hi,h1,h2⟩
     ·rintro (⟨_,h1,h2⟩ | ⟨j,a,h1,_⟩)
      ·exact⟨h1,h2⟩
      ·omega
    ·rw [if_neg hi,eW];constructor
     ·rintro ⟨a,h1,h2⟩;exact .inr ⟨i - G,a,by omega,h1,h2⟩
     ·rintro (⟨h1,_⟩ | ⟨j,a,rfl,h1,h2⟩)
      ·exact absurd h1 hi
      ·rw [adK];exact⟨a,h1,h2⟩
   have aam:∀x∈args.map (SV.cV fun n=>G+qQ ns n),gf (cZ sn 0 M++fA l) x:=fun y hy=>by
    obtain⟨x,hx,rfl⟩:=ac0.1 hy;have one:∀z:V1,(∀n∈eR z.cells,n∈ns)->jY (cZ sn 0 M++fA l) (z.cV fun n=>G+qQ ns n):=fun z hz=>by
     have Iz:∀cs:List Cell,(∀n∈eR cs,n∈ns)->oy (cZ sn 0 M++fA l) (cs.map (Cell.cV fun n=>G+qQ ns n)):=fun cs hcs c hc n hn=>by obtain⟨d,hd,rfl⟩:=ac0.1 hc;rw [zx] at hn;obtain⟨m,hm,rfl⟩:=aaT.1 hn;have:=hcs m (zB.2 ⟨d,hd,hm⟩);obtain⟨a,h1,_⟩:=al2 _ _ (sQ this);exact⟨.bN a,(lP l _ _).2 (.inr ⟨_,a,rfl,h1,rfl⟩)⟩
     cases z with
     | c c =>have:=Iz [c] hz;simpa [jY,V1.cells,V1.cV] using this
     | agg cs=>exact Iz cs hz
    have Ko:∀n∈mP x,n∈ns:=fun n hn=>(nQ n).2 (.inr (qY.2 ⟨x,hx,hn⟩));cases x with
    | v x=>exact one x Ko
    | iW q =>intro z hz;obtain⟨z',hz',rfl⟩:=ac0.1 hz;exact one z' fun n hn=>Ko n (tE.2 ⟨z',hz',hn⟩)
    | lU=>trivial
    | xz f cs=>exact one (.agg cs) Ko
   have hc:=h _ l v1 l' nw ht hlen aam;rw [ZH];have qI:∀i,i < G->π i=i:=fun i hi=>Rt hi;have vv:=Eu ns l' H;have p4:∀j a,(l'++nw)[j]?=some a->(∃n,ns[j]?=some n /\ π (G+j)=n /\ af (p8 ns l' H++fA nw) n=some (.bN a)) \/ (ns.length<=j /\ π (G+j)=H.length+(j - ns.length) /\ af (p8 ns l' H++fA nw) (H.length+(j - ns.length))=some (.bN a)):=fun j a hj=>by
    by_cases hjl:j < ns.length
    ·have h1:ns[j]?=some ns[j]:=aaN hjl;rw [acM (by omega)] at hj;refine .inl ⟨ns[j],h1,pH h1,?_⟩;rw [bA,vv,if_pos (Bs _ (List.getElem_mem hjl))];exact wN ns l' H jQ Bs j _ a h1 hj
    ·rw [acR (by omega)] at hj;refine .inr ⟨by omega,?_,?_⟩
     ·have:=zs (G:=G) (ns:=ns) (L:=H.length) (j:=j - ns.length);rw [show G+ns.length+(j - ns.length)=G+j by omega] at this;exact this
     ·rw [bA,vv,if_neg (by omega),adK];refine(eW nw _ _).2 ⟨a,?_,rfl⟩;rw [hlen,al1] at hj;exact hj
   refine I7 (π:=π) hc (B':=p8 ns l' H++fA nw) ?_ ?_ ?_ ?_ hC ?_ ?_ ?_ ?_ ?_ ?_ ?_
   ·intro i c hi;rcases (lP l i c).1 hi with⟨h1,h2,rfl⟩ | ⟨j,a,rfl,h1,rfl⟩
    ·rw [qI i h1];have:=Y7 i h2;rw [aby] at this;exact this
    ·have hjl:j < ns.length:=by rw [<- al1];exact(aaS.1 h1).1
     have h2:ns[j]?=some ns[j]:=aaN hjl;obtain⟨a',h3,h4⟩:=al2 j _ h2;rw [h1] at h3;cases h3;rw [show π (G+j)=ns[j] from pH h2];exact h4
   ·intro i j c d hi hj e;rcases (lP _ i c).1 hi with⟨h1,_,_⟩ | ⟨x,a,rfl,h1,_⟩<;>rcases (lP _ j d).1 hj with⟨g1,_,_⟩ | ⟨y,b,rfl,g1,_⟩
    ·rw [qI i h1,qI j g1] at e;exact e
    ·rw [qI i h1] at e;rcases p4 y b g1 with⟨n,s1,s2,_⟩ | ⟨s0,s1,_⟩
     ·rw [s2] at e;have:=GS n (aca s1);omega
     ·rw [s1] at e;omega
    ·rw [qI j g1] at e;rcases p4 x a h1 with⟨n,s1,s2,_⟩ | ⟨s0,s1,_⟩
     ·rw [s2] at e;have:=GS n (aca s1);omega
     ·rw [s1] at e;omega
    ·rcases p4 x a h1 with⟨n,s1,s2,_⟩ | ⟨s0,s1,_⟩<;>rcases p4 y b g1 with⟨m,t1,t2,_⟩ | ⟨t0,t1,_⟩
     ·rw [s2,t2] at e;subst e;have:=Bc jQ s1 t1;omega
     ·rw [s2,t1] at e;have:=Bs n (aca s1);omega
     ·rw [s1,t2] at e;have:=Bs m (aca t1);omega
     ·rw [s1,t1] at e;omega
   ·intro i c hi;rcases (lP l i c).1 hi with⟨h1,h2,rfl⟩ | ⟨j,a,rfl,h1,rfl⟩
    ·exact⟨_,(lP _ _ _).2 (.inl ⟨h1,h2,rfl⟩)⟩
    ·have hj:j < l'.length:=by rw [hlen];exact(aaS.1 h1).1
     exact⟨_,(lP _ _ _).2 (.inr ⟨j,_,rfl,by rw [acM hj];exact aaN hj,rfl⟩)⟩
   ·intro g hg;rw [hG] at hg;exact qI g hg
   ·intro i c hi vD;rcases (lP _ i c).1 hi with⟨h1,h2,rfl⟩ | ⟨j,a,rfl,h1,rfl⟩
    ·have:=(lP l i _).2 (.inl ⟨h1,h2,rfl⟩);rw [vD] at this;cases this
    ·by_cases hj:j < l.length
     ·have:=(lP l (G+j) _).2 (.inr ⟨j,_,rfl,aaN hj,rfl⟩);rw [vD] at this;cases this
     ·rcases p4 j a h1 with⟨n,s1,_,_⟩ | ⟨_,s1,_⟩
      ·have:=(aaS.1 s1).1;omega
      ·rw [s1];omega
   ·rw [hG];exact hML
   ·intro m c hm;rw [bA,vv] at hm;split at hm
    ·rename_i hml;by_cases Nn:m∈ns
     ·obtain⟨j,hj⟩:=adQ.1 Nn;have Y6:j < l'.length:=by rw [hlen,al1];exact(aaS.1 hj).1
      have:=wN ns l' H jQ Bs j m _ hj (aaN Y6);rw [this] at hm;cases hm;exact .inl ⟨G+j,_,(pH hj).symm,(lP _ _ _).2 (.inr ⟨j,_,rfl,by rw [acM Y6];exact aaN Y6,rfl⟩),rfl⟩
     ·rw [nN ns l' H m Nn] at hm;by_cases Up:m < G /\ M[m]?=some true
      ·have:=Y7 m Up.2;rw [aby,hm] at this;cases this;exact .inl ⟨m,_,(qI m Up.1).symm,(lP _ _ _).2 (.inl ⟨Up.1,Up.2,rfl⟩),rfl⟩
      ·refine .inr ⟨hm,fun i d hi e=>?_⟩;rcases (lP _ i d).1 hi with⟨h1,h2,rfl⟩ | ⟨j,a,rfl,h1,rfl⟩
       ·rw [qI i h1] at e;subst e;exact Up ⟨h1,h2⟩
       ·rcases p4 j a h1 with⟨n,s1,s2,_⟩ | ⟨_,s1,_⟩
        ·rw [s2] at e;subst e;exact Nn (aca s1)
        ·rw [s1] at e;omega
    ·rename_i hml;obtain⟨a,h1,rfl⟩:=(eW _ _ _).1 hm;refine .inl ⟨G+(ns.length+(m - H.length)),.bN a,?_,(lP _ _ _).2 (.inr ⟨_,a,rfl,by rw [acR (by omega),hlen,al1,adK];exact h1,rfl⟩),rfl⟩;have:=zs (G:=G) (ns:=ns) (L:=H.length) (j:=m - H.length);rw [show G+(ns.length+(m - H.length))=G+ns.length+(m - H.length) by omega];rw [show π (G+ns.length+(m - H.length))=_ from this];omega
   ·intro i d hi;rcases (lP _ i d).1 hi with⟨h1,h2,rfl⟩ | ⟨j,a,rfl,h1,rfl⟩
    ·rw [qI i h1,bA,vv,if_pos (by omega),nN]
     ·have:=Y7 i h2;rw [aby] at this;exact this
     ·intro nQ;have:=GS i nQ;omega
    ·rcases p4 j a h1 with⟨n,_,s2,s3⟩ | ⟨_,s2,s3⟩
     ·rw [s2];exact s3
     ·rw [s2];exact s3
   ·intro m c hm;by_cases Nn:m∈ns
    ·obtain⟨j,hj⟩:=adQ.1 Nn;have Y6:j < l'.length:=by rw [hlen,al1];exact(aaS.1 hj).1
     exact⟨_,by rw [bA,vv,if_pos (b7 hm)];exact wN ns l' H jQ Bs j m _ hj (aaN Y6)⟩
    ·exact⟨c,by rw [bA,vv,if_pos (b7 hm),nN ns l' H m Nn];exact hm⟩
   ·intro m hm vD;rw [bA,vv,if_pos hm,nN]
    ·exact vD
    ·intro Nn;obtain⟨j,hj⟩:=adQ.1 Nn;obtain⟨a,_,h2⟩:=al2 j m hj;rw [vD] at h2;cases h2
   ·rw [aaP,vv];omega
  ·cases hr
 ·cases hr
