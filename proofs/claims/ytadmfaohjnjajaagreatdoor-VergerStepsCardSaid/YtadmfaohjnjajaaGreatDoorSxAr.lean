import Derived.Test.YtadmfaohjnjajaaGreatDoorSxN
set_option linter.unusedVariables false
set_option linter.unusedSimpArgs false
set_option maxHeartbeats 0
set_option maxRecDepth 100000
namespace Go.Sx
section
structure AK (α:Type) where
 es:Nat
 I5:0 < es
 ty:TypeId
 bx:α->List Cell
 len:∀a,(bx a).length=es
 nm:∀a,∀c∈bx a,c.name=none
 iM:List Cell->Option α
 gy:∀cs a,iM cs=some a->aA Nm.id (bx a)=aA Nm.id cs /\ ∀c∈cs,c.name=none
 bR:α
namespace AK
variable {α:Type} (K:AK α)
def dC (l:List α):List Value:=l.flatMap fun a=>aA Nm.id (K.bx a)
theorem kJ (l:List α):(K.dC l).length=l.length * K.es:=by
 induction l with
 | nil=>simp [dC]
 | cons a l ih =>
   have h1:=K.len a
   simp only [dC,List.flatMap_cons,abl,bY,h1,abn] at ih ⊢
   rw [ih,aey,Nat.one_mul,Nat.add_comm]
theorem T4 (l:List α):∀v∈K.dC l,v.oneCell'=true:=by
 intro v hv
 obtain⟨a,_,h⟩:=List.mem_flatMap.1 hv
 obtain⟨c,_,rfl⟩:=adK.1 h
 exact zp _ c
theorem fy (l r:List α):K.dC (l++r)=K.dC l++K.dC r:=by simp [dC]
theorem zM (l:List α) (n:Nat):(K.dC l).take (n * K.es)=K.dC (l.take n):=by
 induction l generalizing n with
 | nil=>simp [dC]
 | cons a l ih =>
   cases n with
   | zero=>simp [dC]
   | succ n =>
     have h1:(aA Nm.id (K.bx a)).length=K.es:=by rw [bY,K.len a]
     simp only [dC,List.flatMap_cons,List.take_succ_cons] at ih ⊢
     rw [List.take_append,h1,aey,Nat.one_mul,Nat.add_sub_cancel,ih n,List.take_of_length_le (by omega)]
theorem zN (l:List α) (n:Nat):(K.dC l).drop (n * K.es)=K.dC (l.drop n):=by
 induction l generalizing n with
 | nil=>simp [dC]
 | cons a l ih =>
   cases n with
   | zero=>simp [dC]
   | succ n =>
     have h1:(aA Nm.id (K.bx a)).length=K.es:=by rw [bY,K.len a]
     simp only [dC,List.flatMap_cons,List.drop_succ_cons] at ih ⊢
     rw [List.drop_append,h1,aey,Nat.one_mul,Nat.add_sub_cancel,ih n,List.drop_of_length_le (by omega),acM]
theorem yj (l:List α) (i j:Nat) (hi:i < l.length) (hj:j < K.es):(K.dC l)[i * K.es+j]?=(aA Nm.id (K.bx (l.getD i K.bR)))[j]?:=by
 induction l generalizing i with
 | nil=>simp at hi
 | cons a l ih =>
   have h1:(aA Nm.id (K.bx a)).length=K.es:=by rw [bY,K.len a]
   have e:K.dC (a::l)=aA Nm.id (K.bx a)++K.dC l:=by simp [dC]
   rw [e]
   cases i with
   | zero=>simp [acQ (show j < (aA Nm.id (K.bx a)).length by omega)]
   | succ i =>
     rw [acR (by rw [h1,aey];omega),h1]
     have:=ih i (by simpa using hi)
     rw [show (i+1) * K.es+j - K.es=i * K.es+j by rw [aey];omega,this]
     simp
theorem T3 (l:List α) (i:Nat) (a:α) (hi:i < l.length):K.dC (l.set i a)=(K.dC l).take (i * K.es)++(aA Nm.id (K.bx a)++(K.dC l).drop (i * K.es+K.es)):=by
 rw [List.set_eq_take_append_cons_drop,if_pos hi,fy,zM]
 have e:i * K.es+K.es=(i+1) * K.es:=by rw [aey,Nat.one_mul]
 rw [e,zN]
 simp [dC]
def row (l:List α) (idx es:Nat):Option (Bool×List Cell):=match Nat.beq es K.es with
 | true=>some (decide (idx < l.length),K.bx (l.getD idx K.bR))
 | false=>none
def wz (l:List α) (idx es off:Nat) (cs:List Cell):Option (Bool×List α):=match Nat.beq es K.es with
 | false=>none
 | true=>match l6 (K.bx (l.getD idx K.bR)) off cs with
   | none=>none
   | some r=>match K.iM r with
     | some a=>some (decide (idx < l.length),l.set idx a)
     | none=>none
def fW (l:List α):Option (Nat×TypeId×List Value):=some (K.es,K.ty,K.dC l)
def q (l:List α) (lc:l8) (S:Nat->Prop) (w:World):Prop:=mM lc S (K.dC l) K.es K.ty w
def A6:Nat->List Cell->Option (List α)
 | 0,[]=>some []
 | 0,_::_=>none
 | n+1,cs=>match oq cs K.es with
   | none=>none
   | some r=>match K.iM r,A6 n (cs.drop K.es) with
     | some a,some l=>some (a::l)
     | _,_=>none
def JV (l:List α) (cs:List Cell):Option (List α):=match K.A6 (cs.length / K.es) cs with
 | some r=>some (l++r)
 | none=>none
theorem akM {l:List α} {lc:l8} {S:Nat->Prop} {w w':World} (h:∀k,S k->w'.heap[k]?=w.heap[k]?) (hq:K.q l lc S w):K.q l lc S w':=zL hq h
theorem VK {l:List α} {lc:l8} {S:Nat->Prop} {w:World} {k:Nat} (hq:K.q l lc S w) (hk:S k):k < w.heap.size:=by
 rcases hq with⟨_,_,h⟩ | ⟨_,h,row,h2,_⟩
 ·exact absurd hk (h k)
 ·rw [(h k).1 hk]
  exact(ad0.1 h2).1
theorem ud {l:List α} {idx es:Nat} {b:Bool} {cs:List Cell} (h:K.row l idx es=some (b,cs)):∀c∈cs,c.name=none:=by
 unfold row at h
 split at h
 ·cases h;exact K.nm _
 ·cases h
theorem xq {l:List α} {lc:l8} {S:Nat->Prop} {w:World} {idx es:Nat} {cs:List Cell} (hq:K.q l lc S w) (h:K.row l idx es=some (true,cs)) (j:Nat) (c:Cell) (hc:cs[j]?=some c):w.cell? ⟨lc.b,lc.o+idx * es+j,none⟩=some (c.aq Nm.id):=by
 unfold row at h
 split at h
 ·rename_i he
  have he:=(aC _ _).1 he
  subst he
  simp only [aaC,aaF,decide_eq_true_eq] at h
  obtain⟨hi,rfl⟩:=h
  have hj:j < K.es:=by
   have:=(abt.1 hc).1
   rw [K.len] at this;exact this
  have:=Cp hq (idx * K.es+j) (c.aq Nm.id) (by rw [K.yj l idx j hi hj];unfold aA;rw [aeR,hc];rfl)
  have e:(⟨lc.b,lc.o,none⟩:Addr).add (idx * K.es+j)=⟨lc.b,lc.o+idx * K.es+j,none⟩:=by
   unfold Addr.add
   by_cases h0:idx * K.es+j=0
   ·simp [h0];omega
   ·simp [aej]
  rw [<- e];exact this
 ·cases h
theorem Vm {l:List α} {lc:l8} {w:World} {idx es:Nat} {cs:List Cell} (hq:KW lc (K.dC l) K.es w) (h:K.row l idx es=some (true,cs)) (j:Nat) (c:Cell) (hc:cs[j]?=some c):w.cell? ⟨lc.b,lc.o+idx * es+j,none⟩=some (c.aq Nm.id):=by
 unfold row at h
 split at h
 ·rename_i he
  have he:=(aC _ _).1 he
  subst he
  simp only [aaC,aaF,decide_eq_true_eq] at h
  obtain⟨hi,rfl⟩:=h
  have hj:j < K.es:=by
   have:=(abt.1 hc).1
   rw [K.len] at this;exact this
  have:=hq.2 (idx * K.es+j) (c.aq Nm.id) (by rw [K.yj l idx j hi hj];unfold aA;rw [aeR,hc];rfl)
  have e:(⟨lc.b,lc.o,none⟩:Addr).add (idx * K.es+j)=⟨lc.b,lc.o+idx * K.es+j,none⟩:=by
   unfold Addr.add
   by_cases h0:idx * K.es+j=0
   ·simp [h0];omega
   ·simp [h0,aej]
  rw [<- e];exact this
 ·cases h
theorem vK:∀{l:List Cell} {off:Nat} {ys r:List Cell},l6 l off ys=some r->off+ys.length<=l.length /\ r=l.take off++(ys++l.drop (off+ys.length))
 | l,0,[],r,h=>by simp only [l6,aaC] at h;subst h;simp
 | [],0,y::ys,r,h=>by simp [l6] at h
 | x::l,0,y::ys,r,h=>by
   simp only [l6] at h
   split at h
   ·rename_i q hq
    cases h
    obtain⟨h1,h2⟩:=vK hq
    simp only [abJ,List.take_zero,acM] at h1 h2
    refine⟨by simp;omega,?_⟩
    simp [h2]
   ·cases h
 | [],n+1,ys,r,h=>by simp [l6] at h
 | x::l,n+1,ys,r,h=>by
   simp only [l6] at h
   split at h
   ·rename_i q hq
    cases h
    obtain⟨h1,h2⟩:=vK hq
    refine⟨by simp;omega,?_⟩
    rw [h2,show n+1+ys.length=(n+ys.length)+1 by omega]
    simp
   ·cases h
theorem ID {l:List α} {lc:l8} {S:Nat->Prop} {w:World} {idx off:Nat} {cs r:List Cell} {a:α} (hq:K.q l lc S w) (hi:idx < l.length) (hr:l6 (K.bx (l.getD idx K.bR)) off cs=some r) (d1:aA Nm.id (K.bx a)=aA Nm.id r) (tH:∀c∈cs,c.name=none):(∀c∈cs,c.name=none) /\ S lc.b /\ ∃(row:List Value) (ty:TypeId),w.heap[lc.b]?=some (.cells row.toArray ty (0,0)) /\ lc.o+idx * K.es+off+cs.length<=row.length /\
 K.q (l.set idx a) lc S (w.setRow lc.b (row.take (lc.o+idx * K.es+off)++(aA Nm.id cs++row.drop (lc.o+idx * K.es+off+cs.length))).toArray):=by
 obtain⟨p1,p2⟩:=vK hr
 rw [K.len] at p1
 rcases hq with⟨_,h0,_⟩ | ⟨hcp,hS,row,hrow,Zf,hll,bC⟩
 ·have:=congrArg List.length h0
  rw [K.kJ] at this
  rcases Nat.mul_eq_zero.1 this with h | h
  ·omega
  ·have:=K.I5;omega
 ·have Xf:=K.kJ l
  have hmul:(idx+1) * K.es<=l.length * K.es:=adN _ hi
  rw [aey,Nat.one_mul] at hmul
  have hfit:lc.o+idx * K.es+off+cs.length<=row.length:=by omega
  refine⟨tH,(hS _).2 rfl,row,K.ty,hrow,hfit,.inr ⟨hcp,hS,_,setRow_heap w lc.b _ _ K.ty (0,0) hrow,?_,?_,?_⟩⟩
  ·simp only [abl,agV,agW,bY]
   omega
  ·rw [K.kJ,agO,<- K.kJ];exact hll
  ·intro j v hv
   have e1:row.take (lc.o+idx * K.es+off)++(aA Nm.id cs++row.drop (lc.o+idx * K.es+off+cs.length))=row.take (lc.o+idx * K.es+off)++aA Nm.id cs++row.drop (lc.o+idx * K.es+off+(aA Nm.id cs).length):=by rw [bY,acC]
   rw [e1,yC (by rw [bY];exact hfit),bY]
   have AL:∀j,j < K.es->(aA Nm.id (K.bx a))[j]?=if j < off then(aA Nm.id (K.bx (l.getD idx K.bR)))[j]? else if j < off+cs.length then(aA Nm.id cs)[j - off]? else(aA Nm.id (K.bx (l.getD idx K.bR)))[j]?:=by
    intro j hj
    rw [d1,p2]
    have e2:aA Nm.id ((K.bx (l.getD idx K.bR)).take off++(cs++(K.bx (l.getD idx K.bR)).drop (off+cs.length)))=(aA Nm.id (K.bx (l.getD idx K.bR))).take off++aA Nm.id cs++(aA Nm.id (K.bx (l.getD idx K.bR))).drop (off+(aA Nm.id cs).length):=by
     rw [bY]
     simp [aA,List.map_take,List.map_drop]
    rw [e2,yC (by rw [bY,bY,K.len];exact p1),bY]
   rw [K.T3 l idx a hi] at hv
   have Jw:((K.dC l).take (idx * K.es)).length=idx * K.es:=by rw [agV];omega
   have Xv:(aA Nm.id (K.bx a)).length=K.es:=by rw [bY,K.len]
   by_cases c1:j < idx * K.es
   ·rw [acQ (by omega),aeG,if_pos c1] at hv
    rw [if_pos (by omega)]
    exact bC j v hv
   ·rw [acR (by omega),Jw] at hv
    by_cases c2:j - idx * K.es < K.es
    ·rw [acQ (by omega),AL _ c2] at hv
     have back:∀u,(aA Nm.id (K.bx (l.getD idx K.bR)))[j - idx * K.es]?=some u->row[lc.o+j]?=some u:=fun u hu=>by
      have:=K.yj l idx (j - idx * K.es) hi c2
      rw [show idx * K.es+(j - idx * K.es)=j by omega] at this
      exact bC j u (by rw [this];exact hu)
     by_cases c3:j - idx * K.es < off
     ·rw [if_pos c3] at hv
      rw [if_pos (by omega)]
      exact back v hv
     ·rw [if_neg c3] at hv
      rw [if_neg (by omega)]
      by_cases c4:j - idx * K.es < off+cs.length
      ·rw [if_pos c4] at hv
       rw [if_pos (by omega),<- hv]
       congr 1
       omega
      ·rw [if_neg c4] at hv
       rw [if_neg (by omega)]
       exact back v hv
    ·rw [acR (by omega),Xv,af2] at hv
     rw [if_neg (by omega),if_neg (by omega)]
     refine bC j v ?_
     rw [<- hv]
     congr 1
     omega
theorem mY {l l':List α} {lc:l8} {S:Nat->Prop} {w:World} {idx es off:Nat} {cs:List Cell} (hq:K.q l lc S w) (h:K.wz l idx es off cs=some (true,l')):(∀c∈cs,c.name=none) /\ S lc.b /\ ∃(row:List Value) (ty:TypeId),w.heap[lc.b]?=some (.cells row.toArray ty (0,0)) /\ lc.o+idx * es+off+cs.length<=row.length /\
 K.q l' lc S (w.setRow lc.b (row.take (lc.o+idx * es+off)++(aA Nm.id cs++row.drop (lc.o+idx * es+off+cs.length))).toArray):=by
 unfold wz at h
 split at h
 ·cases h
 ·rename_i he
  have he:=(aC _ _).1 he
  subst he
  split at h
  ·cases h
  ·rename_i r hr
   split at h
   ·rename_i a ha
    simp only [aaC,aaF,decide_eq_true_eq] at h
    obtain⟨hi,rfl⟩:=h
    obtain⟨d1,d2⟩:=K.gy r a ha
    exact K.ID hq hi hr d1 fun c hc=>d2 c (by rw [(vK hr).2];simp [hc])
   ·cases h
theorem zr:∀{n:Nat} {cs:List Cell} {l:List α},K.A6 n cs=some l->K.dC l=aA Nm.id cs /\ ∀c∈cs,c.name=none
 | 0,[],l,h=>by simp only [A6,aaC] at h;subst h;simp [dC,aA]
 | 0,_::_,l,h=>by simp [A6] at h
 | n+1,cs,l,h=>by
   simp only [A6] at h
   split at h
   ·cases h
   ·rename_i r hr
    split at h
    ·rename_i a l' ha hl
     cases h
     obtain⟨d1,d2⟩:=K.gy r a ha
     obtain⟨q1,q2⟩:=zr hl
     have Zf:=xB hr
     have hle:=D3 hr
     have er:r=cs.take K.es:=by
      apply List.ext_getElem?
      intro j
      rw [aeG]
      by_cases hj:j < K.es
      ·rw [if_pos hj]
       have hjr:j < r.length:=by rw [Zf.1];exact hj
       have:=Zf.2 j r[j] (abj hjr)
       rw [this,abj hjr]
      ·rw [if_neg hj,List.getElem?_eq_none (by rw [Zf.1];omega)]
     have ecs:cs=r++cs.drop K.es:=by rw [er,agU]
     refine⟨?_,fun c hc=>?_⟩
     ·have:K.dC (a::l')=aA Nm.id (K.bx a)++K.dC l':=by simp [dC]
      rw [this,d1,q1]
      conv=>rhs;rw [ecs]
      simp [aA]
     ·rw [ecs] at hc
      rcases aec.1 hc with h | h
      ·exact d2 c h
      ·exact q2 c h
    ·cases h
theorem nJ {l l':List α} {cs:List Cell} (h:K.JV l cs=some l'):(∀x∈cs,x.name=none) /\ K.dC l'=K.dC l++aA Nm.id cs:=by
 unfold JV at h
 split at h
 ·rename_i r hr
  cases h
  obtain⟨h1,h2⟩:=K.zr hr
  exact⟨h2,by rw [K.fy,h1]⟩
 ·cases h
theorem nI (l:List α) (i j:Nat):K.dC ((l.take j).drop i)=((K.dC l).take (j * K.es)).drop (i * K.es):=by
 rw [K.zM,K.zN]
end AK
end
section
variable {AV:Type} {P:Program} {N:dV AV}
def Gd (F:iL AV):dV AV:={tt:=.lf,ft:=.lf,gu:=.lf,G:=0,F:=F}
theorem V3 {K:Hp AV} {l:l8} {S:Nat->Prop} {w w':World} (hk:∀k,S k->w'.heap[k]?=w.heap[k]?) (h:nu N K l S w):nu N K l S w':=by
 obtain⟨ρ,h1,h2,h3⟩:=h
 exact⟨ρ,h1,⟨fun n c hc=>oF (h2.q n c hc) rfl rfl rfl fun k hf=>hk k ((h3 k).2 ⟨n,c,hc,hf⟩),h2.qz⟩,h3⟩
theorem VK {ρ:Nm} {n:Nat} {c:aG AV} {w:World} (h:c.q N ρ n w) {k:Nat} (hk:c.fp ρ n k):k < w.heap.size:=by
 cases c with
 | cells l ty =>
   have hk:k=ρ n:=hk
   have h:w.heap[ρ n]?=some _:=h
   rw [hk]
   exact(ad0.1 h).1
 | kD l es ty =>
   have hk:ρ.S n k:=hk
   rcases h with⟨_,_,h⟩ | ⟨_,h,row,h2,_⟩
   ·exact absurd hk (h k)
   ·rw [(h k).1 hk]
    exact(ad0.1 h2).1
 | j8=>exact hk.elim
 | bI a=>exact N.F.dom a _ _ w k h hk
theorem V4 {K:Hp AV} {l:l8} {S:Nat->Prop} {w:World} {k:Nat} (h:nu N K l S w) (hk:S k):k < w.heap.size:=by
 obtain⟨ρ,h1,h2,h3⟩:=h
 obtain⟨i,c,hc,hf⟩:=(h3 k).1 hk
 exact VK (h2.q i c hc) hf
structure FC (F:iL AV) (lay:AV->Option (Hp AV)):Prop where
 fW:∀a x,F.fW a=some x->lay a=none
 row:∀a i e x,F.row a i e=some x->lay a=none
 J3:∀a i e o n x,F.J3 a i e o n=some x->lay a=none
 wz:∀a i e o cs b a',F.wz a i e o cs=some (b,a')->lay a=none /\ lay a'=none
 word:∀a cs,F.word a=some cs->lay a=none
 mp:∀a x,F.mp a=some x->lay a=none:=by intro a x h;cases h
def ux (F:iL AV) (lay:AV->Option (Hp AV)) (a:AV) (l:l8) (S:Nat->Prop) (w:World):Prop:=match lay a with
 | none=>F.q a l S w
 | some K=>nu (Gd F) K l S w
theorem fF {F:iL AV} {lay:AV->Option (Hp AV)} {a:AV} (h:lay a=none) (l:l8) (S:Nat->Prop) (w:World):ux F lay a l S w↔F.q a l S w:=by
 unfold ux;rw [h]
def iL.NX (F:iL AV) (lay:AV->Option (Hp AV)) (h:FC F lay):iL AV where
 q:=ux F lay
 loc:=fun a l S w w' hk hq=>by
  unfold ux at hq ⊢
  split at hq
  ·exact F.loc a l S w w' hk hq
  ·exact V3 hk hq
 dom:=fun a l S w k hq hk=>by
  unfold ux at hq
  split at hq
  ·exact F.dom a l S w k hq hk
  ·exact V4 hq hk
 row:=F.row
 ud:=F.ud
 R:=F.R
 xq:=fun a l S w idx es cs hR hq hr=>F.xq a l S w idx es cs hR ((fF (h.row a idx es _ hr) l S w).1 hq) hr
 J3:=F.J3
 Aa:=F.Aa
 I4:=fun a l S w i e o n cs hR hq hp=>F.I4 a l S w i e o n cs hR ((fF (h.J3 a i e o n _ hp) l S w).1 hq) hp
 wz:=F.wz
 mY:=fun a l S w idx es off cs a' hq hu=>by
  obtain⟨h1,h2⟩:=h.wz a idx es off cs true a' hu
  obtain⟨g1,g2,row,ty,g3,g4,g5⟩:=F.mY a l S w idx es off cs a' ((fF h1 l S w).1 hq) hu
  exact⟨g1,g2,row,ty,g3,g4,(fF h2 l S _).2 g5⟩
 word:=F.word
 vp:=F.vp
 Ck:=fun a l S w cs hq hw=>F.Ck a l S w cs ((fF (h.word a cs hw) l S w).1 hq) hw
 wB:=F.wB
 rZ:=F.rZ
 fW:=F.fW
 mJ:=fun a es ty vs ha=>⟨(F.mJ a es ty vs ha).1,fun l S w=>(fF (h.fW a _ ha) l S w).trans ((F.mJ a es ty vs ha).2 l S w)⟩
 rq:=fun a=>match lay a with
  | none=>F.rq a
  | some _=>none
 Dl:=fun a b es ty vs hs hb l S w hR hq=>by
  split at hs
  ·rename_i h1
   exact F.Dl a b es ty vs hs hb l S w hR ((fF h1 l S w).1 hq)
  ·cases hs
 len:=F.len
 qJ:=F.qJ
 cat:=F.cat
 JS:=F.JS
 JV:=F.JV
 nJ:=F.nJ
 cut:=F.cut
 nI:=F.nI
 Zq:=F.Zq
 zK:=F.zK
 txt:=F.txt
 T6:=F.T6
 mp:=F.mp
 af9:=fun a ks ag es hm=>⟨(F.af9 a ks ag es hm).1,fun l S w=>(fF (h.mp a _ hm) l S w).trans ((F.af9 a ks ag es hm).2 l S w)⟩
 aga:=F.aga
 PY:=F.PY
 Ws:=F.Ws
 Li:=F.Li
 af8:=F.af8
 PX:=F.PX
 agf:=F.agf
 P3:=F.P3
 agb:=F.agb
 PZ:=F.PZ
theorem GR {N N':dV AV} {K:Hp AV} (hq:∀i a,ae K i=some (.bI a)->∀l S w,N.F.q a l S w->N'.F.q a l S w) {l:l8} {S:Nat->Prop} {w:World} (h:nu N K l S w):nu N' K l S w:=by
 obtain⟨ρ,h1,h2,h3⟩:=h
 refine⟨ρ,h1,⟨fun n c hc=>?_,h2.qz⟩,h3⟩
 have:=h2.q n c hc
 cases c with
 | cells l ty=>exact this
 | kD l es ty=>exact this
 | j8=>exact this
 | bI a=>exact hq n a hc _ _ _ this
end
section
variable {AV:Type} {P:Program} {N:dV AV}
def MU (N:dV AV) (H H1:Hp AV):Prop:=∀(ρ:Nm) (w:World),eZ N ρ H w->∃ρ1,eZ N ρ1 H1 w /\ (∀m,m < H.length->ρ1.L m=ρ.L m) /\ ∀m d k,ae H1 m=some d->d.fp ρ1 m k->∃m' d',ae H m'=some d' /\ d'.fp ρ m' k
def Fld (N:dV AV) (H R:Hp AV):Prop:=∀(ρ:Nm) (w:World),eZ N ρ H w->∃ρ1,eZ N ρ1 R w /\ (∀m c,ae H m=some c->ρ1.L m=ρ.L m) /\ ∀m d k,ae R m=some d->d.fp ρ1 m k->∃m' d',ae H m'=some d' /\ d'.fp ρ m' k
theorem MU.refl (H:Hp AV):MU N H H:=fun ρ _ h=>⟨ρ,h,fun _ _=>rfl,fun m d k h h'=>⟨m,d,h,h'⟩⟩
theorem Fld.refl (H:Hp AV):Fld N H H:=fun ρ _ h=>⟨ρ,h,fun _ _ _=>rfl,fun m d k h h'=>⟨m,d,h,h'⟩⟩
theorem MU.trans {A B C:Hp AV} (h1:MU N A B) (h2:MU N B C) (hl:A.length<=B.length):MU N A C:=fun ρ w h=>by
 obtain⟨ρ1,o1,l1,f1⟩:=h1 ρ w h
 obtain⟨ρ2,o2,l2,f2⟩:=h2 ρ1 w o1
 refine⟨ρ2,o2,fun m hm=>(l2 m (by omega)).trans (l1 m hm),fun m d k hd hk=>?_⟩
 obtain⟨m',d',AR,dW⟩:=f2 m d k hd hk
 exact f1 m' d' k AR dW
theorem Fld.trans {A B C:Hp AV} (h1:Fld N A B) (h2:Fld N B C) (hp':∀m c,ae A m=some c->∃c',ae B m=some c'):Fld N A C:=fun ρ w h=>by
 obtain⟨ρ1,o1,l1,f1⟩:=h1 ρ w h
 obtain⟨ρ2,o2,l2,f2⟩:=h2 ρ1 w o1
 refine⟨ρ2,o2,fun m c hm=>?_,fun m d k hd hk=>?_⟩
 ·obtain⟨c',nC⟩:=hp' m c hm
  exact(l2 m c' nC).trans (l1 m c hm)
 ·obtain⟨m',d',AR,dW⟩:=f2 m d k hd hk
  exact f1 m' d' k AR dW
theorem DH {H K:Hp AV} (hC:dM N H) {n:Nat} {a:AV} (hn:ae H n=some (.bI a)) (Qp:∃c,ae K 0=some c) (hGn:N.G<=n) (hq:∀l S w,N.F.q a l S w->nu N K l S w):MU N H (pG H n K):=fun ρ w hO=>by
 have du:=bQ hn
 have hKn:K≠[]:=by rintro rfl;obtain⟨c,hc⟩:=Qp;cases hc
 obtain⟨ρ1,o1,eL,eS,hS⟩:=VT hO hC hn Qp hGn hq
 refine⟨ρ1,o1,eL,fun m d k hd hk=>?_⟩
 rcases K6 (H:=H) (K:=K) du hKn m d hd with⟨h1,h2,h3⟩ | ⟨i,d',rfl,h3,rfl⟩
 ·rw [cQ (eL m h2) (eS m h2 h1)] at hk
  exact⟨m,d,h3,hk⟩
 ·exact⟨n,_,hn,(hS k).2 ⟨i,d',h3,hk⟩⟩
def iP (ρ:Nm) (H:Hp AV) (n:Nat) (ns:List Nat) (k:Nat):Prop:=∃m d,(m=n \/ m∈ns) /\ ae H m=some d /\ d.fp ρ m k
def td (n:Nat) (ns:List Nat) (a:AV):Nat->Hp AV->Hp AV
 | _,[]=>[]
 | i,x::r=>(match Nat.beq i n with | true=>some (.bI a) | false=>match nD ns i with | true=>none | false=>x)::td n ns a (i+1) r
theorem L8 (n:Nat) (ns:List Nat) (a:AV):∀(H:Hp AV) (i m:Nat),ae (td n ns a i H) m=if m < H.length then(if i+m=n then some (.bI a) else if i+m∈ns then none else ae H m) else none
 | [],i,m=>by cases m<;>simp [td,ae]
 | x::r,i,0=>by
   simp only [td,ae,abn,Nat.zero_lt_succ,if_true,Nat.add_zero]
   cases h:Nat.beq i n with
   | true=>rw [if_pos ((aC _ _).1 h)]
   | false =>
     rw [if_neg ((bE _ _).1 h)]
     cases h':nD ns i with
     | true=>rw [if_pos ((gw _ _).1 h')]
     | false=>rw [if_neg (fun e=>by rw [(gw _ _).2 e] at h';cases h')]
 | x::r,i,m+1=>by
   simp only [td,ae,abn,L8 n ns a r (i+1) m,Nat.add_lt_add_iff_right]
   rw [show i+1+m=i+(m+1) by omega]
theorem uR {n:Nat} {ns:List Nat} {a:AV} {H:Hp AV} {m:Nat} {c:aG AV} (h:ae (td n ns a 0 H) m=some c):(m=n /\ c=.bI a) \/ (m≠n /\ m ∉ ns /\ ae H m=some c):=by
 rw [L8] at h
 split at h
 ·rw [abJ] at h
  split at h
  ·rename_i e;cases h;exact .inl ⟨e,rfl⟩
  ·rename_i e
   split at h
   ·cases h
   ·rename_i e';exact .inr ⟨e,e',h⟩
 ·cases h
theorem ab7 {f:FuncId} {args:List SV} {H H1 H2 R:Hp AV} {v:SV} (ho:MU N H H1) (h01:∀m c,ae H m=some c->∃c',ae H1 m=some c') (hc:qT P N f args H1 v H2) (hf:Fld N H2 R) (bM:∀x∈args,fh H x)
 (hv:fh R v) (hR:dM N R) (dw:∀m c,ae H m=some c->∃c',ae R m=some c') (GY:∀m,m < H.length->ae H m=none->ae R m=none) (len:H.length<=R.length):qT P N f args H v R:=by
 obtain⟨hv2,_,LW⟩:=hc
 refine⟨hv,hR,fun ρ w hO=>?_⟩
 obtain⟨ρ1,o1,l1,f1⟩:=ho ρ w hO
 have On:args.map (SV.aq ρ1)=args.map (SV.aq ρ):=ad7 fun x hx=>SV.b4 (bM x hx) fun m c h=>l1 m (bQ h)
 rw [<- On]
 refine(LW ρ1 w o1).mono ?_
 rintro e w' ⟨ρ2,rfl,o2,hE⟩
 obtain⟨ρ3,o3,l3,f3⟩:=hf ρ2 w' o2
 refine⟨ρ3,?_,o3,⟨dw,fun m c h=>?_,GY,len,fun k hk tC=>?_,fun m c k h hk=>?_,hE.os,hE.tape,hE.output,hE.size⟩⟩
 ·congr 1
  exact(SV.b4 hv2 fun m c h=>l3 m c h).symm
 ·obtain⟨c1,h1⟩:=h01 m c h
  obtain⟨c2,h2⟩:=hE.dw m c1 h1
  rw [l3 m c2 h2,hE.jV m c1 h1,l1 m (bQ h)]
 ·refine hE.mE k hk fun m d hd dW=>?_
  obtain⟨m',d',h1,h2⟩:=f1 m d k hd dW
  exact tC m' d' h1 h2
 ·obtain⟨m',d',h1,h2⟩:=f3 m c k h hk
  rcases hE.new m' d' k h1 h2 with h3 | ⟨m'',d'',h3,h4⟩
  ·exact .inl h3
  ·exact .inr (f1 m'' d'' k h3 h4)
theorem jg {f:FuncId} {args Fh:List SV} {H R:Hp AV} {v:SV} (hc:qT P N f args H v R) (h:∀ρ,Fh.map (SV.aq ρ)=args.map (SV.aq ρ)):qT P N f Fh H v R :=
 ⟨hc.1,hc.2.1,fun ρ w hO=>by rw [h ρ];exact hc.2.2 ρ w hO⟩
theorem sJ {f:FuncId} {args:List SV} {H R:Hp AV} {v v':SV} (hc:qT P N f args H v R) (hcl:fh R v') (h:∀ρ,v'.aq ρ=v.aq ρ):qT P N f args H v' R :=
 ⟨hcl,hc.2.1,fun ρ w hO=>(hc.2.2 ρ w hO).mono fun e w' ⟨ρ',he,h1,h2⟩=>⟨ρ',by rw [h ρ'];exact he,h1,h2⟩⟩
end
section
variable {AV:Type} {P:Program} {N:dV AV}
theorem Cw (π σ:Nat->Nat):∀c:Cell,(c.cN σ).cN π=c.cN (fun n=>π (σ n))
 | .wZ t c=>by simp only [Cell.cN];rw [Cw π σ c]
 | .ptr _ _=>rfl
 | .CV _ _ _ _=>rfl
 | .sl _ _ _ _=>rfl
 | .vs _ _ _ _ _=>rfl
 | .sf _ _ _ _ _ _=>rfl
 | .bl _=>rfl
 | .bt _=>rfl
 | .il _ _=>rfl
 | .it _ _=>rfl
 | .iv _ _ _ _=>rfl
 | .ir _ _ _ _ _=>rfl
 | .st _=>rfl
 | .sv _=>rfl
 | .iK=>rfl
 | .dq=>rfl
 | .sx _ _=>rfl
 | .fL=>rfl
 | .fn _=>rfl
 | .Zd=>rfl
 | .op _ _=>rfl
 | .mp none=>rfl
 | .mp (some _)=>rfl
theorem IW {π:Nat->Nat}:∀c:Cell,(∀n,c.name=some n->π n=n)->c.cN π=c
 | .wZ t c,h=>by simp only [Cell.cN];rw [IW c h]
 | .ptr n _,h=>by simp only [Cell.cN];rw [h n rfl]
 | .CV n _ _ _,h=>by simp only [Cell.cN];rw [h n rfl]
 | .sl n _ _ _,h=>by simp only [Cell.cN];rw [h n rfl]
 | .vs n _ _ _ _,h=>by simp only [Cell.cN];rw [h n rfl]
 | .sf n _ _ _ _ _,h=>by simp only [Cell.cN];rw [h n rfl]
 | .bl _,h=>rfl
 | .bt _,h=>rfl
 | .il _ _,h=>rfl
 | .it _ _,h=>rfl
 | .iv _ _ _ _,h=>rfl
 | .ir _ _ _ _ _,h=>rfl
 | .st _,h=>rfl
 | .sv _,h=>rfl
 | .iK,h=>rfl
 | .dq,h=>rfl
 | .sx _ _,h=>rfl
 | .fL,h=>rfl
 | .fn _,h=>rfl
 | .Zd,h=>rfl
 | .op _ _,h=>rfl
 | .mp none,h=>rfl
 | .mp (some n),h=>by simp only [Cell.cN,Option.map_some];rw [h n rfl]
theorem yX {l:List Cell} {n:Nat}:n∈eG l↔∃c∈l,c.name=some n:=by
 induction l with
 | nil=>simp [eG]
 | cons c r ih =>
   simp only [eG]
   cases h:c.name with
   | none=>simp [ih,h]
   | some m=>simp [ih,h,eq_comm]
theorem zO {π σ:Nat->Nat} {x:V1} (h:∀n∈eG x.cells,π (σ n)=n):(x.cN σ).cN π=x:=by
 have one:∀l:List Cell,(∀n∈eG l,π (σ n)=n)->(l.map (Cell.cN σ)).map (Cell.cN π)=l:=fun l hl=>by
  rw [List.map_map]
  conv=>rhs;rw [<- List.map_id l]
  refine ad7 fun c hc=>?_
  show (c.cN σ).cN π=c
  rw [Cw]
  exact IW c fun n hn=>hl n (yX.2 ⟨c,hc,hn⟩)
 cases x with
 | c c =>
   show V1.c ((c.cN σ).cN π)=_
   rw [Cw,IW c fun n hn=>h n (yX.2 ⟨c,aez.2 rfl,hn⟩)]
 | agg l=>exact congrArg V1.agg (one l h)
theorem sA {l:List V1} {n:Nat}:n∈uD l↔∃x∈l,n∈eG x.cells:=by
 induction l with
 | nil=>simp [uD]
 | cons x r ih=>simp [uD,ih]
theorem zQ {π σ:Nat->Nat} {x:SV} (h:∀n∈mu x,π (σ n)=n):(x.cN σ).cN π=x:=by
 cases x with
 | v x=>exact congrArg SV.v (zO h)
 | wJ f l =>
   refine congrArg (SV.wJ f) ?_
   rw [List.map_map]
   conv=>rhs;rw [<- List.map_id l]
   refine ad7 fun c hc=>?_
   show (c.cN σ).cN π=c
   rw [Cw]
   exact IW c fun n hn=>h n (yX.2 ⟨c,hc,hn⟩)
 | ji l =>
   refine congrArg SV.ji ?_
   rw [List.map_map]
   conv=>rhs;rw [<- List.map_id l]
   exact ad7 fun x hx=>zO fun n hn=>h n (sA.2 ⟨x,hx,hn⟩)
 | lE=>rfl
theorem qq {l:List SV} {n:Nat}:n∈iw l↔∃x∈l,n∈mu x:=by
 induction l with
 | nil=>simp [iw]
 | cons x r ih=>simp [iw,ih]
def CZ:List Nat->List Nat->List Nat
 | acc,[]=>acc
 | acc,x::r=>match nD acc x with | true=>CZ acc r | false=>CZ (acc++[x]) r
theorem q8:∀(l acc:List Nat),acc.Nodup->(CZ acc l).Nodup /\ ∀n,n∈CZ acc l↔n∈acc \/ n∈l
 | [],acc,h=>⟨h,fun n=>by simp [CZ]⟩
 | x::r,acc,h=>by
   simp only [CZ]
   split
   ·rename_i hx
    have hx:=(gw _ _).1 hx
    obtain⟨h1,h2⟩:=q8 r acc h
    refine⟨h1,fun n=>?_⟩
    rw [h2,abk]
    constructor
    ·rintro (h | h)
     ·exact .inl h
     ·exact .inr (.inr h)
    ·rintro (h | rfl | h)
     ·exact .inl h
     ·exact .inl hx
     ·exact .inr h
   ·rename_i hx
    have hx:x ∉ acc:=fun e=>by rw [(gw _ _).2 e] at hx;cases hx
    obtain⟨h1,h2⟩:=q8 r (acc++[x]) (by
     rw [agd]
     refine⟨h,by simp,?_⟩
     intro a ha b hb e
     rw [aez.1 hb] at e
     exact hx (e▸ha))
    refine⟨h1,fun n=>?_⟩
    rw [h2]
    simp [or_assoc]
def qk:List Nat->Nat->Nat
 | [],_=>0
 | x::r,n=>match Nat.beq x n with | true=>0 | false=>qk r n+1
theorem rO:∀{l:List Nat} {n:Nat},n∈l->l[qk l n]?=some n
 | [],n,h=>by cases h
 | x::r,n,h=>by
   simp only [qk]
   cases e:Nat.beq x n with
   | true=>simp [(aC _ _).1 e]
   | false =>
     have:=(bE _ _).1 e
     simp only [aex]
     rcases abk.1 h with rfl | h
     ·exact absurd rfl this
     ·exact rO h
theorem Ak:∀{l:List Nat},l.Nodup->∀{i j n:Nat},l[i]?=some n->l[j]?=some n->i=j
 | [],_,i,j,n,h,_=>by simp at h
 | x::r,hd,i,j,n,h1,h2=>by
   obtain⟨hx,hr⟩:=aem.1 hd
   cases i with
   | zero =>
     simp only [aeC,aaC] at h1
     subst h1
     cases j with
     | zero=>rfl
     | succ j=>exact absurd (ab8 (by simpa using h2)) hx
   | succ i =>
     simp only [aex] at h1
     cases j with
     | zero =>
       simp only [aeC,aaC] at h2
       subst h2
       exact absurd (ab8 h1) hx
     | succ j=>exact congrArg (·+1) (Ak hr h1 (by simpa using h2))
def Fw (H:Hp AV):List Nat->Option (List AV)
 | []=>some []
 | n::r=>match ae H n with
   | some (.bI a)=>match Fw H r with | some l=>some (a::l) | none=>none
   | _=>none
theorem BW {H:Hp AV}:∀{ns:List Nat} {l:List AV},Fw H ns=some l->l.length=ns.length /\ ∀(i n:Nat),ns[i]?=some n->∃a:AV,l[i]?=some a /\ ae H n=some (.bI a)
 | [],l,h=>by simp only [Fw,aaC] at h;subst h;exact⟨rfl,fun i n h=>by simp at h⟩
 | n::r,l,h=>by
   simp only [Fw] at h
   split at h
   ·rename_i a ha
    split at h
    ·rename_i l' hl
     cases h
     obtain⟨h1,h2⟩:=BW hl
     refine⟨congrArg (·+1) h1,fun i m hm=>?_⟩
     cases i with
     | zero=>cases hm;exact⟨a,rfl,ha⟩
     | succ i=>exact h2 i m hm
    ·cases h
   ·cases h
def cS (sn:Nat->AV):Nat->List Bool->Hp AV
 | _,[]=>[]
 | i,b::r=>(match b with | true=>some (.bI (sn i)) | false=>none)::cS sn (i+1) r
theorem gg (sn:Nat->AV):∀(M:List Bool) (i:Nat),(cS sn i M).length=M.length
 | [],i=>rfl
 | b::r,i=>congrArg (·+1) (gg sn r (i+1))
theorem m5 (sn:Nat->AV):∀(M:List Bool) (i n:Nat) (c:aG AV),ae (cS sn i M) n=some c↔M[n]?=some true /\ c=.bI (sn (i+n))
 | [],i,n,c=>by cases n<;>simp [cS,ae]
 | b::r,i,0,c=>by cases b<;>simp [cS,ae,eq_comm]
 | b::r,i,n+1,c=>by
   simp only [cS,ae,aex]
   rw [m5 sn r (i+1) n c,show i+1+n=i+(n+1) by omega]
def eN (l:List AV):Hp AV:=l.map fun a=>some (.bI a)
theorem dx (l:List AV) (n:Nat) (c:aG AV):ae (eN l) n=some c↔∃a,l[n]?=some a /\ c=.bI a:=by
 induction l generalizing n with
 | nil=>cases n<;>simp [eN,ae]
 | cons a r ih =>
   cases n with
   | zero=>simp [eN,ae,eq_comm]
   | succ n=>exact ih n
theorem vd (l:List AV):(eN l).length=l.length:=by simp [eN]
def sE (cJ:AV->Nat->Bool):Nat->List Bool->Hp AV->Bool
 | _,[],_=>true
 | i,b::m,x::r=>match b with
   | false=>sE cJ (i+1) m r
   | true=>match x with
     | some (.bI a)=>match cJ a i with | true=>sE cJ (i+1) m r | false=>false
     | _=>false
 | _,_::_,[]=>false
theorem uQ {cJ:AV->Nat->Bool} {sn:Nat->AV} (hs:∀a i,cJ a i=true->a=sn i):∀{M:List Bool} {i:Nat} {H:Hp AV},sE cJ i M H=true->M.length<=H.length /\ ∀n,M[n]?=some true->ae H n=some (.bI (sn (i+n)))
 | [],i,H,h=>⟨by simp,fun n h=>by simp at h⟩
 | b::m,i,[],h=>by simp [sE] at h
 | b::m,i,x::r,h=>by
   have go:∀(h':sE cJ (i+1) m r=true) (h0:b=true->x=some (.bI (sn i))),(b::m).length<=(x::r).length /\ ∀n,(b::m)[n]?=some true->ae (x::r) n=some (.bI (sn (i+n))):=fun h' h0=>by
    obtain⟨h1,h2⟩:=uQ hs h'
    refine⟨by simpa using h1,fun n hn=>?_⟩
    cases n with
    | zero =>
      simp only [aeC,aaC] at hn
      exact h0 hn
    | succ n =>
      simp only [aex] at hn
      have:=h2 n hn
      rw [show i+1+n=i+(n+1) by omega] at this
      exact this
   cases b with
   | false=>exact go (by simpa [sE] using h) (fun e=>by cases e)
   | true =>
     simp only [sE] at h
     split at h
     ·split at h
      ·rename_i ha
       exact go h (fun _=>by rw [hs _ i ha])
      ·cases h
     ·cases h
def pE:List Nat->List AV->Hp AV->Hp AV
 | n::r,a::l,H=>pE r l (cV H n (some (.bI a)))
 | _,_,H=>H
theorem DB:∀(ns:List Nat) (l:List AV) (H:Hp AV),(pE ns l H).length=H.length
 | [],l,H=>by cases l<;>rfl
 | n::r,[],H=>rfl
 | n::r,a::l,H=>by
   show (pE r l (cV H n (some (.bI a)))).length=_
   rw [DB r l,ec]
theorem ng:∀(ns:List Nat) (l:List AV) (H:Hp AV) (m:Nat),m ∉ ns->ae (pE ns l H) m=ae H m
 | [],l,H,m,h=>by cases l<;>rfl
 | n::r,[],H,m,h=>rfl
 | n::r,a::l,H,m,h=>by
   show ae (pE r l (cV H n (some (.bI a)))) m=_
   rw [ng r l _ m (fun e=>h (aby _ e)),bp _ (fun e=>h (by rw [e];exact abw))]
theorem vH:∀(ns:List Nat) (l:List AV) (H:Hp AV),ns.Nodup->(∀n∈ns,n < H.length)->∀(i n:Nat) (a:AV),ns[i]?=some n->l[i]?=some a->ae (pE ns l H) n=some (.bI a)
 | [],l,H,h,hl,i,n,a,h1,h2=>by simp at h1
 | n::r,[],H,h,hl,i,m,a,h1,h2=>by simp at h2
 | n::r,b::l,H,h,hl,i,m,a,h1,h2=>by
   show ae (pE r l (cV H n (some (.bI b)))) m=_
   obtain⟨hn,hr⟩:=aem.1 h
   cases i with
   | zero =>
     simp only [aeC,aaC] at h1 h2
     subst h1 h2
     rw [ng r l _ _ hn,cg _ (hl _ abw)]
   | succ i =>
     simp only [aex] at h1 h2
     exact vH r l _ hr (fun x hx=>by rw [ec];exact hl x (aby _ hx)) i m a h1 h2
def ML (G:Nat):List Nat->Bool
 | []=>true
 | n::r=>match Nat.ble G n with | true=>ML G r | false=>false
theorem ya {G:Nat}:∀{l:List Nat},ML G l=true->∀n∈l,G<=n
 | [],_,n,h=>by cases h
 | x::r,h,n,hn=>by
   simp only [ML] at h
   split at h
   ·rename_i hx
    rcases abk.1 hn with rfl | hn
    ·exact adI hx
    ·exact ya h n hn
   ·cases h
def B5 (G:Nat) (ns:List Nat) (L i:Nat):Nat:=match Nat.blt i G with
 | true=>i
 | false=>match yc ns (i - G) with
   | some n=>n
   | none=>L+(i - G - ns.length)
theorem PN {G:Nat} {ns:List Nat} {L i:Nat} (h:i < G):B5 G ns L i=i:=by
 unfold B5
 have e:Nat.blt i G=true:=by simpa [Nat.blt_eq] using h
 rw [e]
theorem oZ {G:Nat} {ns:List Nat} {L j n:Nat} (h:ns[j]?=some n):B5 G ns L (G+j)=n:=by
 unfold B5
 have e:Nat.blt (G+j) G=false:=by
  cases e:Nat.blt (G+j) G with
  | false=>rfl
  | true=>rw [Nat.blt_eq] at e;omega
 rw [e,aeu,nth_eq,h]
theorem yL {G:Nat} {ns:List Nat} {L j:Nat}:B5 G ns L (G+ns.length+j)=L+j:=by
 unfold B5
 have e:Nat.blt (G+ns.length+j) G=false:=by
  cases e:Nat.blt (G+ns.length+j) G with
  | false=>rfl
  | true=>rw [Nat.blt_eq] at e;omega
 have e2:yc ns (G+ns.length+j - G)=none:=by
  rw [nth_eq,List.getElem?_eq_none];omega
 rw [e]
 simp only [e2]
 omega
def bP (cJ:AV->Nat->Bool) (M:List Bool) (tree:List SV->List AV->T (SV×List AV×List AV)) (args:List SV) (H:Hp AV):T (SV×Hp AV) :=
 match sE cJ 0 M H with
 | false=>.fail "summary: variables"
 | true=>match CZ [] (iw args) with
   | ns=>match Fw H ns,ML M.length ns with
     | some l,true=>(tree (args.map (SV.cN fun n=>M.length+qk ns n)) l).bind fun r=>match Nat.beq r.2.1.length l.length with
       | true=>.aE (r.1.cN (B5 M.length ns H.length),pE ns r.2.1 H++eN r.2.2)
       | false=>.fail "summary: objects"
     | _,_=>.fail "summary: objects"
theorem gH {cJ:AV->Nat->Bool} {sn:Nat->AV} (hs:∀a i,cJ a i=true->a=sn i) {M:List Bool} (hG:N.G=M.length) {tree:List SV->List AV->T (SV×List AV×List AV)} {f:FuncId}
 (h:∀args l v l' nw,(tree args l).val=some (v,l',nw)->l'.length=l.length->(∀x∈args,fh (cS sn 0 M++eN l) x)->qT P N f args (cS sn 0 M++eN l) v (cS sn 0 M++eN (l'++nw))):cD P N f (bP cJ M tree):=by
 refine cD.of fun args H v H' hr ha hC=>?_
 unfold bP at hr
 split at hr
 ·cases hr
 rename_i Xz
 obtain⟨hML,Xz⟩:=uQ hs Xz
 dsimp only at hr
 obtain⟨iS,nB⟩:=q8 (iw args) [] List.nodup_nil
 generalize CZ [] (iw args)=ns at hr iS nB
 split at hr
 ·rename_i l hl FI
  obtain⟨⟨v1,l',nw⟩,ht,hr⟩:=T.bf hr
  split at hr
  ·rename_i hlen
   have hlen:l'.length=l.length:=(aC _ _).1 hlen
   cases hr
   obtain⟨al1,Zo⟩:=BW hl
   have FI:=ya FI
   have AJ:∀n∈ns,n < H.length:=fun n hn=>by
    obtain⟨i,hi⟩:=aew.1 hn
    obtain⟨a,_,h2⟩:=Zo i n hi
    exact bQ h2
   let G:=M.length
   let π:=B5 G ns H.length
   have back:∀x∈args,((x.cN fun n=>G+qk ns n).cN π)=x:=fun x hx=>zQ fun n hn=>by
    have:n∈ns:=(nB n).2 (.inr (qq.2 ⟨x,hx,hn⟩))
    exact oZ (rO this)
   have Yb:args=(args.map (SV.cN fun n=>G+qk ns n)).map (SV.cN π):=by
    rw [List.map_map]
    conv=>lhs;rw [<- List.map_id args]
    exact ad7 fun x hx=>(back x hx).symm
   have wF:(cS sn 0 M).length=G:=gg sn M 0
   have kS:∀(q:List AV) i c,ae (cS sn 0 M++eN q) i=some c↔(i < G /\ M[i]?=some true /\ c=.bI (sn i)) \/ ∃j a,i=G+j /\ q[j]?=some a /\ c=.bI a:=fun q i c=>by
    rw [bo,wF]
    by_cases hi:i < G
    ·rw [if_pos hi,m5,abJ]
     constructor
     ·rintro ⟨h1,h2⟩;exact .inl ⟨hi,h1,h2⟩
     ·rintro (⟨_,h1,h2⟩ | ⟨j,a,h1,_⟩)
      ·exact⟨h1,h2⟩
      ·omega
    ·rw [if_neg hi,dx]
     constructor
     ·rintro ⟨a,h1,h2⟩;exact .inr ⟨i - G,a,by omega,h1,h2⟩
     ·rintro (⟨h1,_⟩ | ⟨j,a,rfl,h1,h2⟩)
      ·exact absurd h1 hi
      ·rw [aeu];exact⟨a,h1,h2⟩
   have YR:∀x∈args.map (SV.cN fun n=>G+qk ns n),fh (cS sn 0 M++eN l) x:=fun y hy=>by
    obtain⟨x,hx,rfl⟩:=adK.1 hy
    have one:∀z:V1,(∀n∈eG z.cells,n∈ns)->jG (cS sn 0 M++eN l) (z.cN fun n=>G+qk ns n):=fun z hz=>by
     have Hr:∀cs:List Cell,(∀n∈eG cs,n∈ns)->mL (cS sn 0 M++eN l) (cs.map (Cell.cN fun n=>G+qk ns n)):=fun cs hcs c hc n hn=>by
      obtain⟨d,hd,rfl⟩:=adK.1 hc
      rw [yT] at hn
      obtain⟨m,hm,rfl⟩:=abu.1 hn
      have:=hcs m (yX.2 ⟨d,hd,hm⟩)
      obtain⟨a,h1,_⟩:=Zo _ _ (rO this)
      exact⟨.bI a,(kS l _ _).2 (.inr ⟨_,a,rfl,h1,rfl⟩)⟩
     cases z with
     | c c =>
       have:=Hr [c] hz
       simpa [jG,V1.cells,V1.cN] using this
     | agg cs=>exact Hr cs hz
    have Jt:∀n∈mu x,n∈ns:=fun n hn=>(nB n).2 (.inr (qq.2 ⟨x,hx,hn⟩))
    cases x with
    | v x=>exact one x Jt
    | ji q =>
      intro z hz
      obtain⟨z',hz',rfl⟩:=adK.1 hz
      exact one z' fun n hn=>Jt n (sA.2 ⟨z',hz',hn⟩)
    | lE=>trivial
    | wJ f cs=>exact one (.agg cs) Jt
   have hc:=h _ l v1 l' nw ht hlen YR
   rw [Yb]
   have qf:∀i,i < G->π i=i:=fun i hi=>PN hi
   have uI:=DB ns l' H
   have pC:∀j a,(l'++nw)[j]?=some a->(∃n,ns[j]?=some n /\ π (G+j)=n /\ ae (pE ns l' H++eN nw) n=some (.bI a)) \/ (ns.length<=j /\ π (G+j)=H.length+(j - ns.length) /\ ae (pE ns l' H++eN nw) (H.length+(j - ns.length))=some (.bI a)):=fun j a hj=>by
    by_cases Ht:j < ns.length
    ·have h1:ns[j]?=some ns[j]:=abj Ht
     rw [acQ (by omega)] at hj
     refine .inl ⟨ns[j],h1,oZ h1,?_⟩
     rw [bo,uI,if_pos (AJ _ (List.getElem_mem Ht))]
     exact vH ns l' H iS AJ j _ a h1 hj
    ·rw [acR (by omega)] at hj
     refine .inr ⟨by omega,?_,?_⟩
     ·have:=yL (G:=G) (ns:=ns) (L:=H.length) (j:=j - ns.length)
      rw [show G+ns.length+(j - ns.length)=G+j by omega] at this
      exact this
     ·rw [bo,uI,if_neg (by omega),aeu]
      refine(dx nw _ _).2 ⟨a,?_,rfl⟩
      rw [hlen,al1] at hj
      exact hj
   refine HX (π:=π) hc (B':=pE ns l' H++eN nw) ?_ ?_ ?_ ?_ hC ?_ ?_ ?_ ?_ ?_ ?_ ?_
   ·intro i c hi
    rcases (kS l i c).1 hi with⟨h1,h2,rfl⟩ | ⟨j,a,rfl,h1,rfl⟩
    ·rw [qf i h1]
     have:=Xz i h2
     rw [abJ] at this
     exact this
    ·have Ht:j < ns.length:=by rw [<- al1];exact(abt.1 h1).1
     have h2:ns[j]?=some ns[j]:=abj Ht
     obtain⟨a',h3,h4⟩:=Zo j _ h2
     rw [h1] at h3
     cases h3
     rw [show π (G+j)=ns[j] from oZ h2]
     exact h4
   ·intro i j c d hi hj e
    rcases (kS _ i c).1 hi with⟨h1,_,_⟩ | ⟨x,a,rfl,h1,_⟩<;>rcases (kS _ j d).1 hj with⟨g1,_,_⟩ | ⟨y,b,rfl,g1,_⟩
    ·rw [qf i h1,qf j g1] at e;exact e
    ·rw [qf i h1] at e
     rcases pC y b g1 with⟨n,s1,s2,_⟩ | ⟨s0,s1,_⟩
     ·rw [s2] at e
      have:=FI n (ab8 s1)
      omega
     ·rw [s1] at e;omega
    ·rw [qf j g1] at e
     rcases pC x a h1 with⟨n,s1,s2,_⟩ | ⟨s0,s1,_⟩
     ·rw [s2] at e
      have:=FI n (ab8 s1)
      omega
     ·rw [s1] at e;omega
    ·rcases pC x a h1 with⟨n,s1,s2,_⟩ | ⟨s0,s1,_⟩<;>rcases pC y b g1 with⟨m,t1,t2,_⟩ | ⟨t0,t1,_⟩
     ·rw [s2,t2] at e
      subst e
      have:=Ak iS s1 t1
      omega
     ·rw [s2,t1] at e
      have:=AJ n (ab8 s1)
      omega
     ·rw [s1,t2] at e
      have:=AJ m (ab8 t1)
      omega
     ·rw [s1,t1] at e;omega
   ·intro i c hi
    rcases (kS l i c).1 hi with⟨h1,h2,rfl⟩ | ⟨j,a,rfl,h1,rfl⟩
    ·exact⟨_,(kS _ _ _).2 (.inl ⟨h1,h2,rfl⟩)⟩
    ·have hj:j < l'.length:=by rw [hlen];exact(abt.1 h1).1
     exact⟨_,(kS _ _ _).2 (.inr ⟨j,_,rfl,by rw [acQ hj];exact abj hj,rfl⟩)⟩
   ·intro g hg
    rw [hG] at hg
    exact qf g hg
   ·intro i c hi tC
    rcases (kS _ i c).1 hi with⟨h1,h2,rfl⟩ | ⟨j,a,rfl,h1,rfl⟩
    ·have:=(kS l i _).2 (.inl ⟨h1,h2,rfl⟩)
     rw [tC] at this;cases this
    ·by_cases hj:j < l.length
     ·have:=(kS l (G+j) _).2 (.inr ⟨j,_,rfl,abj hj,rfl⟩)
      rw [tC] at this;cases this
     ·rcases pC j a h1 with⟨n,s1,_,_⟩ | ⟨_,s1,_⟩
      ·have:=(abt.1 s1).1
       omega
      ·rw [s1];omega
   ·rw [hG];exact hML
   ·intro m c hm
    rw [bo,uI] at hm
    split at hm
    ·rename_i hml
     by_cases LQ:m∈ns
     ·obtain⟨j,hj⟩:=aew.1 LQ
      have Xx:j < l'.length:=by rw [hlen,al1];exact(abt.1 hj).1
      have:=vH ns l' H iS AJ j m _ hj (abj Xx)
      rw [this] at hm
      cases hm
      exact .inl ⟨G+j,_,(oZ hj).symm,(kS _ _ _).2 (.inr ⟨j,_,rfl,by rw [acQ Xx];exact abj Xx,rfl⟩),rfl⟩
     ·rw [ng ns l' H m LQ] at hm
      by_cases Xt:m < G /\ M[m]?=some true
      ·have:=Xz m Xt.2
       rw [abJ,hm] at this
       cases this
       exact .inl ⟨m,_,(qf m Xt.1).symm,(kS _ _ _).2 (.inl ⟨Xt.1,Xt.2,rfl⟩),rfl⟩
      ·refine .inr ⟨hm,fun i d hi e=>?_⟩
       rcases (kS _ i d).1 hi with⟨h1,h2,rfl⟩ | ⟨j,a,rfl,h1,rfl⟩
       ·rw [qf i h1] at e
        subst e
        exact Xt ⟨h1,h2⟩
       ·rcases pC j a h1 with⟨n,s1,s2,_⟩ | ⟨_,s1,_⟩
        ·rw [s2] at e
         subst e
         exact LQ (ab8 s1)
        ·rw [s1] at e;omega
    ·rename_i hml
     obtain⟨a,h1,rfl⟩:=(dx _ _ _).1 hm
     refine .inl ⟨G+(ns.length+(m - H.length)),.bI a,?_,(kS _ _ _).2 (.inr ⟨_,a,rfl,by rw [acR (by omega),hlen,al1,aeu];exact h1,rfl⟩),rfl⟩
     have:=yL (G:=G) (ns:=ns) (L:=H.length) (j:=m - H.length)
     rw [show G+(ns.length+(m - H.length))=G+ns.length+(m - H.length) by omega]
     rw [show π (G+ns.length+(m - H.length))=_ from this]
     omega
   ·intro i d hi
    rcases (kS _ i d).1 hi with⟨h1,h2,rfl⟩ | ⟨j,a,rfl,h1,rfl⟩
    ·rw [qf i h1,bo,uI,if_pos (by omega),ng]
     ·have:=Xz i h2
      rw [abJ] at this
      exact this
     ·intro nB
      have:=FI i nB
      omega
    ·rcases pC j a h1 with⟨n,_,s2,s3⟩ | ⟨_,s2,s3⟩
     ·rw [s2];exact s3
     ·rw [s2];exact s3
   ·intro m c hm
    by_cases LQ:m∈ns
    ·obtain⟨j,hj⟩:=aew.1 LQ
     have Xx:j < l'.length:=by rw [hlen,al1];exact(abt.1 hj).1
     exact⟨_,by rw [bo,uI,if_pos (bQ hm)];exact vH ns l' H iS AJ j m _ hj (abj Xx)⟩
    ·exact⟨c,by rw [bo,uI,if_pos (bQ hm),ng ns l' H m LQ];exact hm⟩
   ·intro m hm tC
    rw [bo,uI,if_pos hm,ng]
    ·exact tC
    ·intro LQ
     obtain⟨j,hj⟩:=aew.1 LQ
     obtain⟨a,_,h2⟩:=Zo j m hj
     rw [tC] at h2;cases h2
   ·rw [abl,uI];omega
  ·cases hr
 ·cases hr
