import Derived.Test.YtadmfaohjnjajaaGreatDoorSxN
set_option linter.unusedVariables false
set_option linter.unusedSimpArgs false
set_option maxHeartbeats 4000000
namespace Go.Sx
section
structure AK (α:Type) where
 es:Nat
 pos:0 < es
 ty:TypeId
 enc:α->List Cell
 len:∀a,(enc a).length=es
 nm:∀a,∀c∈enc a,c.name=none
 dec:List Cell->Option α
 dec_ok:∀cs a,dec cs=some a->ah Nm.id (enc a)=ah Nm.id cs /\ ∀c∈cs,c.name=none
 dflt:α
namespace AK
variable {α:Type} (K:AK α)
def vals (l:List α):List Value:=l.flatMap fun a=>ah Nm.id (K.enc a)
theorem vals_len (l:List α):(K.vals l).length=l.length * K.es:=by
 induction l with
 | nil=>simp [vals]
 | cons a l ih =>
   have h1:=K.len a
   simp only [vals,List.flatMap_cons,List.length_append,bc,h1,List.length_cons] at ih ⊢
   rw [ih,Nat.add_mul,Nat.one_mul,Nat.add_comm]
theorem vals_one (l:List α):∀v∈K.vals l,v.oneCell'=true:=by
 intro v hv
 obtain⟨a,_,h⟩:=List.mem_flatMap.1 hv
 obtain⟨c,_,rfl⟩:=List.mem_map.1 h
 exact sd _ c
theorem vals_append (l r:List α):K.vals (l++r)=K.vals l++K.vals r:=by simp [vals]
theorem vals_take (l:List α) (n:Nat):(K.vals l).take (n * K.es)=K.vals (l.take n):=by
 induction l generalizing n with
 | nil=>simp [vals]
 | cons a l ih =>
   cases n with
   | zero=>simp [vals]
   | succ n =>
     have h1:(ah Nm.id (K.enc a)).length=K.es:=by rw [bc,K.len a]
     simp only [vals,List.flatMap_cons,List.take_succ_cons] at ih ⊢
     rw [List.take_append,h1,Nat.add_mul,Nat.one_mul,Nat.add_sub_cancel,ih n,List.take_of_length_le (by omega)]
theorem vals_drop (l:List α) (n:Nat):(K.vals l).drop (n * K.es)=K.vals (l.drop n):=by
 induction l generalizing n with
 | nil=>simp [vals]
 | cons a l ih =>
   cases n with
   | zero=>simp [vals]
   | succ n =>
     have h1:(ah Nm.id (K.enc a)).length=K.es:=by rw [bc,K.len a]
     simp only [vals,List.flatMap_cons,List.drop_succ_cons] at ih ⊢
     rw [List.drop_append,h1,Nat.add_mul,Nat.one_mul,Nat.add_sub_cancel,ih n,List.drop_of_length_le (by omega),List.nil_append]
theorem vals_get (l:List α) (i j:Nat) (hi:i < l.length) (hj:j < K.es):(K.vals l)[i * K.es+j]?=(ah Nm.id (K.enc (l.getD i K.dflt)))[j]?:=by
 induction l generalizing i with
 | nil=>simp at hi
 | cons a l ih =>
   have h1:(ah Nm.id (K.enc a)).length=K.es:=by rw [bc,K.len a]
   have e:K.vals (a::l)=ah Nm.id (K.enc a)++K.vals l:=by simp [vals]
   rw [e]
   cases i with
   | zero=>simp [List.getElem?_append_left (show j < (ah Nm.id (K.enc a)).length by omega)]
   | succ i =>
     rw [List.getElem?_append_right (by rw [h1,Nat.add_mul];omega),h1]
     have:=ih i (by simpa using hi)
     rw [show (i+1) * K.es+j - K.es=i * K.es+j by rw [Nat.add_mul];omega,this]
     simp
theorem vals_set (l:List α) (i:Nat) (a:α) (hi:i < l.length):K.vals (l.set i a)=(K.vals l).take (i * K.es)++(ah Nm.id (K.enc a)++(K.vals l).drop (i * K.es+K.es)):=by
 rw [List.set_eq_take_append_cons_drop,if_pos hi,vals_append,vals_take]
 have e:i * K.es+K.es=(i+1) * K.es:=by rw [Nat.add_mul,Nat.one_mul]
 rw [e,vals_drop]
 simp [vals]
def row (l:List α) (idx es:Nat):Option (Bool×List Cell):=match Nat.beq es K.es with
 | true=>some (decide (idx < l.length),K.enc (l.getD idx K.dflt))
 | false=>none
def upd (l:List α) (idx es off:Nat) (cs:List Cell):Option (Bool×List α):=match Nat.beq es K.es with
 | false=>none
 | true=>match gZ (K.enc (l.getD idx K.dflt)) off cs with
   | none=>none
   | some r=>match K.dec r with
     | some a=>some (decide (idx < l.length),l.set idx a)
     | none=>none
def arr (l:List α):Option (Nat×TypeId×List Value):=some (K.es,K.ty,K.vals l)
def q (l:List α) (lc:Loc) (S:Nat->Prop) (w:World):Prop:=iC lc S (K.vals l) K.es K.ty w
def decs:Nat->List Cell->Option (List α)
 | 0,[]=>some []
 | 0,_::_=>none
 | n+1,cs=>match jz cs K.es with
   | none=>none
   | some r=>match K.dec r,decs n (cs.drop K.es) with
     | some a,some l=>some (a::l)
     | _,_=>none
def app (l:List α) (cs:List Cell):Option (List α):=match K.decs (cs.length / K.es) cs with
 | some r=>some (l++r)
 | none=>none
theorem q_loc {l:List α} {lc:Loc} {S:Nat->Prop} {w w':World} (h:∀k,S k->w'.heap[k]?=w.heap[k]?) (hq:K.q l lc S w):K.q l lc S w':=sG hq h
theorem q_dom {l:List α} {lc:Loc} {S:Nat->Prop} {w:World} {k:Nat} (hq:K.q l lc S w) (hk:S k):k < w.heap.size:=by
 rcases hq with⟨_,_,h⟩ | ⟨_,h,row,h2,_⟩
 ·exact absurd hk (h k)
 ·rw [(h k).1 hk]
  exact(Array.getElem?_eq_some_iff.1 h2).1
theorem row_nm {l:List α} {idx es:Nat} {b:Bool} {cs:List Cell} (h:K.row l idx es=some (b,cs)):∀c∈cs,c.name=none:=by
 unfold row at h
 split at h
 ·cases h;exact K.nm _
 ·cases h
theorem row_ok {l:List α} {lc:Loc} {S:Nat->Prop} {w:World} {idx es:Nat} {cs:List Cell} (hq:K.q l lc S w) (h:K.row l idx es=some (true,cs)) (j:Nat) (c:Cell) (hc:cs[j]?=some c):w.cell? ⟨lc.b,lc.o+idx * es+j,none⟩=some (c.den Nm.id):=by
 unfold row at h
 split at h
 ·rename_i he
  have he:=(ai _ _).1 he
  subst he
  simp only [Option.some.injEq,Prod.mk.injEq,decide_eq_true_eq] at h
  obtain⟨hi,rfl⟩:=h
  have hj:j < K.es:=by
   have:=(List.getElem?_eq_some_iff.1 hc).1
   rw [K.len] at this;exact this
  have:=vf hq (idx * K.es+j) (c.den Nm.id) (by rw [K.vals_get l idx j hi hj];unfold ah;rw [List.getElem?_map,hc];rfl)
  have e:(⟨lc.b,lc.o,none⟩:Addr).add (idx * K.es+j)=⟨lc.b,lc.o+idx * K.es+j,none⟩:=by
   unfold Addr.add
   by_cases h0:idx * K.es+j=0
   ·simp [h0];omega
   ·simp [Nat.add_assoc]
  rw [<- e];exact this
 ·cases h
theorem row_read {l:List α} {lc:Loc} {w:World} {idx es:Nat} {cs:List Cell} (hq:CA lc (K.vals l) K.es w) (h:K.row l idx es=some (true,cs)) (j:Nat) (c:Cell) (hc:cs[j]?=some c):w.cell? ⟨lc.b,lc.o+idx * es+j,none⟩=some (c.den Nm.id):=by
 unfold row at h
 split at h
 ·rename_i he
  have he:=(ai _ _).1 he
  subst he
  simp only [Option.some.injEq,Prod.mk.injEq,decide_eq_true_eq] at h
  obtain⟨hi,rfl⟩:=h
  have hj:j < K.es:=by
   have:=(List.getElem?_eq_some_iff.1 hc).1
   rw [K.len] at this;exact this
  have:=hq.2 (idx * K.es+j) (c.den Nm.id) (by rw [K.vals_get l idx j hi hj];unfold ah;rw [List.getElem?_map,hc];rfl)
  have e:(⟨lc.b,lc.o,none⟩:Addr).add (idx * K.es+j)=⟨lc.b,lc.o+idx * K.es+j,none⟩:=by
   unfold Addr.add
   by_cases h0:idx * K.es+j=0
   ·simp [h0];omega
   ·simp [h0,Nat.add_assoc]
  rw [<- e];exact this
 ·cases h
theorem o8:∀{l:List Cell} {off:Nat} {ys r:List Cell},gZ l off ys=some r->off+ys.length<=l.length /\ r=l.take off++(ys++l.drop (off+ys.length))
 | l,0,[],r,h=>by simp only [gZ,Option.some.injEq] at h;subst h;simp
 | [],0,y::ys,r,h=>by simp [gZ] at h
 | x::l,0,y::ys,r,h=>by
   simp only [gZ] at h
   split at h
   ·rename_i q hq
    cases h
    obtain⟨h1,h2⟩:=o8 hq
    simp only [Nat.zero_add,List.take_zero,List.nil_append] at h1 h2
    refine⟨by simp;omega,?_⟩
    simp [h2]
   ·cases h
 | [],n+1,ys,r,h=>by simp [gZ] at h
 | x::l,n+1,ys,r,h=>by
   simp only [gZ] at h
   split at h
   ·rename_i q hq
    cases h
    obtain⟨h1,h2⟩:=o8 hq
    refine⟨by simp;omega,?_⟩
    rw [h2,show n+1+ys.length=(n+ys.length)+1 by omega]
    simp
   ·cases h
theorem upd_of {l:List α} {lc:Loc} {S:Nat->Prop} {w:World} {idx off:Nat} {cs r:List Cell} {a:α} (hq:K.q l lc S w) (hi:idx < l.length) (hr:gZ (K.enc (l.getD idx K.dflt)) off cs=some r) (d1:ah Nm.id (K.enc a)=ah Nm.id r) (hnm:∀c∈cs,c.name=none):(∀c∈cs,c.name=none) /\ S lc.b /\ ∃(row:List Value) (ty:TypeId),w.heap[lc.b]?=some (.cells row.toArray ty (0,0)) /\ lc.o+idx * K.es+off+cs.length<=row.length /\
 K.q (l.set idx a) lc S (w.setRow lc.b (row.take (lc.o+idx * K.es+off)++(ah Nm.id cs++row.drop (lc.o+idx * K.es+off+cs.length))).toArray):=by
 obtain⟨p1,p2⟩:=o8 hr
 rw [K.len] at p1
 rcases hq with⟨_,h0,_⟩ | ⟨hcp,hS,row,hrow,hrl,hll,hat⟩
 ·have:=congrArg List.length h0
  rw [K.vals_len] at this
  rcases Nat.mul_eq_zero.1 this with h | h
  ·omega
  ·have:=K.pos;omega
 ·have hvl:=K.vals_len l
  have hmul:(idx+1) * K.es<=l.length * K.es:=Nat.mul_le_mul_right _ hi
  rw [Nat.add_mul,Nat.one_mul] at hmul
  have hfit:lc.o+idx * K.es+off+cs.length<=row.length:=by omega
  refine⟨hnm,(hS _).2 rfl,row,K.ty,hrow,hfit,.inr ⟨hcp,hS,_,setRow_heap w lc.b _ _ K.ty (0,0) hrow,?_,?_,?_⟩⟩
  ·simp only [List.length_append,List.length_take,List.length_drop,bc]
   omega
  ·rw [K.vals_len,List.length_set,<- K.vals_len];exact hll
  ·intro j v hv
   have e1:row.take (lc.o+idx * K.es+off)++(ah Nm.id cs++row.drop (lc.o+idx * K.es+off+cs.length))=row.take (lc.o+idx * K.es+off)++ah Nm.id cs++row.drop (lc.o+idx * K.es+off+(ah Nm.id cs).length):=by rw [bc,List.append_assoc]
   rw [e1,rm (by rw [bc];exact hfit),bc]
   have hnew:∀j,j < K.es->(ah Nm.id (K.enc a))[j]?=if j < off then(ah Nm.id (K.enc (l.getD idx K.dflt)))[j]? else if j < off+cs.length then(ah Nm.id cs)[j - off]? else(ah Nm.id (K.enc (l.getD idx K.dflt)))[j]?:=by
    intro j hj
    rw [d1,p2]
    have e2:ah Nm.id ((K.enc (l.getD idx K.dflt)).take off++(cs++(K.enc (l.getD idx K.dflt)).drop (off+cs.length)))=(ah Nm.id (K.enc (l.getD idx K.dflt))).take off++ah Nm.id cs++(ah Nm.id (K.enc (l.getD idx K.dflt))).drop (off+(ah Nm.id cs).length):=by
     rw [bc]
     simp [ah,List.map_take,List.map_drop]
    rw [e2,rm (by rw [bc,bc,K.len];exact p1),bc]
   rw [K.vals_set l idx a hi] at hv
   have hl1:((K.vals l).take (idx * K.es)).length=idx * K.es:=by rw [List.length_take];omega
   have hl2:(ah Nm.id (K.enc a)).length=K.es:=by rw [bc,K.len]
   by_cases c1:j < idx * K.es
   ·rw [List.getElem?_append_left (by omega),List.getElem?_take,if_pos c1] at hv
    rw [if_pos (by omega)]
    exact hat j v hv
   ·rw [List.getElem?_append_right (by omega),hl1] at hv
    by_cases c2:j - idx * K.es < K.es
    ·rw [List.getElem?_append_left (by omega),hnew _ c2] at hv
     have back:∀u,(ah Nm.id (K.enc (l.getD idx K.dflt)))[j - idx * K.es]?=some u->row[lc.o+j]?=some u:=fun u hu=>by
      have:=K.vals_get l idx (j - idx * K.es) hi c2
      rw [show idx * K.es+(j - idx * K.es)=j by omega] at this
      exact hat j u (by rw [this];exact hu)
     by_cases c3:j - idx * K.es < off
     ·rw [if_pos c3] at hv
      rw [if_pos (by omega)]
      exact back v hv
     ·rw [if_neg c3] at hv
      rw [if_neg (by omega)]
      by_cases c4:j - idx * K.es < off+cs.length
      ·rw [if_pos c4] at hv
       rw [if_pos (by omega),<- hv]
       congr 1
       omega
      ·rw [if_neg c4] at hv
       rw [if_neg (by omega)]
       exact back v hv
    ·rw [List.getElem?_append_right (by omega),hl2,List.getElem?_drop] at hv
     rw [if_neg (by omega),if_neg (by omega)]
     refine hat j v ?_
     rw [<- hv]
     congr 1
     omega
theorem upd_ok {l l':List α} {lc:Loc} {S:Nat->Prop} {w:World} {idx es off:Nat} {cs:List Cell} (hq:K.q l lc S w) (h:K.upd l idx es off cs=some (true,l')):(∀c∈cs,c.name=none) /\ S lc.b /\ ∃(row:List Value) (ty:TypeId),w.heap[lc.b]?=some (.cells row.toArray ty (0,0)) /\ lc.o+idx * es+off+cs.length<=row.length /\
 K.q l' lc S (w.setRow lc.b (row.take (lc.o+idx * es+off)++(ah Nm.id cs++row.drop (lc.o+idx * es+off+cs.length))).toArray):=by
 unfold upd at h
 split at h
 ·cases h
 ·rename_i he
  have he:=(ai _ _).1 he
  subst he
  split at h
  ·cases h
  ·rename_i r hr
   split at h
   ·rename_i a ha
    simp only [Option.some.injEq,Prod.mk.injEq,decide_eq_true_eq] at h
    obtain⟨hi,rfl⟩:=h
    obtain⟨d1,d2⟩:=K.dec_ok r a ha
    exact K.upd_of hq hi hr d1 fun c hc=>d2 c (by rw [(o8 hr).2];simp [hc])
   ·cases h
theorem decs_ok:∀{n:Nat} {cs:List Cell} {l:List α},K.decs n cs=some l->K.vals l=ah Nm.id cs /\ ∀c∈cs,c.name=none
 | 0,[],l,h=>by simp only [decs,Option.some.injEq] at h;subst h;simp [vals,ah]
 | 0,_::_,l,h=>by simp [decs] at h
 | n+1,cs,l,h=>by
   simp only [decs] at h
   split at h
   ·cases h
   ·rename_i r hr
    split at h
    ·rename_i a l' ha hl
     cases h
     obtain⟨d1,d2⟩:=K.dec_ok r a ha
     obtain⟨q1,q2⟩:=decs_ok hl
     have hrl:=qp hr
     have hle:=xw hr
     have er:r=cs.take K.es:=by
      apply List.ext_getElem?
      intro j
      rw [List.getElem?_take]
      by_cases hj:j < K.es
      ·rw [if_pos hj]
       have hjr:j < r.length:=by rw [hrl.1];exact hj
       have:=hrl.2 j r[j] (List.getElem?_eq_getElem hjr)
       rw [this,List.getElem?_eq_getElem hjr]
      ·rw [if_neg hj,List.getElem?_eq_none (by rw [hrl.1];omega)]
     have ecs:cs=r++cs.drop K.es:=by rw [er,List.take_append_drop]
     refine⟨?_,fun c hc=>?_⟩
     ·have:K.vals (a::l')=ah Nm.id (K.enc a)++K.vals l':=by simp [vals]
      rw [this,d1,q1]
      conv=>rhs;rw [ecs]
      simp [ah]
     ·rw [ecs] at hc
      rcases List.mem_append.1 hc with h | h
      ·exact d2 c h
      ·exact q2 c h
    ·cases h
theorem app_ok {l l':List α} {cs:List Cell} (h:K.app l cs=some l'):(∀x∈cs,x.name=none) /\ K.vals l'=K.vals l++ah Nm.id cs:=by
 unfold app at h
 split at h
 ·rename_i r hr
  cases h
  obtain⟨h1,h2⟩:=K.decs_ok hr
  exact⟨h2,by rw [K.vals_append,h1]⟩
 ·cases h
theorem cut_ok (l:List α) (i j:Nat):K.vals ((l.take j).drop i)=((K.vals l).take (j * K.es)).drop (i * K.es):=by
 rw [K.vals_take,K.vals_drop]
end AK
end
section
variable {AV:Type} {P:Program} {N:Env AV}
def yV (F:Intf AV):Env AV:={tt:=.lf,ft:=.lf,gu:=.lf,G:=0,F:=F}
theorem Lo {K:Hp AV} {l:Loc} {S:Nat->Prop} {w w':World} (hk:∀k,S k->w'.heap[k]?=w.heap[k]?) (h:iT N K l S w):iT N K l S w':=by
 obtain⟨ρ,h1,h2,h3⟩:=h
 exact⟨ρ,h1,⟨fun n c hc=>jK (h2.q n c hc) rfl rfl rfl fun k hf=>hk k ((h3 k).2 ⟨n,c,hc,hf⟩),h2.dis⟩,h3⟩
theorem q_dom {ρ:Nm} {n:Nat} {c:Chunk AV} {w:World} (h:c.q N ρ n w) {k:Nat} (hk:c.fp ρ n k):k < w.heap.size:=by
 cases c with
 | cells l ty =>
   have hk:k=ρ n:=hk
   have h:w.heap[ρ n]?=some _:=h
   rw [hk]
   exact(Array.getElem?_eq_some_iff.1 h).1
 | vec l es ty =>
   have hk:ρ.S n k:=hk
   rcases h with⟨_,_,h⟩ | ⟨_,h,row,h2,_⟩
   ·exact absurd hk (h k)
   ·rw [(h k).1 hk]
    exact(Array.getElem?_eq_some_iff.1 h2).1
 | dead=>exact hk.elim
 | abs a=>exact N.F.dom a _ _ w k h hk
theorem Lq {K:Hp AV} {l:Loc} {S:Nat->Prop} {w:World} {k:Nat} (h:iT N K l S w) (hk:S k):k < w.heap.size:=by
 obtain⟨ρ,h1,h2,h3⟩:=h
 obtain⟨i,c,hc,hf⟩:=(h3 k).1 hk
 exact q_dom (h2.q i c hc) hf
structure LayOk (F:Intf AV) (lay:AV->Option (Hp AV)):Prop where
 arr:∀a x,F.arr a=some x->lay a=none
 row:∀a i e x,F.row a i e=some x->lay a=none
 prt:∀a i e o n x,F.prt a i e o n=some x->lay a=none
 upd:∀a i e o cs b a',F.upd a i e o cs=some (b,a')->lay a=none /\ lay a'=none
 word:∀a cs,F.word a=some cs->lay a=none
 mp:∀a x,F.mp a=some x->lay a=none:=by intro a x h;cases h
def n8 (F:Intf AV) (lay:AV->Option (Hp AV)) (a:AV) (l:Loc) (S:Nat->Prop) (w:World):Prop:=match lay a with
 | none=>F.q a l S w
 | some K=>iT (yV F) K l S w
theorem cS {F:Intf AV} {lay:AV->Option (Hp AV)} {a:AV} (h:lay a=none) (l:Loc) (S:Nat->Prop) (w:World):n8 F lay a l S w↔F.q a l S w:=by
 unfold n8;rw [h]
def Intf.obj (F:Intf AV) (lay:AV->Option (Hp AV)) (h:LayOk F lay):Intf AV where
 q:=n8 F lay
 loc:=fun a l S w w' hk hq=>by
  unfold n8 at hq ⊢
  split at hq
  ·exact F.loc a l S w w' hk hq
  ·exact Lo hk hq
 dom:=fun a l S w k hq hk=>by
  unfold n8 at hq
  split at hq
  ·exact F.dom a l S w k hq hk
  ·exact Lq hq hk
 row:=F.row
 row_nm:=F.row_nm
 R:=F.R
 row_ok:=fun a l S w idx es cs hR hq hr=>F.row_ok a l S w idx es cs hR ((cS (h.row a idx es _ hr) l S w).1 hq) hr
 prt:=F.prt
 prt_nm:=F.prt_nm
 prt_ok:=fun a l S w i e o n cs hR hq hp=>F.prt_ok a l S w i e o n cs hR ((cS (h.prt a i e o n _ hp) l S w).1 hq) hp
 upd:=F.upd
 upd_ok:=fun a l S w idx es off cs a' hq hu=>by
  obtain⟨h1,h2⟩:=h.upd a idx es off cs true a' hu
  obtain⟨g1,g2,row,ty,g3,g4,g5⟩:=F.upd_ok a l S w idx es off cs a' ((cS h1 l S w).1 hq) hu
  exact⟨g1,g2,row,ty,g3,g4,(cS h2 l S _).2 g5⟩
 word:=F.word
 word_nm:=F.word_nm
 word_ok:=fun a l S w cs hq hw=>F.word_ok a l S w cs ((cS (h.word a cs hw) l S w).1 hq) hw
 same:=F.same
 same_ok:=F.same_ok
 arr:=F.arr
 arr_q:=fun a es ty vs ha=>⟨(F.arr_q a es ty vs ha).1,fun l S w=>(cS (h.arr a _ ha) l S w).trans ((F.arr_q a es ty vs ha).2 l S w)⟩
 src:=fun a=>match lay a with
  | none=>F.src a
  | some _=>none
 src_ok:=fun a b es ty vs hs hb l S w hR hq=>by
  split at hs
  ·rename_i h1
   exact F.src_ok a b es ty vs hs hb l S w hR ((cS h1 l S w).1 hq)
  ·cases hs
 len:=F.len
 len_ok:=F.len_ok
 cat:=F.cat
 cat_ok:=F.cat_ok
 app:=F.app
 app_ok:=F.app_ok
 cut:=F.cut
 cut_ok:=F.cut_ok
 zer:=F.zer
 zer_ok:=F.zer_ok
 txt:=F.txt
 txt_ok:=F.txt_ok
 mp:=F.mp
 mp_q:=fun a ks ag es hm=>⟨(F.mp_q a ks ag es hm).1,fun l S w=>(cS (h.mp a _ hm) l S w).trans ((F.mp_q a ks ag es hm).2 l S w)⟩
 mnew:=F.mnew
 mnew_ok:=F.mnew_ok
 mlook:=F.mlook
 mlook_ok:=F.mlook_ok
 mput:=F.mput
 mput_ok:=F.mput_ok
 mdel:=F.mdel
 mdel_ok:=F.mdel_ok
 mlen:=F.mlen
 mlen_ok:=F.mlen_ok
theorem zt {N N':Env AV} {K:Hp AV} (hq:∀i a,ab K i=some (.abs a)->∀l S w,N.F.q a l S w->N'.F.q a l S w) {l:Loc} {S:Nat->Prop} {w:World} (h:iT N K l S w):iT N' K l S w:=by
 obtain⟨ρ,h1,h2,h3⟩:=h
 refine⟨ρ,h1,⟨fun n c hc=>?_,h2.dis⟩,h3⟩
 have:=h2.q n c hc
 cases c with
 | cells l ty=>exact this
 | vec l es ty=>exact this
 | dead=>exact this
 | abs a=>exact hq n a hc _ _ _ this
end
section
variable {AV:Type} {P:Program} {N:Env AV}
def Opn (N:Env AV) (H H1:Hp AV):Prop:=∀(ρ:Nm) (w:World),Own N ρ H w->∃ρ1,Own N ρ1 H1 w /\ (∀m,m < H.length->ρ1.L m=ρ.L m) /\ ∀m d k,ab H1 m=some d->d.fp ρ1 m k->∃m' d',ab H m'=some d' /\ d'.fp ρ m' k
def Fld (N:Env AV) (H R:Hp AV):Prop:=∀(ρ:Nm) (w:World),Own N ρ H w->∃ρ1,Own N ρ1 R w /\ (∀m c,ab H m=some c->ρ1.L m=ρ.L m) /\ ∀m d k,ab R m=some d->d.fp ρ1 m k->∃m' d',ab H m'=some d' /\ d'.fp ρ m' k
theorem Opn.refl (H:Hp AV):Opn N H H:=fun ρ _ h=>⟨ρ,h,fun _ _=>rfl,fun m d k h h'=>⟨m,d,h,h'⟩⟩
theorem Fld.refl (H:Hp AV):Fld N H H:=fun ρ _ h=>⟨ρ,h,fun _ _ _=>rfl,fun m d k h h'=>⟨m,d,h,h'⟩⟩
theorem Opn.trans {A B C:Hp AV} (h1:Opn N A B) (h2:Opn N B C) (hl:A.length<=B.length):Opn N A C:=fun ρ w h=>by
 obtain⟨ρ1,o1,l1,f1⟩:=h1 ρ w h
 obtain⟨ρ2,o2,l2,f2⟩:=h2 ρ1 w o1
 refine⟨ρ2,o2,fun m hm=>(l2 m (by omega)).trans (l1 m hm),fun m d k hd hk=>?_⟩
 obtain⟨m',d',hd',hk'⟩:=f2 m d k hd hk
 exact f1 m' d' k hd' hk'
theorem Fld.trans {A B C:Hp AV} (h1:Fld N A B) (h2:Fld N B C) (hp':∀m c,ab A m=some c->∃c',ab B m=some c'):Fld N A C:=fun ρ w h=>by
 obtain⟨ρ1,o1,l1,f1⟩:=h1 ρ w h
 obtain⟨ρ2,o2,l2,f2⟩:=h2 ρ1 w o1
 refine⟨ρ2,o2,fun m c hm=>?_,fun m d k hd hk=>?_⟩
 ·obtain⟨c',hc'⟩:=hp' m c hm
  exact(l2 m c' hc').trans (l1 m c hm)
 ·obtain⟨m',d',hd',hk'⟩:=f2 m d k hd hk
  exact f1 m' d' k hd' hk'
theorem wY {H K:Hp AV} (hC:bU N H) {n:Nat} {a:AV} (hn:ab H n=some (.abs a)) (hK0:∃c,ab K 0=some c) (hGn:N.G<=n) (hq:∀l S w,N.F.q a l S w->iT N K l S w):Opn N H (kD H n K):=fun ρ w hO=>by
 have hlt:=aX hn
 have hKn:K≠[]:=by rintro rfl;obtain⟨c,hc⟩:=hK0;cases hc
 obtain⟨ρ1,o1,eL,eS,hS⟩:=Lf hO hC hn hK0 hGn hq
 refine⟨ρ1,o1,eL,fun m d k hd hk=>?_⟩
 rcases CH (H:=H) (K:=K) hlt hKn m d hd with⟨h1,h2,h3⟩ | ⟨i,d',rfl,h3,rfl⟩
 ·rw [bA (eL m h2) (eS m h2 h1)] at hk
  exact⟨m,d,h3,hk⟩
 ·exact⟨n,_,hn,(hS k).2 ⟨i,d',h3,hk⟩⟩
def eN (ρ:Nm) (H:Hp AV) (n:Nat) (ns:List Nat) (k:Nat):Prop:=∃m d,(m=n \/ m∈ns) /\ ab H m=some d /\ d.fp ρ m k
def nA (n:Nat) (ns:List Nat) (a:AV):Nat->Hp AV->Hp AV
 | _,[]=>[]
 | i,x::r=>(match Nat.beq i n with | true=>some (.abs a) | false=>match iU ns i with | true=>none | false=>x)::nA n ns a (i+1) r
theorem De (n:Nat) (ns:List Nat) (a:AV):∀(H:Hp AV) (i m:Nat),ab (nA n ns a i H) m=if m < H.length then(if i+m=n then some (.abs a) else if i+m∈ns then none else ab H m) else none
 | [],i,m=>by cases m<;>simp [nA,ab]
 | x::r,i,0=>by
   simp only [nA,ab,List.length_cons,Nat.zero_lt_succ,if_true,Nat.add_zero]
   cases h:Nat.beq i n with
   | true=>rw [if_pos ((ai _ _).1 h)]
   | false =>
     rw [if_neg ((aR _ _).1 h)]
     cases h':iU ns i with
     | true=>rw [if_pos ((dB _ _).1 h')]
     | false=>rw [if_neg (fun e=>by rw [(dB _ _).2 e] at h';cases h')]
 | x::r,i,m+1=>by
   simp only [nA,ab,List.length_cons,De n ns a r (i+1) m,Nat.add_lt_add_iff_right]
   rw [show i+1+m=i+(m+1) by omega]
theorem oC {n:Nat} {ns:List Nat} {a:AV} {H:Hp AV} {m:Nat} {c:Chunk AV} (h:ab (nA n ns a 0 H) m=some c):(m=n /\ c=.abs a) \/ (m≠n /\ m ∉ ns /\ ab H m=some c):=by
 rw [De] at h
 split at h
 ·rw [Nat.zero_add] at h
  split at h
  ·rename_i e;cases h;exact .inl ⟨e,rfl⟩
  ·rename_i e
   split at h
   ·cases h
   ·rename_i e';exact .inr ⟨e,e',h⟩
 ·cases h
theorem P7 {f:FuncId} {args:List SV} {H H1 H2 R:Hp AV} {v:SV} (ho:Opn N H H1) (h01:∀m c,ab H m=some c->∃c',ab H1 m=some c') (hc:Ctr P N f args H1 v H2) (hf:Fld N H2 R) (hargs:∀x∈args,ClV H x)
 (hv:ClV R v) (hR:bU N R) (pers:∀m c,ab H m=some c->∃c',ab R m=some c') (non:∀m,m < H.length->ab H m=none->ab R m=none) (len:H.length<=R.length):Ctr P N f args H v R:=by
 obtain⟨hv2,_,hcall⟩:=hc
 refine⟨hv,hR,fun ρ w hO=>?_⟩
 obtain⟨ρ1,o1,l1,f1⟩:=ho ρ w hO
 have hmap:args.map (SV.den ρ1)=args.map (SV.den ρ):=List.map_congr_left fun x hx=>SV.den_congr (hargs x hx) fun m c h=>l1 m (aX h)
 rw [<- hmap]
 refine(hcall ρ1 w o1).mono ?_
 rintro e w' ⟨ρ2,rfl,o2,hE⟩
 obtain⟨ρ3,o3,l3,f3⟩:=hf ρ2 w' o2
 refine⟨ρ3,?_,o3,⟨pers,fun m c h=>?_,non,len,fun k hk hno=>?_,fun m c k h hk=>?_,hE.os,hE.tape,hE.output,hE.size⟩⟩
 ·congr 1
  exact(SV.den_congr hv2 fun m c h=>l3 m c h).symm
 ·obtain⟨c1,h1⟩:=h01 m c h
  obtain⟨c2,h2⟩:=hE.pers m c1 h1
  rw [l3 m c2 h2,hE.agree m c1 h1,l1 m (aX h)]
 ·refine hE.frame k hk fun m d hd hk'=>?_
  obtain⟨m',d',h1,h2⟩:=f1 m d k hd hk'
  exact hno m' d' h1 h2
 ·obtain⟨m',d',h1,h2⟩:=f3 m c k h hk
  rcases hE.new m' d' k h1 h2 with h3 | ⟨m'',d'',h3,h4⟩
  ·exact .inl h3
  ·exact .inr (f1 m'' d'' k h3 h4)
theorem eX {f:FuncId} {args args':List SV} {H R:Hp AV} {v:SV} (hc:Ctr P N f args H v R) (h:∀ρ,args'.map (SV.den ρ)=args.map (SV.den ρ)):Ctr P N f args' H v R :=
 ⟨hc.1,hc.2.1,fun ρ w hO=>by rw [h ρ];exact hc.2.2 ρ w hO⟩
theorem mZ {f:FuncId} {args:List SV} {H R:Hp AV} {v v':SV} (hc:Ctr P N f args H v R) (hcl:ClV R v') (h:∀ρ,v'.den ρ=v.den ρ):Ctr P N f args H v' R :=
 ⟨hcl,hc.2.1,fun ρ w hO=>(hc.2.2 ρ w hO).mono fun e w' ⟨ρ',he,h1,h2⟩=>⟨ρ',by rw [h ρ'];exact he,h1,h2⟩⟩
end
section
variable {AV:Type} {P:Program} {N:Env AV}
theorem vn (π σ:Nat->Nat):∀c:Cell,(c.ren σ).ren π=c.ren (fun n=>π (σ n))
 | .ifc t c=>by simp only [Cell.ren];rw [vn π σ c]
 | .ptr _ _=>rfl
 | .vel _ _ _ _=>rfl
 | .sl _ _ _ _=>rfl
 | .vs _ _ _ _ _=>rfl
 | .sf _ _ _ _ _ _=>rfl
 | .bl _=>rfl
 | .bt _=>rfl
 | .il _ _=>rfl
 | .it _ _=>rfl
 | .iv _ _ _ _=>rfl
 | .ir _ _ _ _ _=>rfl
 | .st _=>rfl
 | .sv _=>rfl
 | .pnil=>rfl
 | .snil=>rfl
 | .sx _ _=>rfl
 | .inil=>rfl
 | .fn _=>rfl
 | .nfn=>rfl
 | .op _ _=>rfl
 | .mp none=>rfl
 | .mp (some _)=>rfl
theorem Ba {π:Nat->Nat}:∀c:Cell,(∀n,c.name=some n->π n=n)->c.ren π=c
 | .ifc t c,h=>by simp only [Cell.ren];rw [Ba c h]
 | .ptr n _,h=>by simp only [Cell.ren];rw [h n rfl]
 | .vel n _ _ _,h=>by simp only [Cell.ren];rw [h n rfl]
 | .sl n _ _ _,h=>by simp only [Cell.ren];rw [h n rfl]
 | .vs n _ _ _ _,h=>by simp only [Cell.ren];rw [h n rfl]
 | .sf n _ _ _ _ _,h=>by simp only [Cell.ren];rw [h n rfl]
 | .bl _,h=>rfl
 | .bt _,h=>rfl
 | .il _ _,h=>rfl
 | .it _ _,h=>rfl
 | .iv _ _ _ _,h=>rfl
 | .ir _ _ _ _ _,h=>rfl
 | .st _,h=>rfl
 | .sv _,h=>rfl
 | .pnil,h=>rfl
 | .snil,h=>rfl
 | .sx _ _,h=>rfl
 | .inil,h=>rfl
 | .fn _,h=>rfl
 | .nfn,h=>rfl
 | .op _ _,h=>rfl
 | .mp none,h=>rfl
 | .mp (some n),h=>by simp only [Cell.ren,Option.map_some];rw [h n rfl]
theorem rL {l:List Cell} {n:Nat}:n∈cg l↔∃c∈l,c.name=some n:=by
 induction l with
 | nil=>simp [cg]
 | cons c r ih =>
   simp only [cg]
   cases h:c.name with
   | none=>simp [ih,h]
   | some m=>simp [ih,h,eq_comm]
theorem sH {π σ:Nat->Nat} {x:V1} (h:∀n∈cg x.cells,π (σ n)=n):(x.ren σ).ren π=x:=by
 have one:∀l:List Cell,(∀n∈cg l,π (σ n)=n)->(l.map (Cell.ren σ)).map (Cell.ren π)=l:=fun l hl=>by
  rw [List.map_map]
  conv=>rhs;rw [<- List.map_id l]
  refine List.map_congr_left fun c hc=>?_
  show (c.ren σ).ren π=c
  rw [vn]
  exact Ba c fun n hn=>hl n (rL.2 ⟨c,hc,hn⟩)
 cases x with
 | c c =>
   show V1.c ((c.ren σ).ren π)=_
   rw [vn,Ba c fun n hn=>h n (rL.2 ⟨c,List.mem_singleton.2 rfl,hn⟩)]
 | agg l=>exact congrArg V1.agg (one l h)
theorem mT {l:List V1} {n:Nat}:n∈oo l↔∃x∈l,n∈cg x.cells:=by
 induction l with
 | nil=>simp [oo]
 | cons x r ih=>simp [oo,ih]
theorem sK {π σ:Nat->Nat} {x:SV} (h:∀n∈ig x,π (σ n)=n):(x.ren σ).ren π=x:=by
 cases x with
 | v x=>exact congrArg SV.v (sH h)
 | clo f l =>
   refine congrArg (SV.clo f) ?_
   rw [List.map_map]
   conv=>rhs;rw [<- List.map_id l]
   refine List.map_congr_left fun c hc=>?_
   show (c.ren σ).ren π=c
   rw [vn]
   exact Ba c fun n hn=>h n (rL.2 ⟨c,hc,hn⟩)
 | tup l =>
   refine congrArg SV.tup ?_
   rw [List.map_map]
   conv=>rhs;rw [<- List.map_id l]
   exact List.map_congr_left fun x hx=>sH fun n hn=>h n (mT.2 ⟨x,hx,hn⟩)
 | unk=>rfl
theorem lz {l:List SV} {n:Nat}:n∈ee l↔∃x∈l,n∈ig x:=by
 induction l with
 | nil=>simp [ee]
 | cons x r ih=>simp [ee,ih]
def vX:List Nat->List Nat->List Nat
 | acc,[]=>acc
 | acc,x::r=>match iU acc x with | true=>vX acc r | false=>vX (acc++[x]) r
theorem lV:∀(l acc:List Nat),acc.Nodup->(vX acc l).Nodup /\ ∀n,n∈vX acc l↔n∈acc \/ n∈l
 | [],acc,h=>⟨h,fun n=>by simp [vX]⟩
 | x::r,acc,h=>by
   simp only [vX]
   split
   ·rename_i hx
    have hx:=(dB _ _).1 hx
    obtain⟨h1,h2⟩:=lV r acc h
    refine⟨h1,fun n=>?_⟩
    rw [h2,List.mem_cons]
    constructor
    ·rintro (h | h)
     ·exact .inl h
     ·exact .inr (.inr h)
    ·rintro (h | rfl | h)
     ·exact .inl h
     ·exact .inl hx
     ·exact .inr h
   ·rename_i hx
    have hx:x ∉ acc:=fun e=>by rw [(dB _ _).2 e] at hx;cases hx
    obtain⟨h1,h2⟩:=lV r (acc++[x]) (by
     rw [List.nodup_append]
     refine⟨h,by simp,?_⟩
     intro a ha b hb e
     rw [List.mem_singleton.1 hb] at e
     exact hx (e▸ha))
    refine⟨h1,fun n=>?_⟩
    rw [h2]
    simp [or_assoc]
def lg:List Nat->Nat->Nat
 | [],_=>0
 | x::r,n=>match Nat.beq x n with | true=>0 | false=>lg r n+1
theorem mq:∀{l:List Nat} {n:Nat},n∈l->l[lg l n]?=some n
 | [],n,h=>by cases h
 | x::r,n,h=>by
   simp only [lg]
   cases e:Nat.beq x n with
   | true=>simp [(ai _ _).1 e]
   | false =>
     have:=(aR _ _).1 e
     simp only [List.getElem?_cons_succ]
     rcases List.mem_cons.1 h with rfl | h
     ·exact absurd rfl this
     ·exact mq h
theorem tn:∀{l:List Nat},l.Nodup->∀{i j n:Nat},l[i]?=some n->l[j]?=some n->i=j
 | [],_,i,j,n,h,_=>by simp at h
 | x::r,hd,i,j,n,h1,h2=>by
   obtain⟨hx,hr⟩:=List.nodup_cons.1 hd
   cases i with
   | zero =>
     simp only [List.getElem?_cons_zero,Option.some.injEq] at h1
     subst h1
     cases j with
     | zero=>rfl
     | succ j=>exact absurd (List.mem_of_getElem? (by simpa using h2)) hx
   | succ i =>
     simp only [List.getElem?_cons_succ] at h1
     cases j with
     | zero =>
       simp only [List.getElem?_cons_zero,Option.some.injEq] at h2
       subst h2
       exact absurd (List.mem_of_getElem? h1) hx
     | succ j=>exact congrArg (·+1) (tn hr h1 (by simpa using h2))
def yF (H:Hp AV):List Nat->Option (List AV)
 | []=>some []
 | n::r=>match ab H n with
   | some (.abs a)=>match yF H r with | some l=>some (a::l) | none=>none
   | _=>none
theorem uX {H:Hp AV}:∀{ns:List Nat} {l:List AV},yF H ns=some l->l.length=ns.length /\ ∀(i n:Nat),ns[i]?=some n->∃a:AV,l[i]?=some a /\ ab H n=some (.abs a)
 | [],l,h=>by simp only [yF,Option.some.injEq] at h;subst h;exact⟨rfl,fun i n h=>by simp at h⟩
 | n::r,l,h=>by
   simp only [yF] at h
   split at h
   ·rename_i a ha
    split at h
    ·rename_i l' hl
     cases h
     obtain⟨h1,h2⟩:=uX hl
     refine⟨congrArg (·+1) h1,fun i m hm=>?_⟩
     cases i with
     | zero=>cases hm;exact⟨a,rfl,ha⟩
     | succ i=>exact h2 i m hm
    ·cases h
   ·cases h
def bB (sn:Nat->AV):Nat->List Bool->Hp AV
 | _,[]=>[]
 | i,b::r=>(match b with | true=>some (.abs (sn i)) | false=>none)::bB sn (i+1) r
theorem dv (sn:Nat->AV):∀(M:List Bool) (i:Nat),(bB sn i M).length=M.length
 | [],i=>rfl
 | b::r,i=>congrArg (·+1) (dv sn r (i+1))
theorem iM (sn:Nat->AV):∀(M:List Bool) (i n:Nat) (c:Chunk AV),ab (bB sn i M) n=some c↔M[n]?=some true /\ c=.abs (sn (i+n))
 | [],i,n,c=>by cases n<;>simp [bB,ab]
 | b::r,i,0,c=>by cases b<;>simp [bB,ab,eq_comm]
 | b::r,i,n+1,c=>by
   simp only [bB,ab,List.getElem?_cons_succ]
   rw [iM sn r (i+1) n c,show i+1+n=i+(n+1) by omega]
def cr (l:List AV):Hp AV:=l.map fun a=>some (.abs a)
theorem bL (l:List AV) (n:Nat) (c:Chunk AV):ab (cr l) n=some c↔∃a,l[n]?=some a /\ c=.abs a:=by
 induction l generalizing n with
 | nil=>cases n<;>simp [cr,ab]
 | cons a r ih =>
   cases n with
   | zero=>simp [cr,ab,eq_comm]
   | succ n=>exact ih n
theorem oM (l:List AV):(cr l).length=l.length:=by simp [cr]
def mW (isS:AV->Nat->Bool):Nat->List Bool->Hp AV->Bool
 | _,[],_=>true
 | i,b::m,x::r=>match b with
   | false=>mW isS (i+1) m r
   | true=>match x with
     | some (.abs a)=>match isS a i with | true=>mW isS (i+1) m r | false=>false
     | _=>false
 | _,_::_,[]=>false
theorem oB {isS:AV->Nat->Bool} {sn:Nat->AV} (hs:∀a i,isS a i=true->a=sn i):∀{M:List Bool} {i:Nat} {H:Hp AV},mW isS i M H=true->M.length<=H.length /\ ∀n,M[n]?=some true->ab H n=some (.abs (sn (i+n)))
 | [],i,H,h=>⟨by simp,fun n h=>by simp at h⟩
 | b::m,i,[],h=>by simp [mW] at h
 | b::m,i,x::r,h=>by
   have go:∀(h':mW isS (i+1) m r=true) (h0:b=true->x=some (.abs (sn i))),(b::m).length<=(x::r).length /\ ∀n,(b::m)[n]?=some true->ab (x::r) n=some (.abs (sn (i+n))):=fun h' h0=>by
    obtain⟨h1,h2⟩:=oB hs h'
    refine⟨by simpa using h1,fun n hn=>?_⟩
    cases n with
    | zero =>
      simp only [List.getElem?_cons_zero,Option.some.injEq] at hn
      exact h0 hn
    | succ n =>
      simp only [List.getElem?_cons_succ] at hn
      have:=h2 n hn
      rw [show i+1+n=i+(n+1) by omega] at this
      exact this
   cases b with
   | false=>exact go (by simpa [mW] using h) (fun e=>by cases e)
   | true =>
     simp only [mW] at h
     split at h
     ·split at h
      ·rename_i ha
       exact go h (fun _=>by rw [hs _ i ha])
      ·cases h
     ·cases h
def kB:List Nat->List AV->Hp AV->Hp AV
 | n::r,a::l,H=>kB r l (bC H n (some (.abs a)))
 | _,_,H=>H
theorem wS:∀(ns:List Nat) (l:List AV) (H:Hp AV),(kB ns l H).length=H.length
 | [],l,H=>by cases l<;>rfl
 | n::r,[],H=>rfl
 | n::r,a::l,H=>by
   show (kB r l (bC H n (some (.abs a)))).length=_
   rw [wS r l,bX]
theorem iS:∀(ns:List Nat) (l:List AV) (H:Hp AV) (m:Nat),m ∉ ns->ab (kB ns l H) m=ab H m
 | [],l,H,m,h=>by cases l<;>rfl
 | n::r,[],H,m,h=>rfl
 | n::r,a::l,H,m,h=>by
   show ab (kB r l (bC H n (some (.abs a)))) m=_
   rw [iS r l _ m (fun e=>h (List.mem_cons_of_mem _ e)),aK _ (fun e=>h (by rw [e];exact List.mem_cons_self))]
theorem o5:∀(ns:List Nat) (l:List AV) (H:Hp AV),ns.Nodup->(∀n∈ns,n < H.length)->∀(i n:Nat) (a:AV),ns[i]?=some n->l[i]?=some a->ab (kB ns l H) n=some (.abs a)
 | [],l,H,h,hl,i,n,a,h1,h2=>by simp at h1
 | n::r,[],H,h,hl,i,m,a,h1,h2=>by simp at h2
 | n::r,b::l,H,h,hl,i,m,a,h1,h2=>by
   show ab (kB r l (bC H n (some (.abs b)))) m=_
   obtain⟨hn,hr⟩:=List.nodup_cons.1 h
   cases i with
   | zero =>
     simp only [List.getElem?_cons_zero,Option.some.injEq] at h1 h2
     subst h1 h2
     rw [iS r l _ _ hn,bn _ (hl _ List.mem_cons_self)]
   | succ i =>
     simp only [List.getElem?_cons_succ] at h1 h2
     exact o5 r l _ hr (fun x hx=>by rw [bX];exact hl x (List.mem_cons_of_mem _ hx)) i m a h1 h2
def DJ (G:Nat):List Nat->Bool
 | []=>true
 | n::r=>match Nat.ble G n with | true=>DJ G r | false=>false
theorem qL {G:Nat}:∀{l:List Nat},DJ G l=true->∀n∈l,G<=n
 | [],_,n,h=>by cases h
 | x::r,h,n,hn=>by
   simp only [DJ] at h
   split at h
   ·rename_i hx
    rcases List.mem_cons.1 hn with rfl | hn
    ·exact Nat.le_of_ble_eq_true hx
    ·exact qL h n hn
   ·cases h
def uZ (G:Nat) (ns:List Nat) (L i:Nat):Nat:=match Nat.blt i G with
 | true=>i
 | false=>match nth ns (i - G) with
   | some n=>n
   | none=>L+(i - G - ns.length)
theorem Gu {G:Nat} {ns:List Nat} {L i:Nat} (h:i < G):uZ G ns L i=i:=by
 unfold uZ
 have e:Nat.blt i G=true:=by simpa [Nat.blt_eq] using h
 rw [e]
theorem jZ {G:Nat} {ns:List Nat} {L j n:Nat} (h:ns[j]?=some n):uZ G ns L (G+j)=n:=by
 unfold uZ
 have e:Nat.blt (G+j) G=false:=by
  cases e:Nat.blt (G+j) G with
  | false=>rfl
  | true=>rw [Nat.blt_eq] at e;omega
 rw [e,Nat.add_sub_cancel_left,nth_eq,h]
theorem rC {G:Nat} {ns:List Nat} {L j:Nat}:uZ G ns L (G+ns.length+j)=L+j:=by
 unfold uZ
 have e:Nat.blt (G+ns.length+j) G=false:=by
  cases e:Nat.blt (G+ns.length+j) G with
  | false=>rfl
  | true=>rw [Nat.blt_eq] at e;omega
 have e2:nth ns (G+ns.length+j - G)=none:=by
  rw [nth_eq,List.getElem?_eq_none];omega
 rw [e]
 simp only [e2]
 omega
def aZ (isS:AV->Nat->Bool) (M:List Bool) (tree:List SV->List AV->T (SV×List AV×List AV)) (args:List SV) (H:Hp AV):T (SV×Hp AV) :=
 match mW isS 0 M H with
 | false=>.fail "summary: variables"
 | true=>match vX [] (ee args) with
   | ns=>match yF H ns,DJ M.length ns with
     | some l,true=>(tree (args.map (SV.ren fun n=>M.length+lg ns n)) l).bind fun r=>match Nat.beq r.2.1.length l.length with
       | true=>.leaf (r.1.ren (uZ M.length ns H.length),kB ns r.2.1 H++cr r.2.2)
       | false=>.fail "summary: objects"
     | _,_=>.fail "summary: objects"
theorem dQ {isS:AV->Nat->Bool} {sn:Nat->AV} (hs:∀a i,isS a i=true->a=sn i) {M:List Bool} (hG:N.G=M.length) {tree:List SV->List AV->T (SV×List AV×List AV)} {f:FuncId}
 (h:∀args l v l' nw,(tree args l).val=some (v,l',nw)->l'.length=l.length->(∀x∈args,ClV (bB sn 0 M++cr l) x)->Ctr P N f args (bB sn 0 M++cr l) v (bB sn 0 M++cr (l'++nw))):FnOk P N f (aZ isS M tree):=by
 refine FnOk.of fun args H v H' hr ha hC=>?_
 unfold aZ at hr
 split at hr
 ·simp [T.val] at hr
 rename_i hgl
 obtain⟨hML,hgl⟩:=oB hs hgl
 dsimp only at hr
 obtain⟨hnd,hmem⟩:=lV (ee args) [] List.nodup_nil
 generalize vX [] (ee args)=ns at hr hnd hmem
 split at hr
 ·rename_i l hl hge
  obtain⟨⟨v1,l',nw⟩,ht,hr⟩:=T.bind_some hr
  split at hr
  ·rename_i hlen
   have hlen:l'.length=l.length:=(ai _ _).1 hlen
   simp only [T.val,Option.some.injEq,Prod.mk.injEq] at hr
   obtain⟨rfl,rfl⟩:=hr
   obtain⟨al1,al2⟩:=uX hl
   have hge:=qL hge
   have hnlt:∀n∈ns,n < H.length:=fun n hn=>by
    obtain⟨i,hi⟩:=List.mem_iff_getElem?.1 hn
    obtain⟨a,_,h2⟩:=al2 i n hi
    exact aX h2
   let G:=M.length
   let π:=uZ G ns H.length
   have back:∀x∈args,((x.ren fun n=>G+lg ns n).ren π)=x:=fun x hx=>sK fun n hn=>by
    have:n∈ns:=(hmem n).2 (.inr (lz.2 ⟨x,hx,hn⟩))
    exact jZ (mq this)
   have eargs:args=(args.map (SV.ren fun n=>G+lg ns n)).map (SV.ren π):=by
    rw [List.map_map]
    conv=>lhs;rw [<- List.map_id args]
    exact List.map_congr_left fun x hx=>(back x hx).symm
   have pO:(bB sn 0 M).length=G:=dv sn M 0
   have getS:∀(q:List AV) i c,ab (bB sn 0 M++cr q) i=some c↔(i < G /\ M[i]?=some true /\ c=.abs (sn i)) \/ ∃j a,i=G+j /\ q[j]?=some a /\ c=.abs a:=fun q i c=>by
    rw [aH,pO]
    by_cases hi:i < G
    ·rw [if_pos hi,iM,Nat.zero_add]
     constructor
     ·rintro ⟨h1,h2⟩;exact .inl ⟨hi,h1,h2⟩
     ·rintro (⟨_,h1,h2⟩ | ⟨j,a,h1,_⟩)
      ·exact⟨h1,h2⟩
      ·omega
    ·rw [if_neg hi,bL]
     constructor
     ·rintro ⟨a,h1,h2⟩;exact .inr ⟨i - G,a,by omega,h1,h2⟩
     ·rintro (⟨h1,_⟩ | ⟨j,a,rfl,h1,h2⟩)
      ·exact absurd h1 hi
      ·rw [Nat.add_sub_cancel_left];exact⟨a,h1,h2⟩
   have argcl:∀x∈args.map (SV.ren fun n=>G+lg ns n),ClV (bB sn 0 M++cr l) x:=fun y hy=>by
    obtain⟨x,hx,rfl⟩:=List.mem_map.1 hy
    have one:∀z:V1,(∀n∈cg z.cells,n∈ns)->ClV1 (bB sn 0 M++cr l) (z.ren fun n=>G+lg ns n):=fun z hz=>by
     have hlist:∀cs:List Cell,(∀n∈cg cs,n∈ns)->ClL (bB sn 0 M++cr l) (cs.map (Cell.ren fun n=>G+lg ns n)):=fun cs hcs c hc n hn=>by
      obtain⟨d,hd,rfl⟩:=List.mem_map.1 hc
      rw [rH] at hn
      obtain⟨m,hm,rfl⟩:=Option.map_eq_some_iff.1 hn
      have:=hcs m (rL.2 ⟨d,hd,hm⟩)
      obtain⟨a,h1,_⟩:=al2 _ _ (mq this)
      exact⟨.abs a,(getS l _ _).2 (.inr ⟨_,a,rfl,h1,rfl⟩)⟩
     cases z with
     | c c =>
       have:=hlist [c] hz
       simpa [ClV1,V1.cells,V1.ren] using this
     | agg cs=>exact hlist cs hz
    have hx':∀n∈ig x,n∈ns:=fun n hn=>(hmem n).2 (.inr (lz.2 ⟨x,hx,hn⟩))
    cases x with
    | v x=>exact one x hx'
    | tup q =>
      intro z hz
      obtain⟨z',hz',rfl⟩:=List.mem_map.1 hz
      exact one z' fun n hn=>hx' n (mT.2 ⟨z',hz',hn⟩)
    | unk=>trivial
    | clo f cs=>exact one (.agg cs) hx'
   have hc:=h _ l v1 l' nw ht hlen argcl
   rw [eargs]
   have πlt:∀i,i < G->π i=i:=fun i hi=>Gu hi
   have lenP:=wS ns l' H
   have stand:∀j a,(l'++nw)[j]?=some a->(∃n,ns[j]?=some n /\ π (G+j)=n /\ ab (kB ns l' H++cr nw) n=some (.abs a)) \/ (ns.length<=j /\ π (G+j)=H.length+(j - ns.length) /\ ab (kB ns l' H++cr nw) (H.length+(j - ns.length))=some (.abs a)):=fun j a hj=>by
    by_cases hjl:j < ns.length
    ·have h1:ns[j]?=some ns[j]:=List.getElem?_eq_getElem hjl
     rw [List.getElem?_append_left (by omega)] at hj
     refine .inl ⟨ns[j],h1,jZ h1,?_⟩
     rw [aH,lenP,if_pos (hnlt _ (List.getElem_mem hjl))]
     exact o5 ns l' H hnd hnlt j _ a h1 hj
    ·rw [List.getElem?_append_right (by omega)] at hj
     refine .inr ⟨by omega,?_,?_⟩
     ·have:=rC (G:=G) (ns:=ns) (L:=H.length) (j:=j - ns.length)
      rw [show G+ns.length+(j - ns.length)=G+j by omega] at this
      exact this
     ·rw [aH,lenP,if_neg (by omega),Nat.add_sub_cancel_left]
      refine(bL nw _ _).2 ⟨a,?_,rfl⟩
      rw [hlen,al1] at hj
      exact hj
   refine Al (π:=π) hc (B':=kB ns l' H++cr nw) ?_ ?_ ?_ ?_ hC ?_ ?_ ?_ ?_ ?_ ?_ ?_
   ·intro i c hi
    rcases (getS l i c).1 hi with⟨h1,h2,rfl⟩ | ⟨j,a,rfl,h1,rfl⟩
    ·rw [πlt i h1]
     have:=hgl i h2
     rw [Nat.zero_add] at this
     exact this
    ·have hjl:j < ns.length:=by rw [<- al1];exact(List.getElem?_eq_some_iff.1 h1).1
     have h2:ns[j]?=some ns[j]:=List.getElem?_eq_getElem hjl
     obtain⟨a',h3,h4⟩:=al2 j _ h2
     rw [h1] at h3
     cases h3
     rw [show π (G+j)=ns[j] from jZ h2]
     exact h4
   ·intro i j c d hi hj e
    rcases (getS _ i c).1 hi with⟨h1,_,_⟩ | ⟨x,a,rfl,h1,_⟩<;>rcases (getS _ j d).1 hj with⟨g1,_,_⟩ | ⟨y,b,rfl,g1,_⟩
    ·rw [πlt i h1,πlt j g1] at e;exact e
    ·rw [πlt i h1] at e
     rcases stand y b g1 with⟨n,s1,s2,_⟩ | ⟨s0,s1,_⟩
     ·rw [s2] at e
      have:=hge n (List.mem_of_getElem? s1)
      omega
     ·rw [s1] at e;omega
    ·rw [πlt j g1] at e
     rcases stand x a h1 with⟨n,s1,s2,_⟩ | ⟨s0,s1,_⟩
     ·rw [s2] at e
      have:=hge n (List.mem_of_getElem? s1)
      omega
     ·rw [s1] at e;omega
    ·rcases stand x a h1 with⟨n,s1,s2,_⟩ | ⟨s0,s1,_⟩<;>rcases stand y b g1 with⟨m,t1,t2,_⟩ | ⟨t0,t1,_⟩
     ·rw [s2,t2] at e
      subst e
      have:=tn hnd s1 t1
      omega
     ·rw [s2,t1] at e
      have:=hnlt n (List.mem_of_getElem? s1)
      omega
     ·rw [s1,t2] at e
      have:=hnlt m (List.mem_of_getElem? t1)
      omega
     ·rw [s1,t1] at e;omega
   ·intro i c hi
    rcases (getS l i c).1 hi with⟨h1,h2,rfl⟩ | ⟨j,a,rfl,h1,rfl⟩
    ·exact⟨_,(getS _ _ _).2 (.inl ⟨h1,h2,rfl⟩)⟩
    ·have hj:j < l'.length:=by rw [hlen];exact(List.getElem?_eq_some_iff.1 h1).1
     exact⟨_,(getS _ _ _).2 (.inr ⟨j,_,rfl,by rw [List.getElem?_append_left hj];exact List.getElem?_eq_getElem hj,rfl⟩)⟩
   ·intro g hg
    rw [hG] at hg
    exact πlt g hg
   ·intro i c hi hno
    rcases (getS _ i c).1 hi with⟨h1,h2,rfl⟩ | ⟨j,a,rfl,h1,rfl⟩
    ·have:=(getS l i _).2 (.inl ⟨h1,h2,rfl⟩)
     rw [hno] at this;cases this
    ·by_cases hj:j < l.length
     ·have:=(getS l (G+j) _).2 (.inr ⟨j,_,rfl,List.getElem?_eq_getElem hj,rfl⟩)
      rw [hno] at this;cases this
     ·rcases stand j a h1 with⟨n,s1,_,_⟩ | ⟨_,s1,_⟩
      ·have:=(List.getElem?_eq_some_iff.1 s1).1
       omega
      ·rw [s1];omega
   ·rw [hG];exact hML
   ·intro m c hm
    rw [aH,lenP] at hm
    split at hm
    ·rename_i hml
     by_cases hmn:m∈ns
     ·obtain⟨j,hj⟩:=List.mem_iff_getElem?.1 hmn
      have hj':j < l'.length:=by rw [hlen,al1];exact(List.getElem?_eq_some_iff.1 hj).1
      have:=o5 ns l' H hnd hnlt j m _ hj (List.getElem?_eq_getElem hj')
      rw [this] at hm
      cases hm
      exact .inl ⟨G+j,_,(jZ hj).symm,(getS _ _ _).2 (.inr ⟨j,_,rfl,by rw [List.getElem?_append_left hj'];exact List.getElem?_eq_getElem hj',rfl⟩),rfl⟩
     ·rw [iS ns l' H m hmn] at hm
      by_cases hmg:m < G /\ M[m]?=some true
      ·have:=hgl m hmg.2
       rw [Nat.zero_add,hm] at this
       cases this
       exact .inl ⟨m,_,(πlt m hmg.1).symm,(getS _ _ _).2 (.inl ⟨hmg.1,hmg.2,rfl⟩),rfl⟩
      ·refine .inr ⟨hm,fun i d hi e=>?_⟩
       rcases (getS _ i d).1 hi with⟨h1,h2,rfl⟩ | ⟨j,a,rfl,h1,rfl⟩
       ·rw [πlt i h1] at e
        subst e
        exact hmg ⟨h1,h2⟩
       ·rcases stand j a h1 with⟨n,s1,s2,_⟩ | ⟨_,s1,_⟩
        ·rw [s2] at e
         subst e
         exact hmn (List.mem_of_getElem? s1)
        ·rw [s1] at e;omega
    ·rename_i hml
     obtain⟨a,h1,rfl⟩:=(bL _ _ _).1 hm
     refine .inl ⟨G+(ns.length+(m - H.length)),.abs a,?_,(getS _ _ _).2 (.inr ⟨_,a,rfl,by rw [List.getElem?_append_right (by omega),hlen,al1,Nat.add_sub_cancel_left];exact h1,rfl⟩),rfl⟩
     have:=rC (G:=G) (ns:=ns) (L:=H.length) (j:=m - H.length)
     rw [show G+(ns.length+(m - H.length))=G+ns.length+(m - H.length) by omega]
     rw [show π (G+ns.length+(m - H.length))=_ from this]
     omega
   ·intro i d hi
    rcases (getS _ i d).1 hi with⟨h1,h2,rfl⟩ | ⟨j,a,rfl,h1,rfl⟩
    ·rw [πlt i h1,aH,lenP,if_pos (by omega),iS]
     ·have:=hgl i h2
      rw [Nat.zero_add] at this
      exact this
     ·intro hmem
      have:=hge i hmem
      omega
    ·rcases stand j a h1 with⟨n,_,s2,s3⟩ | ⟨_,s2,s3⟩
     ·rw [s2];exact s3
     ·rw [s2];exact s3
   ·intro m c hm
    by_cases hmn:m∈ns
    ·obtain⟨j,hj⟩:=List.mem_iff_getElem?.1 hmn
     have hj':j < l'.length:=by rw [hlen,al1];exact(List.getElem?_eq_some_iff.1 hj).1
     exact⟨_,by rw [aH,lenP,if_pos (aX hm)];exact o5 ns l' H hnd hnlt j m _ hj (List.getElem?_eq_getElem hj')⟩
    ·exact⟨c,by rw [aH,lenP,if_pos (aX hm),iS ns l' H m hmn];exact hm⟩
   ·intro m hm hno
    rw [aH,lenP,if_pos hm,iS]
    ·exact hno
    ·intro hmn
     obtain⟨j,hj⟩:=List.mem_iff_getElem?.1 hmn
     obtain⟨a,_,h2⟩:=al2 j m hj
     rw [hno] at h2;cases h2
   ·rw [List.length_append,lenP];omega
  ·simp [T.val] at hr
 ·simp [T.val] at hr
end
end Go.Sx
