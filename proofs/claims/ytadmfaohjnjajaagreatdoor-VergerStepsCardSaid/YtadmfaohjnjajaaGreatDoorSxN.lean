import Derived.Test.YtadmfaohjnjajaaGreatDoorSxZ
set_option linter.unusedVariables false
set_option linter.unusedSimpArgs false
set_option maxHeartbeats 0
set_option maxRecDepth 100000
namespace Go.Sx
section
variable {AV:Type} {P:Program} {N:dV AV}
theorem ll (w:World) (t ty e:TypeId) (i:TypeInfo) (hu:P.underlying t=some (.slice e)) (hi:P.info? e=some i) {a b:Option Addr} {n cap JT:Nat} (hle:n<=cap) :
 (Builtin.append_ #[t,t] ty #[.slice a n cap,.slice b 0 JT]).run P w=.ok (.slice a n cap) w:=by
 have hf:(Builtin.firstCells i.size 0 (.slice b 0 JT)).run P w=.ok #[] w:=by
  cases b with
  | none=>simp [Builtin.firstCells]
  | some q=>simp only [Builtin.firstCells,Nat.zero_mul];exact G8 q w
 cases a with
 | none=>simp [Builtin.append_,run_underlying hu,sizeOf,typeInfo,hi,Builtin.lenOf,hle,hf]
 | some q=>simp [Builtin.append_,run_underlying hu,sizeOf,typeInfo,hi,Builtin.lenOf,hle,hf,storeCells]
theorem Cp {l:l8} {S:Nat->Prop} {cs:List Value} {es:Nat} {ty:TypeId} {w:World} (h:mM l S cs es ty w) (j:Nat) (v:Value) (hv:cs[j]?=some v):w.cell? ((⟨l.b,l.o,none⟩:Addr).add j)=some v:=by
 have e:(⟨l.b,l.o,none⟩:Addr).add j=⟨l.b,l.o+j,none⟩:=by
  unfold Addr.add
  by_cases hj:j=0<;>simp [hj]
 rw [e]
 rcases h with⟨_,h0,_⟩ | ⟨_,_,row,h2,_,_,h5⟩
 ·rw [h0] at hv;simp at hv
 ·have:=h5 j v hv
  simp only [World.cell?,h2]
  simpa using this
theorem jW {l:l8} {S:Nat->Prop} {cs:List Value} {es:Nat} {ty:TypeId} {w:World} (h:mM l S cs es ty w):KW l cs es w:=by
 refine⟨?_,Cp h⟩
 rcases h with⟨_,h0,_⟩ | ⟨_,_,row,_,_,hc,_⟩
 ·rw [h0];exact adr _
 ·exact hc
theorem yh {l:l8} {S:Nat->Prop} {cs:List Value} {es:Nat} {ty:TypeId} {w:World} (h:mM l S cs es ty w) (Jz:0 < es) {n:Nat} (hn:cs.length=n * es):n<=l.c - 1:=by
 rcases h with⟨_,h0,_⟩ | ⟨_,_,row,_,_,hc,_⟩
 ·rw [h0] at hn
  rcases Nat.mul_eq_zero.1 (show n * es=0 from hn.symm) with h0 | h0<;>omega
 ·rw [hn] at hc
  exact Nat.le_of_mul_le_mul_right hc Jz
theorem vsDen_eq (l:l8) (len es:Nat):bN l 0 len es=if len=0 /\ l.c=0 then .slice none 0 0 else .slice (some ⟨l.b,l.o,none⟩) len (l.c - 1):=by
 simp [bN]
theorem Fj {t e:TypeId} {i:TypeInfo} {z:Value} (hu:P.underlying t=some (.slice e)) (hi:P.info? e=some i) (hz:i.zero=some z) (Oh:z.cells.size=i.size) (fq:0 < i.size)
 {w:World} {l1:l8} {S1:Nat->Prop} {vs:List Value} (h1:mM l1 S1 vs i.size e w) {len:Nat} (hlen:vs.length=len * i.size)
 {l2:l8} {us:List Value} (h2:KW l2 us i.size w) {k:Nat} (hk:us.length=k * i.size) (hone:∀u∈us,u.oneCell'=true)
 (hfit:(len+k) * (i.bytes+1)<=qU) (ty:TypeId) :
 ∃r w',(Builtin.append_ #[t,t] ty #[bN l1 0 len i.size,bN l2 0 k i.size]).run P w=.ok r w' /\ ∃lc S',r=bN lc 0 (len+k) i.size /\ mM lc S' (vs++us) i.size e w' /\ Fr S1 S' w w':=by
 have f1:=yh h1 fq hlen
 have f2:k<=l2.c - 1:=Nat.le_of_mul_le_mul_right (by rw [<- hk];exact h2.1) fq
 have AN:∀(w:World) (aJ cU:Nat),(Builtin.zeroCells z.cells (grownCap w aJ cU e - aJ)).size=(grownCap w aJ cU e - aJ) * i.size:=fun w aJ cU=>by rw [size_zeroCells,Oh]
 have Xw:(len+k) * i.bytes<=qU:=abL (adV _ (Nat.le_succ _)) hfit
 have Jx:len+k<=qU:=by
  have:(len+k) * 1<=(len+k) * (i.bytes+1):=adV _ (by omega)
  omega
 simp only [qU] at Xw Jx
 have fresh:∀cU,∃lc S',Value.slice (some ⟨w.heap.size,0,none⟩) (len+k) (grownCap w (len+k) cU e)=bN lc 0 (len+k) i.size /\
  mM lc S' (vs++us) i.size e (w.drew.alloc (.cells (vs.toArray++us.toArray++Builtin.zeroCells z.cells (grownCap w (len+k) cU e - (len+k))) e)) /\
  Fr S1 S' w (w.drew.alloc (.cells (vs.toArray++us.toArray++Builtin.zeroCells z.cells (grownCap w (len+k) cU e - (len+k))) e)):=by
  intro cU
  have FI:=grownCap_ge w (len+k) cU e
  refine⟨⟨w.heap.size,0,grownCap w (len+k) cU e+1⟩,fun k=>k=w.heap.size,by rw [vsDen_eq];simp,.inr ⟨by simp,fun k=>Iff.rfl,(vs.toArray++us.toArray++Builtin.zeroCells z.cells (grownCap w (len+k) cU e - (len+k))).toList,?_,?_,?_,?_⟩,?_⟩
  ·show (w.drew.heap.push _)[w.heap.size]?=_
   have hh:w.drew.heap=w.heap:=rfl
   rw [hh,Array.getElem?_push_size,afe]
  ·simp only [af6,Array.size_append,AN,List.size_toArray,hlen,hk,abJ,Nat.add_sub_cancel]
   rw [<- aey,<- aey]
   exact adN _ (by omega)
  ·simp only [abl,hlen,hk,Nat.add_sub_cancel]
   rw [<- aey]
   exact adN _ FI
  ·intro j v hv
   have hj:=(abt.1 hv).1
   simp only [abJ,Array.toList_append]
   rw [acQ (by simpa using hj)]
   simpa using hv
  ·refine⟨fun b hb _=>?_,fun b hb=>.inl (by show w.heap.size<=b;rw [show b=w.heap.size from hb];omega),rfl,rfl,rfl,?_⟩
   ·show (w.drew.heap.push _)[b]?=_
    rw [Array.getElem?_push]
    have:w.drew.heap=w.heap:=rfl
    rw [this,if_neg (by omega)]
   ·show w.heap.size<=(w.drew.heap.push _).size
    have:w.drew.heap=w.heap:=rfl
    rw [this];simp
 rcases Nat.eq_zero_or_pos k with rfl | hkp
 ·-- nothing is anL
  have hu0:us=[]:=agk.1 (by rw [hk];simp)
  have hx:∃b c2,bN l2 0 0 i.size=.slice b 0 c2:=by rw [vsDen_eq];split<;>exact⟨_,_,rfl⟩
  obtain⟨b,c2,hx⟩:=hx
  refine⟨bN l1 0 len i.size,w,?_,l1,S1,by simp,by rw [hu0,aeJ];exact h1,⟨fun _ _ _=>rfl,fun _ h=>.inr h,rfl,rfl,rfl,abV _⟩⟩
  rw [hx,vsDen_eq]
  split
  ·rename_i h0;rw [ll w t ty e i hu hi (abV 0)]
  ·rw [ll w t ty e i hu hi f1]
 ·have hc2:l2.c≠0:=by omega
  have hx:bN l2 0 k i.size=.slice (some ⟨l2.b,l2.o,none⟩) k (l2.c - 1):=by rw [vsDen_eq,if_neg (by omega)]
  have lO:=h2.2
  by_cases hc1:l1.c=0
  ·have Ty:len=0:=by omega
   subst Ty
   have hv0:vs=[]:=agk.1 (by rw [hlen];simp)
   subst hv0
   simp only [abJ] at Xw Jx ⊢
   have hr:=run_append_nil (P:=P) w t ty e i z hu hi hz ⟨l2.b,l2.o,none⟩ k (l2.c - 1) us hk lO hkp (by omega) (by omega)
   obtain⟨lc,S',g1,g2,g3⟩:=fresh 0
   simp only [abJ] at g1 g2 g3
   refine⟨_,_,by rw [hx,vsDen_eq,if_pos ⟨rfl,hc1⟩];exact hr,lc,S',g1,?_,?_⟩
   ·simpa using g2
   ·simpa using g3
  ·have hs:bN l1 0 len i.size=.slice (some ⟨l1.b,l1.o,none⟩) len (l1.c - 1):=by rw [vsDen_eq,if_neg (fun h=>hc1 h.2)]
   by_cases pR:len+k<=l1.c - 1
   ·-- there is yD
    rcases h1 with⟨h0,_⟩ | ⟨hcp,hS,row,hrow,Zf,hll,bC⟩
    ·omega
    ·have hmul:len * i.size+k * i.size<=(l1.c - 1) * i.size:=by
      rw [<- aey];exact adN _ pR
     have hp:l1.o+len * i.size+us.length<=row.length:=by rw [hk];omega
     have hr:=qF (P:=P) w t ty e i hu hi l1.b l1.o len (l1.c - 1) row.toArray e hrow ⟨l2.b,l2.o,none⟩ k (l2.c - 1) us hk lO hone pR (by simpa using hp)
     simp only at hr
     refine⟨_,_,by rw [hx,hs];exact hr,l1,S1,by rw [vsDen_eq,if_neg (by omega)],.inr ⟨hcp,hS,_,setRow_heap w l1.b _ _ e (0,0) hrow,?_,?_,?_⟩,⟨fun b hb hn=>setRow_other w l1.b b _ (fun e=>hn ((hS b).2 e)),fun b hb=>.inr hb,rfl,rfl,rfl,by simp [World.setRow]⟩⟩
     ·simp only [abl,agV,agW]
      omega
     ·simp only [abl,hlen,hk];omega
     ·intro j v hv
      rw [yC hp]
      by_cases hj:j < len * i.size
      ·rw [if_pos (by omega)]
       rw [acQ (by omega)] at hv
       exact bC j v hv
      ·rw [if_neg (by omega)]
       rw [acR (by omega)] at hv
       have hj2:=(abt.1 hv).1
       rw [if_pos (by omega),<- hv]
       congr 1
       omega
   ·have hr:=run_append_grow (P:=P) w t ty e i z hu hi hz ⟨l1.b,l1.o,none⟩ len (l1.c - 1) vs hlen (Cp h1) ⟨l2.b,l2.o,none⟩ k (l2.c - 1) us hk lO (by omega) (by omega) (growslice_fits (by omega) (by omega))
    obtain⟨lc,S',g1,g2,g3⟩:=fresh (l1.c - 1)
    exact⟨_,_,by rw [hx,hs];exact hr,lc,S',g1,g2,g3⟩
def MR (F:iL AV) (si:SI) (H:Hp AV):Cell->Option (Nat×AV×Nat)
 | .vs n o len es _=>match Nat.beq o 0,Nat.beq es si.size,ae H n with
   | true,true,some (.bI a)=>match F.fW a with
     | some (e1,ty,_)=>match Nat.beq e1 si.size,Nat.beq ty si.e with
       | true,true=>some (n,a,len)
       | _,_=>none
     | none=>none
   | _,_,_=>none
 | _=>none
def JY (F:iL AV) (si:SI) (H:Hp AV):Cell->Option (Nat×AV×Nat)
 | .vs n o len es _=>match Nat.beq o 0,Nat.beq es si.size,ae H n with
   | true,true,some (.bI a)=>match F.rq a with
     | some b=>match F.fW b with
       | some (e1,ty,_)=>match Nat.beq e1 si.size,Nat.beq ty si.e with
         | true,true=>some (n,b,len)
         | _,_=>none
       | none=>none
     | none=>none
   | _,_,_=>none
 | _=>none
def M7 (si:SI) (H:Hp AV):Cell->Option (Option Nat)
 | .dq=>some none
 | .sf _ _ es true _ _=>match Nat.beq es si.size with | true=>some none | false=>none
 | .vs n o len es true=>match Nat.beq o 0,Nat.beq len 0,Nat.beq es si.size,ae H n with
   | true,true,true,some (.kD _ lz ty)=>match Nat.beq lz si.size,Nat.beq ty si.e with
     | true,true=>some (some n)
     | _,_=>none
   | _,_,_,_=>none
 | _=>none
def agG (d:Option Nat) (n:Nat):Bool:=match d with | some m=>Nat.beq m n | none=>false
def ah1 (F:iL AV) (si:SI) (G:Nat) (s x:Cell) (H:Hp AV):T (SV×Hp AV) :=
 match Nat.ble G H.length,MR F si H s,JY F si H x with
 | true,some (n1,a,len),some (n2,b,k)=>match Nat.beq n1 n2,F.cat a b with
   | false,some c=>.aJ (decide (len=F.len a /\ k=F.len b /\ (len+k) * (si.bytes+1)<=qU)) (.aE (.v (.c (.vs H.length 0 (len+k) si.size false)),fG H (some n1)++[some (.bI c)]))
   | _,_=>.fail "append: arrays"
 | true,none,some (n2,b,k)=>match M7 si H s with
   | some d=>match agG d n2 with
     | false=>.aJ (decide (k=F.len b /\ k * (si.bytes+1)<=qU)) (.aE (.v (.c (.vs H.length 0 k si.size false)),fG H d++[some (.bI b)]))
     | true=>.fail "append: arrays"
   | none=>.fail "append: arrays"
 | true,some (n1,a,len),none=>match AY x with
   | true=>.aJ (decide (len<=F.len a)) (.aE (.v (.c s),H))
   | false=>match x with
     | .vs n2 o2 k es true=>match fe H si.size (.vs n2 o2 k es true),Nat.beq n1 n2 with
       | some news,false=>match F.JV a news with
         | some c=>.aJ (decide (len=F.len a /\ (len+k) * (si.bytes+1)<=qU)) (.aE (.v (.c (.vs H.length 0 (len+k) si.size false)),fG H (some n1)++[some (.bI c)]))
         | none=>.fail "append: arrays"
       | _,_=>.fail "append: arrays"
     | _=>.fail "append: arrays"
 | _,_,_=>.fail "append: arrays"
theorem BV {F:iL AV} {si:SI} {H:Hp AV} {x:Cell} {n len:Nat} {b:AV} (h:JY F si H x=some (n,b,len)):∃kn a vs,x=.vs n 0 len si.size kn /\ ae H n=some (.bI a) /\ F.rq a=some b /\ F.fW b=some (si.size,si.e,vs):=by
 unfold JY at h
 split at h
 ·split at h
  ·split at h
   ·split at h
    ·split at h
     ·rename_i h1 h2 h3 _ _ h7 _ _ _ _ h4 _ _ h5 h6
      have h1:=(aC _ _).1 h1
      have h2:=(aC _ _).1 h2
      have h5:=(aC _ _).1 h5
      have h6:=(aC _ _).1 h6
      subst h1 h2 h5 h6
      cases h
      exact⟨_,_,_,rfl,h3,h7,h4⟩
     ·cases h
    ·cases h
   ·cases h
  ·cases h
 ·cases h
theorem sP {F:iL AV} {si:SI} {H:Hp AV} {x:Cell} {n len:Nat} {a:AV} (h:MR F si H x=some (n,a,len)):∃kn vs,x=.vs n 0 len si.size kn /\ ae H n=some (.bI a) /\ F.fW a=some (si.size,si.e,vs):=by
 unfold MR at h
 split at h
 ·split at h
  ·split at h
   ·split at h
    ·rename_i h1 h2 h3 _ _ _ _ h4 _ _ h5 h6
     have h1:=(aC _ _).1 h1
     have h2:=(aC _ _).1 h2
     have h5:=(aC _ _).1 h5
     have h6:=(aC _ _).1 h6
     subst h1 h2 h5 h6
     cases h
     exact⟨_,_,rfl,h3,h4⟩
    ·cases h
   ·cases h
  ·cases h
 ·cases h
theorem zy {ρ:Nm} {H:Hp AV} {w w':World} (hO:eZ N ρ H w) (hC:dM N H) (hG:N.G<=H.length) {d:Option Nat} (hd:∀n,d=some n->∃c,ae H n=some c) {c:AV} {es:Nat} {ty:TypeId} {vs:List Value} (hc:N.F.fW c=some (es,ty,vs))
 {lc:l8} {S S':Nat->Prop} (hS:∀k,S k->∃n x,d=some n /\ ae H n=some x /\ x.fp ρ n k) (hv:mM lc S' vs es ty w') (hf:Fr S S' w w') :
 eZ N (ρ.set H.length lc S') (fG H d++[some (.bI c)]) w' /\ iZ N H.length ρ H w (ρ.set H.length lc S') (fG H d++[some (.bI c)]) w':=by
 have:=DG (w':=w') hO hC hG (d:=d) (ck:=.bI c) hd (fun x hx=>by cases hx) (lc:=lc) (S:=S')
  (fun k hk tC=>hf.mE k hk fun hs=>by
    obtain⟨n,x,h1,h2,h3⟩:=hS k hs
    exact tC n x h1 h2 h3) hf.os hf.tape hf.output hf.size
  (by
    show N.F.q c _ _ _
    rw [(jz _ _ _ _).1,(jz _ _ _ _).2]
    exact((N.F.mJ c es ty vs hc).2 _ _ _).2 hv)
  (fun k hk=>by
    have hk:(ρ.set H.length lc S').S H.length k:=hk
    rw [(jz _ _ _ _).2] at hk
    rcases hf.new k hk with h | h
    ·exact .inl h
    ·exact .inr (hS k h))
 exact⟨this.1,this.2.1⟩
theorem qA {ρ:Nm} {n len es:Nat} {kn:Bool}:(Cell.vs n 0 len es kn).aq ρ=bN (ρ.L n) 0 len es:=rfl
theorem Yu {H:Hp AV} (hC:dM N H) {d:Option Nat} (hd:∀n,d=some n->∃c,ae H n=some c) (c:AV):dM N (fG H d++[some (.bI c)]):=CL hC hd (fun x hx=>by cases hx)
theorem Q6 {l:l8} {S:Nat->Prop} {cs:List Value} {es:Nat} {ty:TypeId} {w:World} (h:mM l S cs es ty w):mM l S [] es ty w:=by
 rcases h with⟨h1,_,h3⟩ | ⟨h1,h2,row,h3,h4,h5,h6⟩
 ·exact .inl ⟨h1,rfl,h3⟩
 ·exact .inr ⟨h1,h2,row,h3,h4,adr _,fun j v h=>by simp at h⟩
theorem Ki {si:SI} {H:Hp AV} {x:Cell} {d:Option Nat} (h:M7 si H x=some d):(∀n,d=some n->∃c,ae H n=some c) /\ ∀(ρ:Nm) (w:World),eZ N ρ H w->∃l S,x.aq ρ=bN l 0 0 si.size /\ mM l S [] si.size si.e w /\ ∀k,S k->∃n x,d=some n /\ ae H n=some x /\ x.fp ρ n k:=by
 unfold M7 at h
 split at h
 ·cases h
  exact⟨fun n h=>(by cases h),fun ρ w _=>⟨⟨0,0,0⟩,fun _=>False,rfl,.inl ⟨adr _,rfl,fun _ h=>h⟩,fun k h=>h.elim⟩⟩
 ·rename_i n o es f p
  split at h
  ·rename_i h1
   have h1:=(aC _ _).1 h1
   subst h1
   cases h
   refine⟨fun n h=>(by cases h),fun ρ w _=>⟨f.ap (ρ.L n),fun _=>False,rfl,.inl ⟨?_,rfl,fun _ h=>h⟩,fun k h=>h.elim⟩⟩
   rcases p (ρ.L n) with h | ⟨h,_⟩
   ·exact h
   ·cases h
  ·cases h
 ·rename_i n o len es
  split at h
  ·rename_i l lz ty h1 h2 h3 h4
   split at h
   ·rename_i h5 h6
    have h1:=(aC _ _).1 h1
    have h2:=(aC _ _).1 h2
    have h3:=(aC _ _).1 h3
    have h5:=(aC _ _).1 h5
    have h6:=(aC _ _).1 h6
    subst h1 h2 h3 h5 h6
    cases h
    refine⟨fun m h=>(by cases h;exact⟨_,h4⟩),fun ρ w hO=>⟨ρ.L n,ρ.S n,rfl,Q6 (hO.q n _ h4),fun k hk=>⟨n,_,rfl,h4,hk⟩⟩⟩
   ·cases h
  ·cases h
 ·cases h
theorem aD {α:Type} {b:Bool} {t:T α} {x:α} (h:(T.aJ b t).val=some x):b=true /\ t.val=some x:=fN h
theorem acA {si:SI} {i:TypeInfo} {z:Value} {t:TypeId} (hu:P.underlying t=some (.slice si.e)) (hi:P.info? si.e=some i) (hz:i.zero=some z) (e1:i.size=si.size) (e2:i.bytes=si.bytes) (fq:0 < si.size) (Oh:z.cells.size=si.size)
 {H H':Hp AV} {v:SV} {s x:Cell} (hC:dM N H) (hcs:fh H (.v (.c s))) (h:(ah1 N.F si N.G s x H).val=some (v,H')):fh H' v /\ dM N H' /\ ∀(ρ:Nm) (w:World),eZ N ρ H w->∀ty,∃r w',(Builtin.append_ #[t,t] ty #[s.aq ρ,x.aq ρ]).run P w=.ok r w' /\
   ∃ρ',r=v.aq ρ' /\ eZ N ρ' H' w' /\ iZ N H.length ρ H w ρ' H' w':=by
 have Xk:0 < i.size:=by omega
 have agL:z.cells.size=i.size:=by omega
 have fin:∀(d:Option Nat) (c:AV) (m:Nat) (vs:List Value),(∀n,d=some n->∃c,ae H n=some c)->N.G<=H.length->N.F.fW c=some (si.size,si.e,vs) ->
  v=.v (.c (.vs H.length 0 m si.size false))->H'=fG H d++[some (.bI c)] ->
  (∀(ρ:Nm) (w:World),eZ N ρ H w->∀ty,∃r w' S,(Builtin.append_ #[t,t] ty #[s.aq ρ,x.aq ρ]).run P w=.ok r w' /\ (∀k,S k->∃n x,d=some n /\ ae H n=some x /\ x.fp ρ n k) /\ ∃lc S',r=bN lc 0 m i.size /\ mM lc S' vs i.size si.e w' /\ Fr S S' w w') ->
  fh H' v /\ dM N H' /\ ∀(ρ:Nm) (w:World),eZ N ρ H w->∀ty,∃r w',(Builtin.append_ #[t,t] ty #[s.aq ρ,x.aq ρ]).run P w=.ok r w' /\
   ∃ρ',r=v.aq ρ' /\ eZ N ρ' H' w' /\ iZ N H.length ρ H w ρ' H' w':=by
  rintro d c m vs hd hG hc rfl rfl hr
  refine⟨mH hd 0 _ _ _,Yu hC hd c,fun ρ w hO ty=>?_⟩
  obtain⟨r,w',S,g1,g2,lc,S',g3,g4,g5⟩:=hr ρ w hO ty
  rw [e1] at g4
  obtain⟨o1,o2⟩:=zy hO hC hG hd hc g2 g4 g5
  refine⟨r,w',g1,_,?_,o1,o2⟩
  rw [g3,e1]
  simp only [SV.aq,V1.aq,Cell.aq,(jz _ _ _ _).1]
 unfold ah1 at h
 split at h
 ·-- two asm
  rename_i n1 a len n2 b k hG hs hx
  split at h
  ·rename_i c dA arh
   obtain⟨hb,h⟩:=aD h
   simp only [T.val,aaC,aaF] at h
   obtain⟨k1,k2,k3⟩:=aaV hb
   obtain⟨kn1,vs,rfl,p2,p3⟩:=sP hs
   obtain⟨kn2,a2,us,rfl,q2,qs,q3⟩:=BV hx
   obtain⟨lz,dR,Kp,vs',us',r1,r2,r3⟩:=N.F.JS a b c arh
   rw [p3] at r1
   cases r1
   rw [q3] at r2
   simp only [aaC,aaF] at r2
   obtain⟨_,rfl,rfl⟩:=r2
   refine fin (some n1) c (len+k) _ (fun n h=>by cases h;exact⟨_,p2⟩) (adI hG) r3 h.1.symm h.2.symm fun ρ w hO ty=>?_
   have A1:=((N.F.mJ a _ _ _ p3).2 _ _ _).1 (hO.q n1 _ p2)
   have A2:=N.F.Dl a2 b _ _ _ qs q3 _ _ _ hO.ro.1 (hO.q n2 _ q2)
   have L1:=N.F.qJ a _ _ _ p3
   have L2:=N.F.qJ b _ _ _ q3
   rw [<- e1] at A1 A2 L1 L2
   rw [<- k1] at L1
   rw [<- k2] at L2
   obtain⟨r,w',g1,lc,S',g2,g3,g4⟩:=Fj hu hi hz agL Xk A1 L1 A2 L2 (N.F.mJ b _ _ _ q3).1 (by rw [e2];exact k3) ty
   rw [qA,qA,<- e1]
   exact⟨r,w',ρ.S n1,g1,fun k hk=>⟨n1,_,rfl,p2,hk⟩,lc,S',g2,g3,g4⟩
  ·cases h
 ·-- a copy
  rename_i n2 b k hG hs hx
  split at h
  ·rename_i d hvd
   split at h
   ·rename_i dA
    obtain⟨hb,h⟩:=aD h
    simp only [T.val,aaC,aaF] at h
    obtain⟨k2,k3⟩:=aaV hb
    obtain⟨kn2,a2,us,rfl,q2,qs,q3⟩:=BV hx
    obtain⟨hd,hv⟩:=Ki (N:=N) hvd
    refine fin d b k us hd (adI hG) q3 h.1.symm h.2.symm fun ρ w hO ty=>?_
    obtain⟨l,S,v1,v2,v3⟩:=hv ρ w hO
    have A2:=N.F.Dl a2 b _ _ _ qs q3 _ _ _ hO.ro.1 (hO.q n2 _ q2)
    have L2:=N.F.qJ b _ _ _ q3
    rw [<- e1] at A2 L2 v2
    rw [<- k2] at L2
    obtain⟨r,w',g1,lc,S',g2,g3,g4⟩:=Fj hu hi hz agL Xk v2 (len:=0) (by simp) A2 L2 (N.F.mJ b _ _ _ q3).1 (by rw [e2,abJ];exact k3) ty
    rw [v1,qA,<- e1]
    simp only [abJ,acM] at g2 g3
    exact⟨r,w',S,g1,v3,lc,S',g2,g3,g4⟩
   ·cases h
  ·cases h
 ·rename_i n1 a len hG hs hx
  obtain⟨kn1,vs,rfl,p2,p3⟩:=sP hs
  have L1:=N.F.qJ a _ _ _ p3
  split at h
  ·-- nothing
   rename_i he
   obtain⟨hb,h⟩:=aD h
   cases h
   have hb:=aaV hb
   refine⟨hcs,hC,fun ρ w hO ty=>?_⟩
   obtain⟨b,JT,hxd⟩:=HS he ρ
   have A1:=((N.F.mJ a _ _ _ p3).2 _ _ _).1 (hO.q n1 _ p2)
   have f1:=yh A1 fq L1
   have f1:len<=(ρ.L n1).c - 1:=abL hb f1
   refine⟨(Cell.vs n1 0 len si.size kn1).aq ρ,w,?_,ρ,rfl,hO,iZ.refl _ _ _ _⟩
   rw [hxd,qA,vsDen_eq]
   split
   ·exact ll w t ty si.e i hu hi (abV 0)
   ·exact ll w t ty si.e i hu hi f1
  ·split at h
   ·rename_i n2 o2 k es _
    split at h
    ·rename_i news hn dA
     split at h
     ·rename_i c hc
      obtain⟨hb,h⟩:=aD h
      simp only [T.val,aaC,aaF] at h
      obtain⟨k1,k3⟩:=aaV hb
      obtain⟨tH,lz,dR,vs',r1,r3⟩:=N.F.nJ a news c hc
      rw [p3] at r1
      cases r1
      obtain⟨l2,Kp,g1,g2,g3,g4,g5⟩:=dL hn
      subst g2
      refine fin (some n1) c (len+k) _ (fun n h=>by cases h;exact⟨_,p2⟩) (adI hG) r3 h.1.symm h.2.symm fun ρ w hO ty=>?_
      have A1:=((N.F.mJ a _ _ _ p3).2 _ _ _).1 (hO.q n1 _ p2)
      rw [<- k1] at L1
      have hdn:aA Nm.id news=aA ρ news:=by
       unfold aA
       exact ad7 fun y hy=>b4 y (fun m hm=>by rw [tH y hy] at hm;cases hm)
      have A2:mM ⟨(ρ.L n2).b,(ρ.L n2).o+o2 * si.size,if k=0 then 1 else(ρ.L n2).c - o2⟩ (if k=0 then fun _=>False else ρ.S n2) (aA ρ news) si.size Kp w:=by
       rcases Nat.eq_zero_or_pos k with rfl | hk
       ·refine .inl ⟨by simp,?_,fun b=>by simp⟩
        exact agk.1 (by rw [bY,g3];simp)
       ·rw [if_neg (by omega),if_neg (by omega)]
        have hf:=yf hO fq hn
        rcases hO.q n2 _ g1 with⟨h0,_⟩ | ⟨hcp,hS,row,hrow,Zf,hll,bC⟩
        ·omega
        ·refine .inr ⟨by show 0 < (ρ.L n2).c - o2;omega,hS,row,hrow,?_,?_,?_⟩
         ·show (ρ.L n2).o+o2 * si.size+((ρ.L n2).c - o2 - 1) * si.size<=row.length
          rw [aej,<- aey,show o2+((ρ.L n2).c - o2 - 1)=(ρ.L n2).c - 1 by omega]
          exact Zf
         ·show (aA ρ news).length<=((ρ.L n2).c - o2 - 1) * si.size
          rw [bY,g3]
          exact adN _ (by omega)
         ·intro j y hy
          obtain⟨cc,F8,rfl⟩:=zq ρ news j y hy
          have:=bC (o2 * si.size+j) (cc.aq ρ) (by simp [aA,g5 j cc F8])
          rw [<- aej] at this
          exact this
      have L2:(aA ρ news).length=k * si.size:=by rw [bY,g3]
      rw [<- e1] at A1 L1 L2
      have A2':=jW A2
      rw [<- e1] at A2'
      obtain⟨r,w',g1',lc,S',g2',g3',g4'⟩:=Fj hu hi hz agL Xk A1 L1 A2' L2 (fun y hy=>by
       obtain⟨cc,_,rfl⟩:=adK.1 hy
       exact zp ρ cc) (by rw [e2];exact k3) ty
      rw [hdn]
      refine⟨r,w',ρ.S n1,?_,fun k hk=>⟨n1,_,rfl,p2,hk⟩,lc,S',g2',g3',g4'⟩
      rw [qA,<- e1]
      have hk0:k≠0:=by
       rename_i he
       intro hk
       subst hk
       simp [AY] at he
      have hx2:(Cell.vs n2 o2 k si.size true).aq ρ=bN ⟨(ρ.L n2).b,(ρ.L n2).o+o2 * i.size,if k=0 then 1 else(ρ.L n2).c - o2⟩ 0 k i.size:=by
       simp only [Cell.aq,bN,if_neg hk0]
       rw [if_neg (fun h=>hk0 h.1),if_neg (fun h=>hk0 h.1),e1]
       simp only [Nat.zero_mul,Nat.add_zero]
       congr 1
       omega
      rw [e1] at hx2 ⊢
      rw [hx2,<- e1]
      exact g1'
     ·cases h
    ·cases h
   ·cases h
 ·cases h
def Tj:SV->Option Int
 | .v (.c c)=>match oy c with
   | some (_,n,_)=>some n
   | none=>none
 | _=>none
theorem wo {x:SV} {n:Int} (h:Tj x=some n) (ρ:Nm):∃k,x.aq ρ=.int k n:=by
 unfold Tj at h
 split at h
 ·rename_i c
  split at h
  ·rename_i k m b hc
   cases h
   exact⟨k,by simp only [SV.aq,V1.aq];exact fC ρ hc⟩
  ·cases h
 ·cases h
def Yi (F:iL AV) (si:SI) (G:Nat) (s:Cell) (lo hi:Int) (H:Hp AV):T (SV×Hp AV) :=
 match Nat.ble G H.length,MR F si H s with
 | true,some (n,a,len)=>match F.cut a lo.toNat hi.toNat with
   | some c=>.aJ (decide (0<=lo /\ lo<=hi /\ hi<=(len:Int) /\ len=F.len a)) (.aE (.v (.c (.vs H.length 0 (hi.toNat - lo.toNat) si.size false)),fG H (some n)++[some (.bI c)]))
   | none=>.fail "slice: arrays"
 | _,_=>.fail "slice: arrays"
def alz:Cell->Int
 | .vs _ _ len _ _=>len
 | _=>0
def Wf (F:iL AV) (si:SI) (s:Cell) (H:Hp AV):T (SV×Hp AV) :=
 match MR F si H s with
 | some (n,a,len)=>.aJ (decide (len<=F.len a)) (.aE (.v (.c (.sf n 0 si.size true (aeq 0 si.size) (DS _ 0 si.size))),H))
 | none=>.fail "slice: arrays"
def UR (F:iL AV) (sl:Tr SI) (G:Nat) (t:TypeId) (lo hi mx:Bool) (args:List SV) (H:Hp AV):T (SV×Hp AV) :=
 match sl.get t with
 | none=>.fail "slice: arrays"
 | some si=>match lo,hi,mx,args with
   | true,false,false,[.v (.c s),l]=>match Tj l with
     | some l=>Yi F si G s l (alz s) H
     | _=>.fail "slice: arrays"
   | false,true,false,[.v (.c s),h]=>match Tj h with
     | some h=>Yi F si G s 0 h H
     | none=>.fail "slice: arrays"
   | true,true,false,[.v (.c s),l,h]=>match Tj l,Tj h with
     | some l,some h=>Yi F si G s l h H
     | _,_=>.fail "slice: arrays"
   | false,true,true,[.v (.c s),h,m]=>match FZ h,FZ m with
     | some 0,some 0=>Wf F si s H
     | _,_=>.fail "slice: arrays"
   | _,_,_,_=>.fail "slice: arrays"
def Qj (F:iL AV) (sl:Tr SI) (H:Hp AV) (t:TypeId):List SV->Bool
 | []=>false
 | .v (.c x)::r=>match sl.get t with
   | some si=>match JY F si H x with
     | some _=>true
     | none=>Qj F sl H t r
   | none=>false
 | _::r=>Qj F sl H t r
def hvG (F:iL AV) (sl:Tr SI) (G:Nat) (o:Op) (args:List SV) (H:Hp AV):T (SV×Hp AV) :=
 match o with
 | .call c=>match c.callee with
   | .builtin .append=>match args,c.argTypes.toList with
     | [.v (.c s),.v (.c x)],[t,t']=>match Qj F sl H t [.v (.c s),.v (.c x)],Nat.beq t t',sl.get t with
       | true,true,some si=>ah1 F si G s x H
       | true,_,_=>.fail "append: arrays"
       | false,_,_=>Ze sl G o args H
     | _,_=>.fail "append: arrays"
   | _=>Ze sl G o args H
 | .slice t _ lo hi mx=>match Qj F sl H t args with
   | true=>UR F sl G t lo.isSome hi.isSome mx.isSome args H
   | false=>Ze sl G o args H
 | _=>Ze sl G o args H
theorem JN {si:SI} (fq:0 < si.size) {H H':Hp AV} {v:SV} {s:Cell} {lo hi:Int} (hC:dM N H) (h:(Yi N.F si N.G s lo hi H).val=some (v,H')):fh H' v /\ dM N H' /\ ∀(ρ:Nm) (w:World),eZ N ρ H w ->
 ∃a len cap,s.aq ρ=.slice a len cap /\ 0<=lo /\ lo<=hi /\ hi<=(len:Int) /\ len<=cap /\ alz s=len /\ ∃ρ',v.aq ρ'=sliced a lo.toNat hi.toNat cap si.size /\ eZ N ρ' H' w /\ iZ N H.length ρ H w ρ' H' w:=by
 unfold Yi at h
 split at h
 ·rename_i n a len hG hs
  split at h
  ·rename_i c aq6
   obtain⟨hb,h⟩:=aD h
   cases h
   obtain⟨k0,k1,k2,k3⟩:=aaV hb
   obtain⟨kn,vs,rfl,p2,p3⟩:=sP hs
   obtain⟨lz,ty',vs',r1,r2⟩:=N.F.nI a _ _ c aq6
   rw [p3] at r1
   cases r1
   have L1:=N.F.qJ a _ _ _ p3
   rw [<- k3] at L1
   obtain⟨l,rfl⟩:=Int.eq_ofNat_of_zero_le k0
   obtain⟨m,rfl⟩:=Int.eq_ofNat_of_zero_le (Int.le_trans k0 k1)
   simp only [Int.toNat_natCast] at *
   have k1:l<=m:=by omega
   have k2:m<=len:=by omega
   have hd:∀x,(some n:Option Nat)=some x->∃c,ae H x=some c:=fun x h=>by cases h;exact⟨_,p2⟩
   refine⟨mH hd 0 _ _ _,Yu hC hd c,fun ρ w hO=>?_⟩
   have A1:=((N.F.mJ a _ _ _ p3).2 _ _ _).1 (hO.q n _ p2)
   have f1:=yh A1 fq L1
   have aet:l=m->(vs.take (m * si.size)).drop (l * si.size)=[]:=fun e=>by
    subst e
    apply ad8
    simp
    omega
   have go:∀(lc:l8) (S':Nat->Prop),mM lc S' ((vs.take (m * si.size)).drop (l * si.size)) si.size si.e w->(∀k,S' k->ρ.S n k)->∀b,bN lc 0 (m - l) si.size=b ->
    ∃ρ',SV.aq ρ' (.v (.c (.vs H.length 0 (m - l) si.size false)))=b /\ eZ N ρ' (fG H (some n)++[some (.bI c)]) w /\ iZ N H.length ρ H w ρ' (fG H (some n)++[some (.bI c)]) w:=by
    intro lc S' hv hS b hb
    obtain⟨o1,o2⟩:=zy (w':=w) (S:=ρ.S n) hO hC (adI hG) hd r2 (fun k hk=>⟨n,_,rfl,p2,hk⟩) hv ⟨fun _ _ _=>rfl,fun k hk=>.inr (hS k hk),rfl,rfl,rfl,abV _⟩
    refine⟨_,?_,o1,o2⟩
    simp only [SV.aq,V1.aq,Cell.aq,(jz _ _ _ _).1]
    exact hb
   by_cases hc:(ρ.L n).c=0
   ·have Ty:len=0:=by omega
    have hm0:m=0:=by omega
    have hz0:l=0:=by omega
    subst Ty hm0 hz0
    refine⟨none,0,0,by rw [qA,vsDen_eq,if_pos ⟨rfl,hc⟩],by omega,by omega,by omega,by omega,rfl,?_⟩
    exact go ⟨0,0,0⟩ (fun _=>False) (.inl ⟨adr _,aet rfl,fun _ h=>h⟩) (fun _ h=>h.elim) _ (by simp [bN,sliced])
   ·refine⟨some ⟨(ρ.L n).b,(ρ.L n).o,none⟩,len,(ρ.L n).c - 1,by rw [qA,vsDen_eq,if_neg (fun h=>hc h.2)],by omega,by omega,by omega,f1,rfl,?_⟩
    by_cases abB:(ρ.L n).c - 1=l
    ·have hml:m=l:=by omega
     subst hml
     refine go ⟨(ρ.L n).b,(ρ.L n).o,1⟩ (fun _=>False) (.inl ⟨abV _,aet rfl,fun _ h=>h⟩) (fun _ h=>h.elim) _ ?_
     simp [bN,sliced,abB]
    ·rcases A1 with⟨h0,h1,_⟩ | ⟨hcp,hS,row,hrow,Zf,hll,bC⟩
     ·omega
     ·refine go ⟨(ρ.L n).b,(ρ.L n).o+l * si.size,(ρ.L n).c - l⟩ (ρ.S n) (.inr ⟨by show 0 < (ρ.L n).c - l;omega,hS,row,hrow,?_,?_,?_⟩) (fun _ h=>h) _ ?_
      ·show (ρ.L n).o+l * si.size+((ρ.L n).c - l - 1) * si.size<=row.length
       rw [aej,<- aey,show l+((ρ.L n).c - l - 1)=(ρ.L n).c - 1 by omega]
       exact Zf
      ·show _<=((ρ.L n).c - l - 1) * si.size
       rw [agW,agV]
       have:m * si.size<=((ρ.L n).c - 1) * si.size:=adN _ (by omega)
       have e:((ρ.L n).c - l - 1) * si.size=((ρ.L n).c - 1) * si.size - l * si.size:=by
        rw [<- Nat.sub_mul];congr 1;omega
       rw [e]
       omega
      ·intro j v hv
       rw [af2,aeG] at hv
       split at hv
       ·have:=bC _ v hv
        rw [<- aej] at this
        exact this
       ·cases hv
      ·have dA:¬((ρ.L n).c - l=0):=by omega
       simp only [bN,sliced,if_neg abB]
       rw [if_neg (fun h=>dA h.2)]
       have ea:(⟨(ρ.L n).b,(ρ.L n).o,none⟩:Addr).add (l * si.size)=⟨(ρ.L n).b,(ρ.L n).o+l * si.size,none⟩:=by
        unfold Addr.add
        by_cases hj:l * si.size=0<;>simp [hj]
       simp only [Option.map_some,ea,Nat.zero_mul,Nat.add_zero,Nat.sub_zero]
       congr 1
       omega
  ·cases h
 ·cases h
theorem We {si:SI} (fq:0 < si.size) {H H':Hp AV} {v:SV} {s:Cell} (h:(Wf N.F si s H).val=some (v,H')):H'=H /\ fh H v /\ ∀(ρ:Nm) (w:World),eZ N ρ H w ->
 ∃a len cap,s.aq ρ=.slice a len cap /\ v.aq ρ=sliced a 0 0 0 si.size:=by
 unfold Wf at h
 split at h
 ·rename_i n a len hs
  obtain⟨hb,h⟩:=aD h
  have hb:=aaV hb
  cases h
  obtain⟨kn,vs,rfl,p2,p3⟩:=sP hs
  refine⟨rfl,?_,fun ρ w hO=>?_⟩
  ·intro c hc m hm
   simp [V1.cells] at hc
   subst hc
   simp only [Cell.name,aaC] at hm
   subst hm
   exact⟨_,p2⟩
  ·rw [qA,vsDen_eq]
   by_cases hc:len=0 /\ (ρ.L n).c=0
   ·rw [if_pos hc]
    exact⟨_,_,_,rfl,by simp [SV.aq,V1.aq,Cell.aq,bN,MT.ap,hc.2,sliced]⟩
   ·rw [if_neg hc]
    by_cases wH:(ρ.L n).c=0
    ·have A1:=((N.F.mJ a _ _ _ p3).2 _ _ _).1 (hO.q n _ p2)
     have f1:=yh A1 fq (N.F.qJ a _ _ _ p3)
     exact absurd ⟨by omega,wH⟩ hc
    ·exact⟨_,_,_,rfl,by simp [SV.aq,V1.aq,Cell.aq,bN,MT.ap,wH,sliced]⟩
 ·cases h
theorem Xi {sl:Tr SI} (Ho:aib P sl) (hhv:N.hv=hvG N.F sl N.G):Tp P N:=by
 intro o args H v H' h bM hC
 rw [hhv] at h
 have cU:(Ze sl N.G o args H).val=some (v,H')->fh H' v /\ dM N H' /\ ∀(ρ:Nm) (w:World),eZ N ρ H w ->
  J0 P (.op o) (args.map (SV.aq ρ)) w fun e w'=>∃ρ',e=v.aq ρ' /\ eZ N ρ' H' w' /\ iZ N H.length ρ H w ρ' H' w':=by
  intro h
  obtain⟨a1,a2,a3⟩:=agP (P:=P) (N:={N with hv:=Ze sl N.G}) Ho rfl o args H v H' h bM ⟨fun n x hh=>hC.1 n x hh,trivial⟩
  refine⟨a1,⟨fun n x hh=>a2.1 n x hh,trivial⟩,fun ρ w hO=>(a3 ρ w (nO (N:=N) (N':={N with hv:=Ze sl N.G}) rfl rfl hO)).mono ?_⟩
  rintro e w' ⟨ρ',h1,h2,h3⟩
  exact⟨ρ',h1,nO (N:={N with hv:=Ze sl N.G}) (N':=N) rfl rfl h2,zf N h3⟩
 unfold hvG at h
 split at h
 ·rename_i c
  split at h
  ·rename_i cH
   split at h
   ·rename_i s x t t' hty
    split at h
    ·rename_i si _ htt hs
     have htt:=(aC _ _).1 htt
     subst htt
     obtain⟨hu,i,z,hi,hz,e1,e2,fq,B8,LO,Jr⟩:=jZ (Ho t si hs)
     have Oh:z.cells.size=si.size:=by
      have:=congrArg List.length (LO Nm.id)
      rw [bY] at this
      simp at this
      omega
     obtain⟨c1,c2,c3⟩:=acA hu hi hz e1 e2 fq Oh hC (bM _ (abw ..)) h
     refine⟨c1,c2,fun ρ w hO=>?_⟩
     intro ev o ho hv
     obtain⟨r,w',hr,ρ',h1,h2,h3⟩:=c3 ρ w hO o.type
     exact⟨r,w',.inl (uU ho cH hty (by rw [hv];simp [SV.aq,V1.aq]) hr),ρ',h1,h2,h3⟩
    ·cases h
    ·exact cU h
   ·cases h
  ·exact cU h
 ·rename_i t x lo hi mx
  split at h
  ·unfold UR at h
   split at h
   ·cases h
   ·rename_i si hs
    obtain⟨hu,i,z,Xy,hz,e1,e2,fq,B8,LO,Jr⟩:=jZ (Ho t si hs)
    split at h
    ·rename_i s l q1 q2 q3 _
     split at h
     ·rename_i ln Jw
      obtain⟨k1,k0,k2⟩:=JN fq hC h
      refine⟨k1,k0,fun ρ w hO=>?_⟩
      intro ev o ho hv
      obtain⟨a,len,cap,d1,d2,d3,d4,d5,d6,ρ',d7,d8,d9⟩:=k2 ρ w hO
      obtain⟨kk,hk⟩:=wo Jw ρ
      cases lo with
      | none=>cases q1
      | some lo =>
      cases hi with
      | some _=>cases q2
      | none =>
      cases mx with
      | some _=>cases q3
      | none =>
      simp [Op.operands,SV.aq,V1.aq,d1] at hv
      obtain⟨v1,v2⟩:=hv
      refine⟨v.aq ρ',w,.inl ?_,ρ',rfl,d8,d9⟩
      rw [d7,<- e1,d6]
      refine iT ho hu Xy v1 ?_
      have v2:ev lo=.int kk ln:=by rw [v2];exact hk
      have hle:ln<=(len:Int):=by omega
      simp [Instr.sliceBounds,v2,run_sliceBound,d2,hle]
     ·cases h
    ·rename_i s h' q1 q2 q3 _
     split at h
     ·rename_i hn Jw
      obtain⟨k1,k0,k2⟩:=JN fq hC h
      refine⟨k1,k0,fun ρ w hO=>?_⟩
      intro ev o ho hv
      obtain⟨a,len,cap,d1,d2,d3,d4,d5,d6,ρ',d7,d8,d9⟩:=k2 ρ w hO
      obtain⟨kk,hk⟩:=wo Jw ρ
      cases lo with
      | some _=>cases q1
      | none =>
      cases hi with
      | none=>cases q2
      | some hi =>
      cases mx with
      | some _=>cases q3
      | none =>
      simp [Op.operands,SV.aq,V1.aq,d1] at hv
      obtain⟨v1,v2⟩:=hv
      refine⟨v.aq ρ',w,.inl ?_,ρ',rfl,d8,d9⟩
      rw [d7,<- e1]
      refine iT ho hu Xy v1 ?_
      have v2:ev hi=.int kk hn:=by rw [v2];exact hk
      have hle:hn<=(cap:Int):=by omega
      simp [Instr.sliceBounds,v2,run_sliceBound,d3,hle]
     ·cases h
    ·rename_i s l h' q1 q2 q3 _
     split at h
     ·rename_i ln hn Jw Xv
      obtain⟨k1,k0,k2⟩:=JN fq hC h
      refine⟨k1,k0,fun ρ w hO=>?_⟩
      intro ev o ho hv
      obtain⟨a,len,cap,d1,d2,d3,d4,d5,d6,ρ',d7,d8,d9⟩:=k2 ρ w hO
      obtain⟨kk,hk⟩:=wo Jw ρ
      obtain⟨kh,hkh⟩:=wo Xv ρ
      cases lo with
      | none=>cases q1
      | some lo =>
      cases hi with
      | none=>cases q2
      | some hi =>
      cases mx with
      | some _=>cases q3
      | none =>
      simp [Op.operands,SV.aq,V1.aq,d1] at hv
      obtain⟨v1,v2,v3⟩:=hv
      refine⟨v.aq ρ',w,.inl ?_,ρ',rfl,d8,d9⟩
      rw [d7,<- e1]
      refine iT ho hu Xy v1 ?_
      have v2:ev lo=.int kk ln:=by rw [v2];exact hk
      have v3:ev hi=.int kh hn:=by rw [v3];exact hkh
      have hle:hn<=(cap:Int):=by omega
      have h0:0<=hn:=by omega
      have hle2:ln<=((hn.toNat:Nat):Int):=by rw [Int.toNat_of_nonneg h0];exact d3
      have hb:=run_sliceBound (P:=P) w kk ln hn.toNat .sliceB d2 hle2
      simp [Instr.sliceBounds,v2,v3,run_sliceBound,hle,h0,hb,Result.andThen]
     ·cases h
    ·rename_i s h' m' q1 q2 q3 _
     split at h
     ·rename_i Jw Xv
      obtain⟨rfl,k1,k2⟩:=We fq h
      refine⟨k1,hC,fun ρ w hO=>?_⟩
      intro ev o ho hv
      obtain⟨a,len,cap,d1,d6⟩:=k2 ρ w hO
      obtain⟨kk,hk⟩:=lX Jw ρ
      obtain⟨kh,hkh⟩:=lX Xv ρ
      cases lo with
      | some _=>cases q1
      | none =>
      cases hi with
      | none=>cases q2
      | some hi =>
      cases mx with
      | none=>cases q3
      | some mx =>
      simp [Op.operands,SV.aq,V1.aq,d1] at hv
      obtain⟨v1,v2,v3⟩:=hv
      refine⟨v.aq ρ,w,.inl ?_,ρ,rfl,hO,iZ.refl _ _ _ _⟩
      rw [d6,<- e1]
      refine iT ho hu Xy v1 ?_
      have v2:ev hi=.int kk 0:=by rw [v2];exact hk
      have v3:ev mx=.int kh 0:=by rw [v3];exact hkh
      simp [Instr.sliceBounds,v2,v3,run_sliceBound]
     ·cases h
    ·cases h
  ·exact cU h
 ·exact cU h
end
section
variable {AV:Type} {P:Program} {N:dV AV}
def Cell.cN (π:Nat->Nat):Cell->Cell
 | .ptr n o=>.ptr (π n) o
 | .CV n i e o=>.CV (π n) i e o
 | .sl n o len cap=>.sl (π n) o len cap
 | .vs n o len es kn=>.vs (π n) o len es kn
 | .sf n o es z f h=>.sf (π n) o es z f h
 | .wZ t c=>.wZ t (c.cN π)
 | .mp r=>.mp (r.map π)
 | c=>c
def aG.cN (π:Nat->Nat):aG AV->aG AV
 | .cells l ty=>.cells (l.map (Cell.cN π)) ty
 | .kD l es ty=>.kD (l.map (Cell.cN π)) es ty
 | .j8=>.j8
 | .bI a=>.bI a
def V1.cN (π:Nat->Nat):V1->V1
 | .c x=>.c (x.cN π)
 | .agg l=>.agg (l.map (Cell.cN π))
def SV.cN (π:Nat->Nat):SV->SV
 | .v x=>.v (x.cN π)
 | .ji l=>.ji (l.map (V1.cN π))
 | .lE=>.lE
 | .wJ f l=>.wJ f (l.map (Cell.cN π))
def Nm.cN (ρ:Nm) (π:Nat->Nat):Nm:=⟨fun n=>ρ.L (π n),fun n=>ρ.S (π n)⟩
theorem lA (ρ:Nm) (π:Nat->Nat):∀c:Cell,(c.cN π).aq ρ=c.aq (ρ.cN π)
 | .ptr _ _=>rfl
 | .CV _ _ _ _=>rfl
 | .sl _ _ _ _=>rfl
 | .vs _ _ _ _ _=>rfl
 | .sf _ _ _ _ _ _=>rfl
 | .wZ t c=>by simp only [Cell.cN,Cell.aq];rw [lA ρ π c]
 | .bl _=>rfl
 | .bt _=>rfl
 | .il _ _=>rfl
 | .it _ _=>rfl
 | .iv _ _ _ _=>rfl
 | .ir _ _ _ _ _=>rfl
 | .st _=>rfl
 | .sv _=>rfl
 | .iK=>rfl
 | .dq=>rfl
 | .sx _ _=>rfl
 | .fL=>rfl
 | .fn _=>rfl
 | .Zd=>rfl
 | .op _ _=>rfl
 | .mp none=>rfl
 | .mp (some _)=>rfl
theorem yT (π:Nat->Nat):∀c:Cell,(c.cN π).name=c.name.map π
 | .ptr _ _=>rfl
 | .CV _ _ _ _=>rfl
 | .sl _ _ _ _=>rfl
 | .vs _ _ _ _ _=>rfl
 | .sf _ _ _ _ _ _=>rfl
 | .wZ t c=>by simp only [Cell.cN,Cell.name];rw [yT π c]
 | .bl _=>rfl
 | .bt _=>rfl
 | .il _ _=>rfl
 | .it _ _=>rfl
 | .iv _ _ _ _=>rfl
 | .ir _ _ _ _ _=>rfl
 | .st _=>rfl
 | .sv _=>rfl
 | .iK=>rfl
 | .dq=>rfl
 | .sx _ _=>rfl
 | .fL=>rfl
 | .fn _=>rfl
 | .Zd=>rfl
 | .op _ _=>rfl
 | .mp none=>rfl
 | .mp (some _)=>rfl
theorem uX (ρ:Nm) (π:Nat->Nat) (l:List Cell):aA ρ (l.map (Cell.cN π))=aA (ρ.cN π) l:=by
 simp only [aA,List.map_map]
 exact ad7 fun c _=>lA ρ π c
theorem V1.lA (ρ:Nm) (π:Nat->Nat) (x:V1):(x.cN π).aq ρ=x.aq (ρ.cN π):=by
 cases x with
 | c x=>exact Sx.lA ρ π x
 | agg l=>simp only [V1.cN,V1.aq,uX]
theorem SV.lA (ρ:Nm) (π:Nat->Nat) (x:SV):(x.cN π).aq ρ=x.aq (ρ.cN π):=by
 cases x with
 | v x=>exact V1.lA ρ π x
 | ji l =>
   simp only [SV.cN,SV.aq,List.map_map]
   congr 2
   exact ad7 fun y _=>V1.lA ρ π y
 | lE=>rfl
 | wJ f l=>simp only [SV.cN,SV.aq,uX]
theorem KY {ρ:Nm} {π:Nat->Nat} {n:Nat} {c:aG AV} {w:World}:(c.cN π).q N ρ (π n) w↔c.q N (ρ.cN π) n w:=by
 cases c with
 | cells l ty=>simp only [aG.cN,aG.q,uX];rfl
 | kD l es ty=>simp only [aG.cN,aG.q,uX];rfl
 | j8=>rfl
 | bI a=>rfl
theorem oK {ρ:Nm} {π:Nat->Nat} {n:Nat} {c:aG AV}:(c.cN π).fp ρ (π n)=c.fp (ρ.cN π) n:=by
 cases c<;>rfl
theorem BQ (π:Nat->Nat) (c:aG AV):(c.cN π).cellsOf=c.cellsOf.map (Cell.cN π):=by cases c<;>rfl
def fpH (ρ:Nm) (K:Hp AV) (k:Nat):Prop:=∃i c,ae K i=some c /\ c.fp ρ i k
structure Y8 (N:dV AV) (ρ:Nm) (H:Hp AV) (w:World):Prop where
 q:∀n c,ae H n=some c->c.q N ρ n w
 qz:∀n m c d,n≠m->ae H n=some c->ae H m=some d->∀k,c.fp ρ n k->d.fp ρ m k->False
theorem eZ.toL {ρ:Nm} {H:Hp AV} {w:World} (h:eZ N ρ H w):Y8 N ρ H w:=⟨h.q,h.qz⟩
theorem Y8.sub {ρ:Nm} {H:Hp AV} {w:World} (h:Y8 N ρ H w) {K:Hp AV} {π:Nat->Nat} (hK:∀i c,ae K i=some c->ae H (π i)=some (c.cN π)) (inj:∀i j c d,ae K i=some c->ae K j=some d->π i=π j->i=j):Y8 N (ρ.cN π) K w:=by
 refine⟨fun i c hc=>KY.1 (h.q _ _ (hK i c hc)),fun i j c d hij hc hd k hk dW=>?_⟩
 rw [<- oK] at hk dW
 exact h.qz (π i) (π j) _ _ (fun e=>hij (inj i j c d hc hd e)) (hK i c hc) (hK j d hd) k hk dW
def nu (N:dV AV) (K:Hp AV) (l:l8) (S:Nat->Prop) (w:World):Prop:=∃ρ:Nm,ρ.L 0=l /\ Y8 N ρ K w /\ ∀k,S k↔fpH ρ K k
def qT (P:Program) (N:dV AV) (f:FuncId) (args:List SV) (H:Hp AV) (v:SV) (H':Hp AV):Prop :=
 fh H' v /\ dM N H' /\ ∀(ρ:Nm) (w:World),eZ N ρ H w ->
  Calls P f (args.map (SV.aq ρ)).toArray w fun e w'=>∃ρ',e=.returned (v.aq ρ') /\ eZ N ρ' H' w' /\ iZ N H.length ρ H w ρ' H' w'
theorem cD.ctr {f:FuncId} {g:List SV->Hp AV->T (SV×Hp AV)} (h:cD P N f g) {args:List SV} {H:Hp AV} {v:SV} {H':Hp AV} (hr:(g args H).val=some (v,H')) (ha:∀x∈args,fh H x) (hC:dM N H):qT P N f args H v H' :=
 h args H v H' hr ha hC
theorem cD.of {f:FuncId} {g:List SV->Hp AV->T (SV×Hp AV)} (h:∀args H v H',(g args H).val=some (v,H')->(∀x∈args,fh H x)->dM N H->qT P N f args H v H'):cD P N f g:=h
section aaI
def K5 (n L i:Nat):Nat:=match i with
 | 0=>n
 | i+1=>L+i
def RJ (π:Nat->Nat):Option (aG AV)->Option (aG AV)
 | some c=>some (c.cN π)
 | none=>none
def pG (H:Hp AV) (n:Nat):Hp AV->Hp AV
 | []=>H
 | k::r=>cV H n (RJ (K5 n H.length) k)++r.map (RJ (K5 n H.length))
theorem LU (π:Nat->Nat):∀(r:Hp AV) (i:Nat),ae (r.map (RJ π)) i=RJ π (ae r i)
 | [],i=>by cases i<;>rfl
 | x::r,0=>rfl
 | x::r,i+1=>LU π r i
theorem bo:∀(A B:Hp AV) (i:Nat),ae (A++B) i=if i < A.length then ae A i else ae B (i - A.length)
 | [],B,i=>by simp
 | x::r,B,0=>by simp [ae]
 | x::r,B,i+1=>by
   simp only [adF,ae,bo r B i,abn,Nat.add_lt_add_iff_right,Nat.add_sub_add_right]
theorem Sd (H:Hp AV) {n:Nat} (h:n < H.length) (x:Option (aG AV)):ae (cV H n x) n=x:=by
 cases x with
 | some c=>exact cg c h
 | none=>simp [hget_eq,lset_eq,h]
theorem AO {H K:Hp AV} {n:Nat} (hn:n < H.length) (hK:K≠[]) (m:Nat):ae (pG H n K) m=if m=n then RJ (K5 n H.length) (ae K 0) else if m < H.length then ae H m else RJ (K5 n H.length) (ae K (m - H.length+1)):=by
 cases K with
 | nil=>exact absurd rfl hK
 | cons k r =>
   simp only [pG]
   rw [bo,ec]
   by_cases h1:m=n
   ·subst h1
    rw [if_pos hn,if_pos rfl,Sd H hn]
    rfl
   ·rw [if_neg h1]
    by_cases h2:m < H.length
    ·rw [if_pos h2,if_pos h2,bp _ (Ne.symm h1)]
    ·rw [if_neg h2,if_neg h2,LU]
     rfl
theorem K6 {H K:Hp AV} {n:Nat} (du:n < H.length) (hKn:K≠[]):∀m c,ae (pG H n K) m=some c->(m≠n /\ m < H.length /\ ae H m=some c) \/ ∃i d,m=K5 n H.length i /\ ae K i=some d /\ c=d.cN (K5 n H.length):=fun m c h=>by
 rw [AO du hKn] at h
 by_cases h1:m=n
 ·rw [if_pos h1] at h
  cases hk:ae K 0 with
  | none=>rw [hk] at h;cases h
  | some d=>rw [hk] at h;cases h;exact .inr ⟨0,d,h1,hk,rfl⟩
 ·rw [if_neg h1] at h
  by_cases h2:m < H.length
  ·rw [if_pos h2] at h;exact .inl ⟨h1,h2,h⟩
  ·rw [if_neg h2] at h
   cases hk:ae K (m - H.length+1) with
   | none=>rw [hk] at h;cases h
   | some d=>rw [hk] at h;cases h;exact .inr ⟨m - H.length+1,d,by show m=H.length+(m - H.length);omega,hk,rfl⟩
theorem VT {ρ:Nm} {H K:Hp AV} {w:World} (hO:eZ N ρ H w) (hC:dM N H) {n:Nat} {a:AV} (hn:ae H n=some (.bI a)) (Qp:∃c,ae K 0=some c) (hGn:N.G<=n) (hq:∀l S w,N.F.q a l S w->nu N K l S w) :
 ∃ρ',eZ N ρ' (pG H n K) w /\ (∀m,m < H.length->ρ'.L m=ρ.L m) /\ (∀m,m < H.length->m≠n->ρ'.S m=ρ.S m) /\ ∀k,ρ.S n k↔∃i d,ae K i=some d /\ (d.cN (K5 n H.length)).fp ρ' (K5 n H.length i) k:=by
 have du:=bQ hn
 have hKn:K≠[]:=by rintro rfl;obtain⟨c,hc⟩:=Qp;cases hc
 obtain⟨ρ0,h0,hL,hS⟩:=hq _ _ _ (hO.q n _ hn)
 let ρ':Nm:=⟨fun m=>if m < H.length then ρ.L m else ρ0.L (m - H.length+1),fun m=>if m=n then ρ0.S 0 else if m < H.length then ρ.S m else ρ0.S (m - H.length+1)⟩
 have eL:∀m,m < H.length->ρ'.L m=ρ.L m:=fun m hm=>if_pos hm
 have eS:∀m,m < H.length->m≠n->ρ'.S m=ρ.S m:=fun m hm dA=>by show (if m=n then _ else _)=_;rw [if_neg dA,if_pos hm]
 have er:ρ'.cN (K5 n H.length)=ρ0:=by
  have e1:∀i,ρ'.L (K5 n H.length i)=ρ0.L i:=fun i=>by
   cases i with
   | zero=>rw [show K5 n H.length 0=n from rfl,eL n du,h0]
   | succ i =>
     show (if H.length+i < H.length then _ else ρ0.L (H.length+i - H.length+1))=_
     rw [if_neg (by omega),aeu]
  have e2:∀i,ρ'.S (K5 n H.length i)=ρ0.S i:=fun i=>by
   cases i with
   | zero=>exact if_pos rfl
   | succ i =>
     show (if H.length+i=n then _ else if H.length+i < H.length then _ else ρ0.S (H.length+i - H.length+1))=_
     rw [if_neg (by omega),if_neg (by omega),aeu]
  unfold Nm.cN
  rw [show (fun i=>ρ'.L (K5 n H.length i))=ρ0.L from funext e1,show (fun i=>ρ'.S (K5 n H.length i))=ρ0.S from funext e2]
 have rq:=K6 (H:=H) (K:=K) du hKn
 have XO:∀i (d:aG AV),(d.cN (K5 n H.length)).fp ρ' (K5 n H.length i)=d.fp ρ0 i:=fun i d=>by rw [oK,er]
 have fpm:∀m (c:aG AV),m < H.length->m≠n->c.fp ρ' m=c.fp ρ m:=fun m c hm dA=>cQ (eL m hm) (eS m hm dA)
 have sub:∀m c k,ae (pG H n K) m=some c->c.fp ρ' m k->∃m' d,ae H m'=some d /\ d.fp ρ m' k:=fun m c k hc hk=>by
  rcases rq m c hc with⟨h1,h2,h3⟩ | ⟨i,d,rfl,h3,rfl⟩
  ·rw [fpm m c h2 h1] at hk;exact⟨m,c,h3,hk⟩
  ·rw [XO] at hk;exact⟨n,_,hn,(hS k).2 ⟨i,d,h3,hk⟩⟩
 refine⟨ρ',hO.sub ⟨fun m c hc=>?_,fun m m' c d dA hc hd k hk dW=>?_,fun g hg=>?_⟩ sub,eL,eS,fun k=>?_⟩
 ·rcases rq m c hc with⟨h1,h2,h3⟩ | ⟨i,d,rfl,h3,rfl⟩
  ·exact oF (hO.q m c h3) (eL m h2) (eS m h2 h1) (dF (hC.1 m c h3) fun x y hy=>eL x (bQ hy)) (fun _ _=>rfl)
  ·rw [KY,er];exact hL.q i d h3
 ·rcases rq m c hc with⟨h1,h2,h3⟩ | ⟨i,d',rfl,h3,rfl⟩
  ·rcases rq m' d hd with⟨g1,g2,g3⟩ | ⟨j,e',rfl,g3,rfl⟩
   ·rw [fpm m c h2 h1] at hk
    rw [fpm m' d g2 g1] at dW
    exact hO.qz m m' c d dA h3 g3 k hk dW
   ·rw [fpm m c h2 h1] at hk
    rw [XO] at dW
    exact hO.qz m n c _ h1 h3 hn k hk ((hS k).2 ⟨j,e',g3,dW⟩)
  ·rcases rq m' d hd with⟨g1,g2,g3⟩ | ⟨j,e',rfl,g3,rfl⟩
   ·rw [fpm m' d g2 g1] at dW
    rw [XO] at hk
    exact hO.qz m' n d _ g1 g3 hn k dW ((hS k).2 ⟨i,d',h3,hk⟩)
   ·rw [XO] at hk dW
    exact hL.qz i j d' e' (fun e=>dA (by rw [e])) h3 g3 k hk dW
 ·have:ρ' g=ρ g:=by simp only [Nm.f,eL g (by omega)]
  rw [this];exact hO.qW g hg
 ·rw [hS k]
  constructor
  ·rintro ⟨i,d,h1,h2⟩
   exact⟨i,d,h1,by rw [XO];exact h2⟩
  ·rintro ⟨i,d,h1,h2⟩
   exact⟨i,d,h1,by rw [XO] at h2;exact h2⟩
end aaI
theorem mL.cN {H B:Hp AV} {π:Nat->Nat} (h:∀i c,ae H i=some c->∃d,ae B (π i)=some d) {l:List Cell} (hl:mL H l):mL B (l.map (Cell.cN π)):=by
 intro c hc n hn
 obtain⟨d,hd,rfl⟩:=adK.1 hc
 rw [yT] at hn
 obtain⟨m,hm,rfl⟩:=abu.1 hn
 obtain⟨x,hx⟩:=hl d hd m hm
 exact h m x hx
theorem fh.cN {H B:Hp AV} {π:Nat->Nat} (h:∀i c,ae H i=some c->∃d,ae B (π i)=some d) {v:SV} (hl:fh H v):fh B (v.cN π):=by
 have one:∀x:V1,jG H x->jG B (x.cN π):=fun x hx=>by
  cases x with
  | c x =>
    have:=mL.cN h (l:=[x]) hx
    simpa [jG,V1.cells,V1.cN] using this
  | agg l=>exact mL.cN h hx
 cases v with
 | v x=>exact one x hl
 | ji l =>
   intro x hx
   obtain⟨y,hy,rfl⟩:=adK.1 hx
   exact one y (hl y hy)
 | lE=>trivial
 | wJ f l=>exact mL.cN h (l:=l) hl
open Classical in
theorem HX {f:FuncId} {args:List SV} {H:Hp AV} {v:SV} {H':Hp AV} (hc:qT P N f args H v H') {B B':Hp AV} {π:Nat->Nat} (hπ:∀i c,ae H i=some c->ae B (π i)=some (c.cN π))
 (inj:∀i j c d,ae H' i=some c->ae H' j=some d->π i=π j->i=j) (s8:∀i c,ae H i=some c->∃d,ae H' i=some d) (hg:∀g,g < N.G->π g=g) (hCB:dM N B)
 (AL:∀i c,ae H' i=some c->ae H i=none->B.length<=π i) (hGB:N.G<=B.length)
 (hB:∀m c,ae B' m=some c->(∃i d,m=π i /\ ae H' i=some d /\ c=d.cN π) \/ (ae B m=some c /\ ∀i d,ae H' i=some d->π i≠m))
 (hB2:∀i d,ae H' i=some d->ae B' (π i)=some (d.cN π)) (dw:∀m c,ae B m=some c->∃c',ae B' m=some c') (GY:∀m,m < B.length->ae B m=none->ae B' m=none) (len:B.length<=B'.length) :
 qT P N f (args.map (SV.cN π)) B (v.cN π) B':=by
 obtain⟨hv,hC',LW⟩:=hc
 have up:∀i c,ae H' i=some c->∃d,ae B' (π i)=some d:=fun i c h=>⟨_,hB2 i c h⟩
 have arv:dM N B':=by
  refine⟨fun m c h=>?_,trivial⟩
  rcases hB m c h with⟨i,d,rfl,h1,rfl⟩ | ⟨h1,_⟩
  ·rw [BQ];exact mL.cN up (hC'.1 i d h1)
  ·exact(hCB.1 m c h1).mono dw
 refine⟨hv.cN up,arv,fun ρ w hO=>?_⟩
 have aqn:∀i j c d,ae H i=some c->ae H j=some d->π i=π j->i=j:=fun i j c d h1 h2 e=>by
  obtain⟨c',nC⟩:=s8 i c h1
  obtain⟨d',AR⟩:=s8 j d h2
  exact inj i j c' d' nC AR e
 have hOc:eZ N (ρ.cN π) H w:=by
  have:=hO.toL.sub hπ aqn
  refine⟨⟨this.q,this.qz,fun g hgG=>?_⟩,hO.ro.1,fun i c k h hk=>hO.ro.2 (π i) _ k (hπ i c h) (by rw [oK];exact hk)⟩
  show (ρ.L (π g)).b=g
  rw [hg g hgG];exact hO.qW g hgG
 have On:(args.map (SV.cN π)).map (SV.aq ρ)=args.map (SV.aq (ρ.cN π)):=by
  rw [List.map_map]
  exact ad7 fun x _=>SV.lA ρ π x
 rw [On]
 refine(LW _ w hOc).mono ?_
 rintro e w' ⟨ρ',rfl,LZ,hE⟩
 let ρ2:Nm:=⟨fun m=>if h:∃i d,m=π i /\ ae H' i=some d then ρ'.L h.choose else ρ.L m,fun m=>if h:∃i d,m=π i /\ ae H' i=some d then ρ'.S h.choose else ρ.S m⟩
 have im:∀i d,ae H' i=some d->ρ2.L (π i)=ρ'.L i /\ ρ2.S (π i)=ρ'.S i:=fun i d hd=>by
  have hex:∃j e,π i=π j /\ ae H' j=some e:=⟨i,d,rfl,hd⟩
  have hch:hex.choose=i:=by
   obtain⟨e,h1,h2⟩:=hex.choose_spec
   exact(inj i _ d e hd h2 h1).symm
  constructor
  ·show (if h:∃j e,π i=π j /\ ae H' j=some e then _ else _)=_
   rw [dif_pos hex,hch]
  ·show (if h:∃j e,π i=π j /\ ae H' j=some e then _ else _)=_
   rw [dif_pos hex,hch]
 have out:∀m,(∀i d,ae H' i=some d->π i≠m)->ρ2.L m=ρ.L m /\ ρ2.S m=ρ.S m:=fun m hm=>by
  have hex:¬∃j e,m=π j /\ ae H' j=some e:=by
   rintro ⟨j,e,h1,h2⟩
   exact hm j e h2 h1.symm
  exact⟨dif_neg hex,dif_neg hex⟩
 have cU:∀m c,ae B m=some c->ρ2.L m=ρ.L m:=fun m c h=>by
  by_cases hex:∃i d,m=π i /\ ae H' i=some d
  ·obtain⟨i,d,rfl,hd⟩:=hex
   rw [(im i d hd).1]
   cases hh:ae H i with
   | none=>have:=AL i d hd hh;have:=bQ h;omega
   | some x=>exact hE.jV i x hh
  ·exact(out m fun i d hd e=>hex ⟨i,d,e.symm,hd⟩).1
 have fpi:∀i d,ae H' i=some d->(d.cN π).fp ρ2 (π i)=d.fp ρ' i:=fun i d hd=>by
  rw [oK]
  exact cQ (im i d hd).1 (im i d hd).2
 have XO:∀m (c:aG AV),(∀i d,ae H' i=some d->π i≠m)->c.fp ρ2 m=c.fp ρ m:=fun m c hm=>cQ (out m hm).1 (out m hm).2
 have small:∀i d k,ae H' i=some d->d.fp ρ' i k->w.heap.size<=k \/ ∃j e,ae H j=some e /\ (e.cN π).fp ρ (π j) k:=fun i d k hd hk=>by
  rcases hE.new i d k hd hk with h1 | ⟨j,e,h1,h2⟩
  ·exact .inl h1
  ·exact .inr ⟨j,e,h1,by rw [oK];exact h2⟩
 have apart:∀m c i d k,ae B m=some c->(∀i d,ae H' i=some d->π i≠m)->ae H' i=some d->c.fp ρ m k->d.fp ρ' i k->False:=fun m c i d k hc hm hd hk dW=>by
  rcases small i d k hd dW with h1 | ⟨j,e,h1,h2⟩
  ·have:=hO.lt hc hk;omega
  ·obtain⟨e',he'⟩:=s8 j e h1
   exact hO.qz m (π j) c _ (fun e=>hm j e' he' e.symm) hc (hπ j e h1) k hk h2
 refine⟨ρ2,?_,hO.up2 ⟨⟨fun m c h=>?_,fun m m' c d dA h h' k hk dW=>?_,fun g hgG=>?_⟩,⟨dw,cU,GY,len,fun k hk tC=>?_,fun m c k h hk=>?_,hE.os,hE.tape,hE.output,hE.size⟩⟩⟩
 ·congr 1
  rw [SV.lA]
  exact(SV.b4 hv fun i c h=>(im i c h).1).symm
 ·rcases hB m c h with⟨i,d,rfl,h1,rfl⟩ | ⟨h1,h2⟩
  ·rw [KY]
   exact oF (LZ.q i d h1) (im i d h1).1 (im i d h1).2 (dF (hC'.1 i d h1) fun j x hx=>(im j x hx).1) (fun _ _=>rfl)
  ·refine oF (hO.q m c h1) (out m h2).1 (out m h2).2 (dF (hCB.1 m c h1) cU) fun k hk=>?_
   refine hE.mE k (hO.lt h1 hk) fun i d hd dW=>?_
   obtain⟨d',AR⟩:=s8 i d hd
   rw [<- oK] at dW
   exact hO.qz m (π i) c _ (fun e=>h2 i d' AR e.symm) h1 (hπ i d hd) k hk dW
 ·rcases hB m c h with⟨i,x,rfl,h1,rfl⟩ | ⟨h1,h2⟩
  ·rw [fpi i x h1] at hk
   rcases hB m' d h' with⟨j,y,rfl,g1,rfl⟩ | ⟨g1,g2⟩
   ·rw [fpi j y g1] at dW
    exact LZ.qz i j x y (fun e=>dA (by rw [e])) h1 g1 k hk dW
   ·rw [XO m' d g2] at dW
    exact apart m' d i x k g1 g2 h1 dW hk
  ·rw [XO m c h2] at hk
   rcases hB m' d h' with⟨j,y,rfl,g1,rfl⟩ | ⟨g1,g2⟩
   ·rw [fpi j y g1] at dW
    exact apart m c j y k h1 h2 g1 hk dW
   ·rw [XO m' d g2] at dW
    exact hO.qz m m' c d dA h1 g1 k hk dW
 ·by_cases hex:∃d,ae H' g=some d
  ·obtain⟨d,hd⟩:=hex
   have:=(im g d hd).1
   rw [hg g hgG] at this
   show (ρ2.L g).b=g
   rw [this];exact LZ.qW g hgG
  ·show (ρ2.L g).b=g
   by_cases hi:∃i d,ae H' i=some d /\ π i=g
   ·obtain⟨i,d,hd,e⟩:=hi
    have h3:=(im i d hd).1
    rw [e] at h3
    cases hh:ae H i with
    | none =>
      have h1:=AL i d hd hh
      omega
    | some x =>
      rw [h3,hE.jV i x hh]
      show (ρ.L (π i)).b=g
      rw [e];exact hO.qW g hgG
   ·rw [(out g fun i d hd e=>hi ⟨i,d,hd,e⟩).1];exact hO.qW g hgG
 ·refine hE.mE k hk fun i d hd dW=>?_
  rw [<- oK] at dW
  exact tC (π i) _ (hπ i d hd) dW
 ·rcases hB m c h with⟨i,d,rfl,h1,rfl⟩ | ⟨h1,h2⟩
  ·rw [fpi i d h1] at hk
   rcases small i d k h1 hk with h2 | ⟨j,e,h2,h3⟩
   ·exact .inl h2
   ·exact .inr ⟨π j,_,hπ j e h2,h3⟩
  ·rw [XO m c h2] at hk
   exact .inr ⟨m,c,h1,hk⟩
