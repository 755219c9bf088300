import Derived.Test.YtadmfaohjnjajaaGreatDoorSxZ
set_option linter.unusedVariables false
set_option linter.unusedSimpArgs false
set_option maxHeartbeats 4000000
namespace Go.Sx
section
variable {AV:Type} {P:Program} {N:Env AV}
theorem gz (w:World) (t ty e:TypeId) (i:TypeInfo) (hu:P.underlying t=some (.slice e)) (hi:P.info? e=some i) {a b:Option Addr} {n cap cap2:Nat} (hle:n<=cap) :
 (Builtin.append_ #[t,t] ty #[.slice a n cap,.slice b 0 cap2]).run P w=.ok (.slice a n cap) w:=by
 have hf:(Builtin.firstCells i.size 0 (.slice b 0 cap2)).run P w=.ok #[] w:=by
  cases b with
  | none=>simp [Builtin.firstCells]
  | some q=>simp only [Builtin.firstCells,Nat.zero_mul];exact zF q w
 cases a with
 | none=>simp [Builtin.append_,run_underlying hu,sizeOf,typeInfo,hi,Builtin.lenOf,hle,hf]
 | some q=>simp [Builtin.append_,run_underlying hu,sizeOf,typeInfo,hi,Builtin.lenOf,hle,hf,storeCells]
theorem vf {l:Loc} {S:Nat->Prop} {cs:List Value} {es:Nat} {ty:TypeId} {w:World} (h:iC l S cs es ty w) (j:Nat) (v:Value) (hv:cs[j]?=some v):w.cell? ((⟨l.b,l.o,none⟩:Addr).add j)=some v:=by
 have e:(⟨l.b,l.o,none⟩:Addr).add j=⟨l.b,l.o+j,none⟩:=by
  unfold Addr.add
  by_cases hj:j=0<;>simp [hj]
 rw [e]
 rcases h with⟨_,h0,_⟩ | ⟨_,_,row,h2,_,_,h5⟩
 ·rw [h0] at hv;simp at hv
 ·have:=h5 j v hv
  simp only [World.cell?,h2]
  simpa using this
theorem fR {l:Loc} {S:Nat->Prop} {cs:List Value} {es:Nat} {ty:TypeId} {w:World} (h:iC l S cs es ty w):CA l cs es w:=by
 refine⟨?_,vf h⟩
 rcases h with⟨_,h0,_⟩ | ⟨_,_,row,_,_,hc,_⟩
 ·rw [h0];exact Nat.zero_le _
 ·exact hc
theorem qQ {l:Loc} {S:Nat->Prop} {cs:List Value} {es:Nat} {ty:TypeId} {w:World} (h:iC l S cs es ty w) (hes:0 < es) {n:Nat} (hn:cs.length=n * es):n<=l.c - 1:=by
 rcases h with⟨_,h0,_⟩ | ⟨_,_,row,_,_,hc,_⟩
 ·rw [h0] at hn
  rcases Nat.mul_eq_zero.1 (show n * es=0 from hn.symm) with h0 | h0<;>omega
 ·rw [hn] at hc
  exact Nat.le_of_mul_le_mul_right hc hes
theorem vsDen_eq (l:Loc) (len es:Nat):aW l 0 len es=if len=0 /\ l.c=0 then .slice none 0 0 else .slice (some ⟨l.b,l.o,none⟩) len (l.c - 1):=by
 simp [aW]
theorem yB {t e:TypeId} {i:TypeInfo} {z:Value} (hu:P.underlying t=some (.slice e)) (hi:P.info? e=some i) (hz:i.zero=some z) (hzs:z.cells.size=i.size) (hpos:0 < i.size)
 {w:World} {l1:Loc} {S1:Nat->Prop} {vs:List Value} (h1:iC l1 S1 vs i.size e w) {len:Nat} (hlen:vs.length=len * i.size)
 {l2:Loc} {us:List Value} (h2:CA l2 us i.size w) {k:Nat} (hk:us.length=k * i.size) (hone:∀u∈us,u.oneCell'=true)
 (hfit:(len+k) * (i.bytes+1)<=lim) (ty:TypeId) :
 ∃r w',(Builtin.append_ #[t,t] ty #[aW l1 0 len i.size,aW l2 0 k i.size]).run P w=.ok r w' /\ ∃lc S',r=aW lc 0 (len+k) i.size /\ iC lc S' (vs++us) i.size e w' /\ Fr S1 S' w w':=by
 have f1:=qQ h1 hpos hlen
 have f2:k<=l2.c - 1:=Nat.le_of_mul_le_mul_right (by rw [<- hk];exact h2.1) hpos
 have hgrown:∀(w:World) (need old:Nat),(Builtin.zeroCells z.cells (grownCap w need old e - need)).size=(grownCap w need old e - need) * i.size:=fun w need old=>by rw [size_zeroCells,hzs]
 have hkb:(len+k) * i.bytes<=lim:=Nat.le_trans (Nat.mul_le_mul_left _ (Nat.le_succ _)) hfit
 have hkn:len+k<=lim:=by
  have:(len+k) * 1<=(len+k) * (i.bytes+1):=Nat.mul_le_mul_left _ (by omega)
  omega
 simp only [lim] at hkb hkn
 have fresh:∀old,∃lc S',Value.slice (some ⟨w.heap.size,0,none⟩) (len+k) (grownCap w (len+k) old e)=aW lc 0 (len+k) i.size /\
  iC lc S' (vs++us) i.size e (w.drew.alloc (.cells (vs.toArray++us.toArray++Builtin.zeroCells z.cells (grownCap w (len+k) old e - (len+k))) e)) /\
  Fr S1 S' w (w.drew.alloc (.cells (vs.toArray++us.toArray++Builtin.zeroCells z.cells (grownCap w (len+k) old e - (len+k))) e)):=by
  intro old
  have hge:=grownCap_ge w (len+k) old e
  refine⟨⟨w.heap.size,0,grownCap w (len+k) old e+1⟩,fun k=>k=w.heap.size,by rw [vsDen_eq];simp,.inr ⟨by simp,fun k=>Iff.rfl,(vs.toArray++us.toArray++Builtin.zeroCells z.cells (grownCap w (len+k) old e - (len+k))).toList,?_,?_,?_,?_⟩,?_⟩
  ·show (w.drew.heap.push _)[w.heap.size]?=_
   have hh:w.drew.heap=w.heap:=rfl
   rw [hh,Array.getElem?_push_size,Array.toArray_toList]
  ·simp only [Array.length_toList,Array.size_append,hgrown,List.size_toArray,hlen,hk,Nat.zero_add,Nat.add_sub_cancel]
   rw [<- Nat.add_mul,<- Nat.add_mul]
   exact Nat.mul_le_mul_right _ (by omega)
  ·simp only [List.length_append,hlen,hk,Nat.add_sub_cancel]
   rw [<- Nat.add_mul]
   exact Nat.mul_le_mul_right _ hge
  ·intro j v hv
   have hj:=(List.getElem?_eq_some_iff.1 hv).1
   simp only [Nat.zero_add,Array.toList_append]
   rw [List.getElem?_append_left (by simpa using hj)]
   simpa using hv
  ·refine⟨fun b hb _=>?_,fun b hb=>.inl (by show w.heap.size<=b;rw [show b=w.heap.size from hb];omega),rfl,rfl,rfl,?_⟩
   ·show (w.drew.heap.push _)[b]?=_
    rw [Array.getElem?_push]
    have:w.drew.heap=w.heap:=rfl
    rw [this,if_neg (by omega)]
   ·show w.heap.size<=(w.drew.heap.push _).size
    have:w.drew.heap=w.heap:=rfl
    rw [this];simp
 rcases Nat.eq_zero_or_pos k with rfl | hkp
 ·-- nothing is appended
  have hu0:us=[]:=List.length_eq_zero_iff.1 (by rw [hk];simp)
  have hx:∃b c2,aW l2 0 0 i.size=.slice b 0 c2:=by rw [vsDen_eq];split<;>exact⟨_,_,rfl⟩
  obtain⟨b,c2,hx⟩:=hx
  refine⟨aW l1 0 len i.size,w,?_,l1,S1,by simp,by rw [hu0,List.append_nil];exact h1,⟨fun _ _ _=>rfl,fun _ h=>.inr h,rfl,rfl,rfl,Nat.le_refl _⟩⟩
  rw [hx,vsDen_eq]
  split
  ·rename_i h0;rw [gz w t ty e i hu hi (Nat.le_refl 0)]
  ·rw [gz w t ty e i hu hi f1]
 ·have hc2:l2.c≠0:=by omega
  have hx:aW l2 0 k i.size=.slice (some ⟨l2.b,l2.o,none⟩) k (l2.c - 1):=by rw [vsDen_eq,if_neg (by omega)]
  have hcells:=h2.2
  by_cases hc1:l1.c=0
  ·have hl0:len=0:=by omega
   subst hl0
   have hv0:vs=[]:=List.length_eq_zero_iff.1 (by rw [hlen];simp)
   subst hv0
   simp only [Nat.zero_add] at hkb hkn ⊢
   have hr:=run_append_nil (P:=P) w t ty e i z hu hi hz ⟨l2.b,l2.o,none⟩ k (l2.c - 1) us hk hcells hkp (by omega) (by omega)
   obtain⟨lc,S',g1,g2,g3⟩:=fresh 0
   simp only [Nat.zero_add] at g1 g2 g3
   refine⟨_,_,by rw [hx,vsDen_eq,if_pos ⟨rfl,hc1⟩];exact hr,lc,S',g1,?_,?_⟩
   ·simpa using g2
   ·simpa using g3
  ·have hs:aW l1 0 len i.size=.slice (some ⟨l1.b,l1.o,none⟩) len (l1.c - 1):=by rw [vsDen_eq,if_neg (fun h=>hc1 h.2)]
   by_cases hroom:len+k<=l1.c - 1
   ·-- there is room
    rcases h1 with⟨h0,_⟩ | ⟨hcp,hS,row,hrow,hrl,hll,hat⟩
    ·omega
    ·have hmul:len * i.size+k * i.size<=(l1.c - 1) * i.size:=by
      rw [<- Nat.add_mul];exact Nat.mul_le_mul_right _ hroom
     have hp:l1.o+len * i.size+us.length<=row.length:=by rw [hk];omega
     have hr:=lH (P:=P) w t ty e i hu hi l1.b l1.o len (l1.c - 1) row.toArray e hrow ⟨l2.b,l2.o,none⟩ k (l2.c - 1) us hk hcells hone hroom (by simpa using hp)
     simp only at hr
     refine⟨_,_,by rw [hx,hs];exact hr,l1,S1,by rw [vsDen_eq,if_neg (by omega)],.inr ⟨hcp,hS,_,setRow_heap w l1.b _ _ e (0,0) hrow,?_,?_,?_⟩,⟨fun b hb hn=>setRow_other w l1.b b _ (fun e=>hn ((hS b).2 e)),fun b hb=>.inr hb,rfl,rfl,rfl,by simp [World.setRow]⟩⟩
     ·simp only [List.length_append,List.length_take,List.length_drop]
      omega
     ·simp only [List.length_append,hlen,hk];omega
     ·intro j v hv
      rw [rm hp]
      by_cases hj:j < len * i.size
      ·rw [if_pos (by omega)]
       rw [List.getElem?_append_left (by omega)] at hv
       exact hat j v hv
      ·rw [if_neg (by omega)]
       rw [List.getElem?_append_right (by omega)] at hv
       have hj2:=(List.getElem?_eq_some_iff.1 hv).1
       rw [if_pos (by omega),<- hv]
       congr 1
       omega
   ·have hr:=run_append_grow (P:=P) w t ty e i z hu hi hz ⟨l1.b,l1.o,none⟩ len (l1.c - 1) vs hlen (vf h1) ⟨l2.b,l2.o,none⟩ k (l2.c - 1) us hk hcells (by omega) (by omega) (growslice_fits (by omega) (by omega))
    obtain⟨lc,S',g1,g2,g3⟩:=fresh (l1.c - 1)
    exact⟨_,_,by rw [hx,hs];exact hr,lc,S',g1,g2,g3⟩
def DO (F:Intf AV) (si:SI) (H:Hp AV):Cell->Option (Nat×AV×Nat)
 | .vs n o len es _=>match Nat.beq o 0,Nat.beq es si.size,ab H n with
   | true,true,some (.abs a)=>match F.arr a with
     | some (e1,ty,_)=>match Nat.beq e1 si.size,Nat.beq ty si.e with
       | true,true=>some (n,a,len)
       | _,_=>none
     | none=>none
   | _,_,_=>none
 | _=>none
def BS (F:Intf AV) (si:SI) (H:Hp AV):Cell->Option (Nat×AV×Nat)
 | .vs n o len es _=>match Nat.beq o 0,Nat.beq es si.size,ab H n with
   | true,true,some (.abs a)=>match F.src a with
     | some b=>match F.arr b with
       | some (e1,ty,_)=>match Nat.beq e1 si.size,Nat.beq ty si.e with
         | true,true=>some (n,b,len)
         | _,_=>none
       | none=>none
     | none=>none
   | _,_,_=>none
 | _=>none
def DT (si:SI) (H:Hp AV):Cell->Option (Option Nat)
 | .snil=>some none
 | .sf _ _ es true _ _=>match Nat.beq es si.size with | true=>some none | false=>none
 | .vs n o len es true=>match Nat.beq o 0,Nat.beq len 0,Nat.beq es si.size,ab H n with
   | true,true,true,some (.vec _ es' ty)=>match Nat.beq es' si.size,Nat.beq ty si.e with
     | true,true=>some (some n)
     | _,_=>none
   | _,_,_,_=>none
 | _=>none
def Tt (d:Option Nat) (n:Nat):Bool:=match d with | some m=>Nat.beq m n | none=>false
def Ue (F:Intf AV) (si:SI) (G:Nat) (s x:Cell) (H:Hp AV):T (SV×Hp AV) :=
 match Nat.ble G H.length,DO F si H s,BS F si H x with
 | true,some (n1,a,len),some (n2,b,k)=>match Nat.beq n1 n2,F.cat a b with
   | false,some c=>.need (decide (len=F.len a /\ k=F.len b /\ (len+k) * (si.bytes+1)<=lim)) (.leaf (.v (.c (.vs H.length 0 (len+k) si.size false)),cU H (some n1)++[some (.abs c)]))
   | _,_=>.fail "append: arrays"
 | true,none,some (n2,b,k)=>match DT si H s with
   | some d=>match Tt d n2 with
     | false=>.need (decide (k=F.len b /\ k * (si.bytes+1)<=lim)) (.leaf (.v (.c (.vs H.length 0 k si.size false)),cU H d++[some (.abs b)]))
     | true=>.fail "append: arrays"
   | none=>.fail "append: arrays"
 | true,some (n1,a,len),none=>match tZ x with
   | true=>.need (decide (len<=F.len a)) (.leaf (.v (.c s),H))
   | false=>match x with
     | .vs n2 o2 k es true=>match cI H si.size (.vs n2 o2 k es true),Nat.beq n1 n2 with
       | some news,false=>match F.app a news with
         | some c=>.need (decide (len=F.len a /\ (len+k) * (si.bytes+1)<=lim)) (.leaf (.v (.c (.vs H.length 0 (len+k) si.size false)),cU H (some n1)++[some (.abs c)]))
         | none=>.fail "append: arrays"
       | _,_=>.fail "append: arrays"
     | _=>.fail "append: arrays"
 | _,_,_=>.fail "append: arrays"
theorem uV {F:Intf AV} {si:SI} {H:Hp AV} {x:Cell} {n len:Nat} {b:AV} (h:BS F si H x=some (n,b,len)):∃kn a vs,x=.vs n 0 len si.size kn /\ ab H n=some (.abs a) /\ F.src a=some b /\ F.arr b=some (si.size,si.e,vs):=by
 unfold BS at h
 split at h
 ·split at h
  ·split at h
   ·split at h
    ·split at h
     ·rename_i h1 h2 h3 _ _ h7 _ _ _ _ h4 _ _ h5 h6
      have h1:=(ai _ _).1 h1
      have h2:=(ai _ _).1 h2
      have h5:=(ai _ _).1 h5
      have h6:=(ai _ _).1 h6
      subst h1 h2 h5 h6
      simp only [Option.some.injEq,Prod.mk.injEq] at h
      obtain⟨rfl,rfl,rfl⟩:=h
      exact⟨_,_,_,rfl,h3,h7,h4⟩
     ·cases h
    ·cases h
   ·cases h
  ·cases h
 ·cases h
theorem m8 {F:Intf AV} {si:SI} {H:Hp AV} {x:Cell} {n len:Nat} {a:AV} (h:DO F si H x=some (n,a,len)):∃kn vs,x=.vs n 0 len si.size kn /\ ab H n=some (.abs a) /\ F.arr a=some (si.size,si.e,vs):=by
 unfold DO at h
 split at h
 ·split at h
  ·split at h
   ·split at h
    ·rename_i h1 h2 h3 _ _ _ _ h4 _ _ h5 h6
     have h1:=(ai _ _).1 h1
     have h2:=(ai _ _).1 h2
     have h5:=(ai _ _).1 h5
     have h6:=(ai _ _).1 h6
     subst h1 h2 h5 h6
     simp only [Option.some.injEq,Prod.mk.injEq] at h
     obtain⟨rfl,rfl,rfl⟩:=h
     exact⟨_,_,rfl,h3,h4⟩
    ·cases h
   ·cases h
  ·cases h
 ·cases h
theorem su {ρ:Nm} {H:Hp AV} {w w':World} (hO:Own N ρ H w) (hC:bU N H) (hG:N.G<=H.length) {d:Option Nat} (hd:∀n,d=some n->∃c,ab H n=some c) {c:AV} {es:Nat} {ty:TypeId} {vs:List Value} (hc:N.F.arr c=some (es,ty,vs))
 {lc:Loc} {S S':Nat->Prop} (hS:∀k,S k->∃n x,d=some n /\ ab H n=some x /\ x.fp ρ n k) (hv:iC lc S' vs es ty w') (hf:Fr S S' w w') :
 Own N (ρ.set H.length lc S') (cU H d++[some (.abs c)]) w' /\ Evo N H.length ρ H w (ρ.set H.length lc S') (cU H d++[some (.abs c)]) w':=by
 have:=wX (w':=w') hO hC hG (d:=d) (ck:=.abs c) hd (fun x hx=>by cases hx) (lc:=lc) (S:=S')
  (fun k hk hno=>hf.frame k hk fun hs=>by
    obtain⟨n,x,h1,h2,h3⟩:=hS k hs
    exact hno n x h1 h2 h3) hf.os hf.tape hf.output hf.size
  (by
    show N.F.q c _ _ _
    rw [(fz _ _ _ _).1,(fz _ _ _ _).2]
    exact((N.F.arr_q c es ty vs hc).2 _ _ _).2 hv)
  (fun k hk=>by
    have hk:(ρ.set H.length lc S').S H.length k:=hk
    rw [(fz _ _ _ _).2] at hk
    rcases hf.new k hk with h | h
    ·exact .inl h
    ·exact .inr (hS k h))
 exact⟨this.1,this.2.1⟩
theorem lG {ρ:Nm} {n len es:Nat} {kn:Bool}:(Cell.vs n 0 len es kn).den ρ=aW (ρ.L n) 0 len es:=rfl
theorem Nk {H:Hp AV} (hC:bU N H) {d:Option Nat} (hd:∀n,d=some n->∃c,ab H n=some c) (c:AV):bU N (cU H d++[some (.abs c)]):=vF hC hd (fun x hx=>by cases hx)
theorem Ho {l:Loc} {S:Nat->Prop} {cs:List Value} {es:Nat} {ty:TypeId} {w:World} (h:iC l S cs es ty w):iC l S [] es ty w:=by
 rcases h with⟨h1,_,h3⟩ | ⟨h1,h2,row,h3,h4,h5,h6⟩
 ·exact .inl ⟨h1,rfl,h3⟩
 ·exact .inr ⟨h1,h2,row,h3,h4,Nat.zero_le _,fun j v h=>by simp at h⟩
theorem B1 {si:SI} {H:Hp AV} {x:Cell} {d:Option Nat} (h:DT si H x=some d):(∀n,d=some n->∃c,ab H n=some c) /\ ∀(ρ:Nm) (w:World),Own N ρ H w->∃l S,x.den ρ=aW l 0 0 si.size /\ iC l S [] si.size si.e w /\ ∀k,S k->∃n x,d=some n /\ ab H n=some x /\ x.fp ρ n k:=by
 unfold DT at h
 split at h
 ·cases h
  exact⟨fun n h=>(by cases h),fun ρ w _=>⟨⟨0,0,0⟩,fun _=>False,rfl,.inl ⟨Nat.zero_le _,rfl,fun _ h=>h⟩,fun k h=>h.elim⟩⟩
 ·rename_i n o es f p
  split at h
  ·rename_i h1
   have h1:=(ai _ _).1 h1
   subst h1
   cases h
   refine⟨fun n h=>(by cases h),fun ρ w _=>⟨f.ap (ρ.L n),fun _=>False,rfl,.inl ⟨?_,rfl,fun _ h=>h⟩,fun k h=>h.elim⟩⟩
   rcases p (ρ.L n) with h | ⟨h,_⟩
   ·exact h
   ·cases h
  ·cases h
 ·rename_i n o len es
  split at h
  ·rename_i l es' ty h1 h2 h3 h4
   split at h
   ·rename_i h5 h6
    have h1:=(ai _ _).1 h1
    have h2:=(ai _ _).1 h2
    have h3:=(ai _ _).1 h3
    have h5:=(ai _ _).1 h5
    have h6:=(ai _ _).1 h6
    subst h1 h2 h3 h5 h6
    cases h
    refine⟨fun m h=>(by cases h;exact⟨_,h4⟩),fun ρ w hO=>⟨ρ.L n,ρ.S n,rfl,Ho (hO.q n _ h4),fun k hk=>⟨n,_,rfl,h4,hk⟩⟩⟩
   ·cases h
  ·cases h
 ·cases h
theorem aj {α:Type} {b:Bool} {t:T α} {x:α} (h:(T.need b t).val=some x):b=true /\ t.val=some x:=cZ h
theorem Qu {si:SI} {i:TypeInfo} {z:Value} {t:TypeId} (hu:P.underlying t=some (.slice si.e)) (hi:P.info? si.e=some i) (hz:i.zero=some z) (e1:i.size=si.size) (e2:i.bytes=si.bytes) (hpos:0 < si.size) (hzs:z.cells.size=si.size)
 {H H':Hp AV} {v:SV} {s x:Cell} (hC:bU N H) (hcs:ClV H (.v (.c s))) (h:(Ue N.F si N.G s x H).val=some (v,H')):ClV H' v /\ bU N H' /\ ∀(ρ:Nm) (w:World),Own N ρ H w->∀ty,∃r w',(Builtin.append_ #[t,t] ty #[s.den ρ,x.den ρ]).run P w=.ok r w' /\
   ∃ρ',r=v.den ρ' /\ Own N ρ' H' w' /\ Evo N H.length ρ H w ρ' H' w':=by
 have hpos':0 < i.size:=by omega
 have hzs':z.cells.size=i.size:=by omega
 have fin:∀(d:Option Nat) (c:AV) (m:Nat) (vs:List Value),(∀n,d=some n->∃c,ab H n=some c)->N.G<=H.length->N.F.arr c=some (si.size,si.e,vs) ->
  v=.v (.c (.vs H.length 0 m si.size false))->H'=cU H d++[some (.abs c)] ->
  (∀(ρ:Nm) (w:World),Own N ρ H w->∀ty,∃r w' S,(Builtin.append_ #[t,t] ty #[s.den ρ,x.den ρ]).run P w=.ok r w' /\ (∀k,S k->∃n x,d=some n /\ ab H n=some x /\ x.fp ρ n k) /\ ∃lc S',r=aW lc 0 m i.size /\ iC lc S' vs i.size si.e w' /\ Fr S S' w w') ->
  ClV H' v /\ bU N H' /\ ∀(ρ:Nm) (w:World),Own N ρ H w->∀ty,∃r w',(Builtin.append_ #[t,t] ty #[s.den ρ,x.den ρ]).run P w=.ok r w' /\
   ∃ρ',r=v.den ρ' /\ Own N ρ' H' w' /\ Evo N H.length ρ H w ρ' H' w':=by
  rintro d c m vs hd hG hc rfl rfl hr
  refine⟨cl_new hd 0 _ _ _,Nk hC hd c,fun ρ w hO ty=>?_⟩
  obtain⟨r,w',S,g1,g2,lc,S',g3,g4,g5⟩:=hr ρ w hO ty
  rw [e1] at g4
  obtain⟨o1,o2⟩:=su hO hC hG hd hc g2 g4 g5
  refine⟨r,w',g1,_,?_,o1,o2⟩
  rw [g3,e1]
  simp only [SV.den,V1.den,Cell.den,(fz _ _ _ _).1]
 unfold Ue at h
 split at h
 ·-- two arrays
  rename_i n1 a len n2 b k hG hs hx
  split at h
  ·rename_i c hne hcat
   obtain⟨hb,h⟩:=aj h
   simp only [T.val,Option.some.injEq,Prod.mk.injEq] at h
   obtain⟨k1,k2,k3⟩:=of_decide_eq_true hb
   obtain⟨kn1,vs,rfl,p2,p3⟩:=m8 hs
   obtain⟨kn2,a2,us,rfl,q2,qs,q3⟩:=uV hx
   obtain⟨es',ty1,ty2,vs',us',r1,r2,r3⟩:=N.F.cat_ok a b c hcat
   rw [p3] at r1
   simp only [Option.some.injEq,Prod.mk.injEq] at r1
   obtain⟨rfl,rfl,rfl⟩:=r1
   rw [q3] at r2
   simp only [Option.some.injEq,Prod.mk.injEq] at r2
   obtain⟨_,rfl,rfl⟩:=r2
   refine fin (some n1) c (len+k) _ (fun n h=>by cases h;exact⟨_,p2⟩) (Nat.le_of_ble_eq_true hG) r3 h.1.symm h.2.symm fun ρ w hO ty=>?_
   have A1:=((N.F.arr_q a _ _ _ p3).2 _ _ _).1 (hO.q n1 _ p2)
   have A2:=N.F.src_ok a2 b _ _ _ qs q3 _ _ _ hO.ro.1 (hO.q n2 _ q2)
   have L1:=N.F.len_ok a _ _ _ p3
   have L2:=N.F.len_ok b _ _ _ q3
   rw [<- e1] at A1 A2 L1 L2
   rw [<- k1] at L1
   rw [<- k2] at L2
   obtain⟨r,w',g1,lc,S',g2,g3,g4⟩:=yB hu hi hz hzs' hpos' A1 L1 A2 L2 (N.F.arr_q b _ _ _ q3).1 (by rw [e2];exact k3) ty
   rw [lG,lG,<- e1]
   exact⟨r,w',ρ.S n1,g1,fun k hk=>⟨n1,_,rfl,p2,hk⟩,lc,S',g2,g3,g4⟩
  ·simp [T.val] at h
 ·-- a copy
  rename_i n2 b k hG hs hx
  split at h
  ·rename_i d hvd
   split at h
   ·rename_i hne
    obtain⟨hb,h⟩:=aj h
    simp only [T.val,Option.some.injEq,Prod.mk.injEq] at h
    obtain⟨k2,k3⟩:=of_decide_eq_true hb
    obtain⟨kn2,a2,us,rfl,q2,qs,q3⟩:=uV hx
    obtain⟨hd,hv⟩:=B1 (N:=N) hvd
    refine fin d b k us hd (Nat.le_of_ble_eq_true hG) q3 h.1.symm h.2.symm fun ρ w hO ty=>?_
    obtain⟨l,S,v1,v2,v3⟩:=hv ρ w hO
    have A2:=N.F.src_ok a2 b _ _ _ qs q3 _ _ _ hO.ro.1 (hO.q n2 _ q2)
    have L2:=N.F.len_ok b _ _ _ q3
    rw [<- e1] at A2 L2 v2
    rw [<- k2] at L2
    obtain⟨r,w',g1,lc,S',g2,g3,g4⟩:=yB hu hi hz hzs' hpos' v2 (len:=0) (by simp) A2 L2 (N.F.arr_q b _ _ _ q3).1 (by rw [e2,Nat.zero_add];exact k3) ty
    rw [v1,lG,<- e1]
    simp only [Nat.zero_add,List.nil_append] at g2 g3
    exact⟨r,w',S,g1,v3,lc,S',g2,g3,g4⟩
   ·simp [T.val] at h
  ·simp [T.val] at h
 ·rename_i n1 a len hG hs hx
  obtain⟨kn1,vs,rfl,p2,p3⟩:=m8 hs
  have L1:=N.F.len_ok a _ _ _ p3
  split at h
  ·-- nothing
   rename_i he
   obtain⟨hb,h⟩:=aj h
   simp only [T.val,Option.some.injEq,Prod.mk.injEq] at h
   obtain⟨rfl,rfl⟩:=h
   have hb:=of_decide_eq_true hb
   refine⟨hcs,hC,fun ρ w hO ty=>?_⟩
   obtain⟨b,cap2,hxd⟩:=Ah he ρ
   have A1:=((N.F.arr_q a _ _ _ p3).2 _ _ _).1 (hO.q n1 _ p2)
   have f1:=qQ A1 hpos L1
   have f1:len<=(ρ.L n1).c - 1:=Nat.le_trans hb f1
   refine⟨(Cell.vs n1 0 len si.size kn1).den ρ,w,?_,ρ,rfl,hO,Evo.refl _ _ _ _⟩
   rw [hxd,lG,vsDen_eq]
   split
   ·exact gz w t ty si.e i hu hi (Nat.le_refl 0)
   ·exact gz w t ty si.e i hu hi f1
  ·split at h
   ·rename_i n2 o2 k es _
    split at h
    ·rename_i news hn hne
     split at h
     ·rename_i c hc
      obtain⟨hb,h⟩:=aj h
      simp only [T.val,Option.some.injEq,Prod.mk.injEq] at h
      obtain⟨k1,k3⟩:=of_decide_eq_true hb
      obtain⟨hnm,es',ty1,vs',r1,r3⟩:=N.F.app_ok a news c hc
      rw [p3] at r1
      simp only [Option.some.injEq,Prod.mk.injEq] at r1
      obtain⟨rfl,rfl,rfl⟩:=r1
      obtain⟨l2,ty2,g1,g2,g3,g4,g5⟩:=bT hn
      subst g2
      refine fin (some n1) c (len+k) _ (fun n h=>by cases h;exact⟨_,p2⟩) (Nat.le_of_ble_eq_true hG) r3 h.1.symm h.2.symm fun ρ w hO ty=>?_
      have A1:=((N.F.arr_q a _ _ _ p3).2 _ _ _).1 (hO.q n1 _ p2)
      rw [<- k1] at L1
      have hdn:ah Nm.id news=ah ρ news:=by
       unfold ah
       exact List.map_congr_left fun y hy=>den_congr y (fun m hm=>by rw [hnm y hy] at hm;cases hm)
      have A2:iC ⟨(ρ.L n2).b,(ρ.L n2).o+o2 * si.size,if k=0 then 1 else(ρ.L n2).c - o2⟩ (if k=0 then fun _=>False else ρ.S n2) (ah ρ news) si.size ty2 w:=by
       rcases Nat.eq_zero_or_pos k with rfl | hk
       ·refine .inl ⟨by simp,?_,fun b=>by simp⟩
        exact List.length_eq_zero_iff.1 (by rw [bc,g3];simp)
       ·rw [if_neg (by omega),if_neg (by omega)]
        have hf:=qO hO hpos hn
        rcases hO.q n2 _ g1 with⟨h0,_⟩ | ⟨hcp,hS,row,hrow,hrl,hll,hat⟩
        ·omega
        ·refine .inr ⟨by show 0 < (ρ.L n2).c - o2;omega,hS,row,hrow,?_,?_,?_⟩
         ·show (ρ.L n2).o+o2 * si.size+((ρ.L n2).c - o2 - 1) * si.size<=row.length
          rw [Nat.add_assoc,<- Nat.add_mul,show o2+((ρ.L n2).c - o2 - 1)=(ρ.L n2).c - 1 by omega]
          exact hrl
         ·show (ah ρ news).length<=((ρ.L n2).c - o2 - 1) * si.size
          rw [bc,g3]
          exact Nat.mul_le_mul_right _ (by omega)
         ·intro j y hy
          obtain⟨cc,hcc,rfl⟩:=sg ρ news j y hy
          have:=hat (o2 * si.size+j) (cc.den ρ) (by simp [ah,g5 j cc hcc])
          rw [<- Nat.add_assoc] at this
          exact this
      have L2:(ah ρ news).length=k * si.size:=by rw [bc,g3]
      rw [<- e1] at A1 L1 L2
      have A2':=fR A2
      rw [<- e1] at A2'
      obtain⟨r,w',g1',lc,S',g2',g3',g4'⟩:=yB hu hi hz hzs' hpos' A1 L1 A2' L2 (fun y hy=>by
       obtain⟨cc,_,rfl⟩:=List.mem_map.1 hy
       exact sd ρ cc) (by rw [e2];exact k3) ty
      rw [hdn]
      refine⟨r,w',ρ.S n1,?_,fun k hk=>⟨n1,_,rfl,p2,hk⟩,lc,S',g2',g3',g4'⟩
      rw [lG,<- e1]
      have hk0:k≠0:=by
       rename_i he
       intro hk
       subst hk
       simp [tZ] at he
      have hx2:(Cell.vs n2 o2 k si.size true).den ρ=aW ⟨(ρ.L n2).b,(ρ.L n2).o+o2 * i.size,if k=0 then 1 else(ρ.L n2).c - o2⟩ 0 k i.size:=by
       simp only [Cell.den,aW,if_neg hk0]
       rw [if_neg (fun h=>hk0 h.1),if_neg (fun h=>hk0 h.1),e1]
       simp only [Nat.zero_mul,Nat.add_zero]
       congr 1
       omega
      rw [e1] at hx2 ⊢
      rw [hx2,<- e1]
      exact g1'
     ·simp [T.val] at h
    ·simp [T.val] at h
   ·simp [T.val] at h
 ·simp [T.val] at h
def Jd:SV->Option Int
 | .v (.c c)=>match jD c with
   | some (_,n,_)=>some n
   | none=>none
 | _=>none
theorem pC {x:SV} {n:Int} (h:Jd x=some n) (ρ:Nm):∃k,x.den ρ=.int k n:=by
 unfold Jd at h
 split at h
 ·rename_i c
  split at h
  ·rename_i k m b hc
   cases h
   exact⟨k,by simp only [SV.den,V1.den];exact cR ρ hc⟩
  ·cases h
 ·cases h
def M8 (F:Intf AV) (si:SI) (G:Nat) (s:Cell) (lo hi:Int) (H:Hp AV):T (SV×Hp AV) :=
 match Nat.ble G H.length,DO F si H s with
 | true,some (n,a,len)=>match F.cut a lo.toNat hi.toNat with
   | some c=>.need (decide (0<=lo /\ lo<=hi /\ hi<=(len:Int) /\ len=F.len a)) (.leaf (.v (.c (.vs H.length 0 (hi.toNat - lo.toNat) si.size false)),cU H (some n)++[some (.abs c)]))
   | none=>.fail "slice: arrays"
 | _,_=>.fail "slice: arrays"
def WI:Cell->Int
 | .vs _ _ len _ _=>len
 | _=>0
def LF (F:Intf AV) (si:SI) (s:Cell) (H:Hp AV):T (SV×Hp AV) :=
 match DO F si H s with
 | some (n,a,len)=>.need (decide (len<=F.len a)) (.leaf (.v (.c (.sf n 0 si.size true (RE 0 si.size) (xh _ 0 si.size))),H))
 | none=>.fail "slice: arrays"
def Kl (F:Intf AV) (sl:Tr SI) (G:Nat) (t:TypeId) (lo hi mx:Bool) (args:List SV) (H:Hp AV):T (SV×Hp AV) :=
 match sl.get t with
 | none=>.fail "slice: arrays"
 | some si=>match lo,hi,mx,args with
   | true,false,false,[.v (.c s),l]=>match Jd l with
     | some l=>M8 F si G s l (WI s) H
     | _=>.fail "slice: arrays"
   | false,true,false,[.v (.c s),h]=>match Jd h with
     | some h=>M8 F si G s 0 h H
     | none=>.fail "slice: arrays"
   | true,true,false,[.v (.c s),l,h]=>match Jd l,Jd h with
     | some l,some h=>M8 F si G s l h H
     | _,_=>.fail "slice: arrays"
   | false,true,true,[.v (.c s),h,m]=>match yS h,yS m with
     | some 0,some 0=>LF F si s H
     | _,_=>.fail "slice: arrays"
   | _,_,_,_=>.fail "slice: arrays"
def GR (F:Intf AV) (sl:Tr SI) (H:Hp AV) (t:TypeId):List SV->Bool
 | []=>false
 | .v (.c x)::r=>match sl.get t with
   | some si=>match BS F si H x with
     | some _=>true
     | none=>GR F sl H t r
   | none=>false
 | _::r=>GR F sl H t r
def hvG (F:Intf AV) (sl:Tr SI) (G:Nat) (o:Op) (args:List SV) (H:Hp AV):T (SV×Hp AV) :=
 match o with
 | .call c=>match c.callee with
   | .builtin .append=>match args,c.argTypes.toList with
     | [.v (.c s),.v (.c x)],[t,t']=>match GR F sl H t [.v (.c s),.v (.c x)],Nat.beq t t',sl.get t with
       | true,true,some si=>Ue F si G s x H
       | true,_,_=>.fail "append: arrays"
       | false,_,_=>hvF sl G o args H
     | _,_=>.fail "append: arrays"
   | _=>hvF sl G o args H
 | .slice t _ lo hi mx=>match GR F sl H t args with
   | true=>Kl F sl G t lo.isSome hi.isSome mx.isSome args H
   | false=>hvF sl G o args H
 | _=>hvF sl G o args H
theorem BM {si:SI} (hpos:0 < si.size) {H H':Hp AV} {v:SV} {s:Cell} {lo hi:Int} (hC:bU N H) (h:(M8 N.F si N.G s lo hi H).val=some (v,H')):ClV H' v /\ bU N H' /\ ∀(ρ:Nm) (w:World),Own N ρ H w ->
 ∃a len cap,s.den ρ=.slice a len cap /\ 0<=lo /\ lo<=hi /\ hi<=(len:Int) /\ len<=cap /\ WI s=len /\ ∃ρ',v.den ρ'=sliced a lo.toNat hi.toNat cap si.size /\ Own N ρ' H' w /\ Evo N H.length ρ H w ρ' H' w:=by
 unfold M8 at h
 split at h
 ·rename_i n a len hG hs
  split at h
  ·rename_i c hcut
   obtain⟨hb,h⟩:=aj h
   simp only [T.val,Option.some.injEq,Prod.mk.injEq] at h
   obtain⟨rfl,rfl⟩:=h
   obtain⟨k0,k1,k2,k3⟩:=of_decide_eq_true hb
   obtain⟨kn,vs,rfl,p2,p3⟩:=m8 hs
   obtain⟨es',ty',vs',r1,r2⟩:=N.F.cut_ok a _ _ c hcut
   rw [p3] at r1
   simp only [Option.some.injEq,Prod.mk.injEq] at r1
   obtain⟨rfl,rfl,rfl⟩:=r1
   have L1:=N.F.len_ok a _ _ _ p3
   rw [<- k3] at L1
   obtain⟨l,rfl⟩:=Int.eq_ofNat_of_zero_le k0
   obtain⟨m,rfl⟩:=Int.eq_ofNat_of_zero_le (Int.le_trans k0 k1)
   simp only [Int.toNat_natCast] at *
   have k1:l<=m:=by omega
   have k2:m<=len:=by omega
   have hd:∀x,(some n:Option Nat)=some x->∃c,ab H x=some c:=fun x h=>by cases h;exact⟨_,p2⟩
   refine⟨cl_new hd 0 _ _ _,Nk hC hd c,fun ρ w hO=>?_⟩
   have A1:=((N.F.arr_q a _ _ _ p3).2 _ _ _).1 (hO.q n _ p2)
   have f1:=qQ A1 hpos L1
   have hcut0:l=m->(vs.take (m * si.size)).drop (l * si.size)=[]:=fun e=>by
    subst e
    apply List.drop_eq_nil_of_le
    simp
    omega
   have go:∀(lc:Loc) (S':Nat->Prop),iC lc S' ((vs.take (m * si.size)).drop (l * si.size)) si.size si.e w->(∀k,S' k->ρ.S n k)->∀b,aW lc 0 (m - l) si.size=b ->
    ∃ρ',SV.den ρ' (.v (.c (.vs H.length 0 (m - l) si.size false)))=b /\ Own N ρ' (cU H (some n)++[some (.abs c)]) w /\ Evo N H.length ρ H w ρ' (cU H (some n)++[some (.abs c)]) w:=by
    intro lc S' hv hS b hb
    obtain⟨o1,o2⟩:=su (w':=w) (S:=ρ.S n) hO hC (Nat.le_of_ble_eq_true hG) hd r2 (fun k hk=>⟨n,_,rfl,p2,hk⟩) hv ⟨fun _ _ _=>rfl,fun k hk=>.inr (hS k hk),rfl,rfl,rfl,Nat.le_refl _⟩
    refine⟨_,?_,o1,o2⟩
    simp only [SV.den,V1.den,Cell.den,(fz _ _ _ _).1]
    exact hb
   by_cases hc:(ρ.L n).c=0
   ·have hl0:len=0:=by omega
    have hm0:m=0:=by omega
    have hz0:l=0:=by omega
    subst hl0 hm0 hz0
    refine⟨none,0,0,by rw [lG,vsDen_eq,if_pos ⟨rfl,hc⟩],by omega,by omega,by omega,by omega,rfl,?_⟩
    exact go ⟨0,0,0⟩ (fun _=>False) (.inl ⟨Nat.zero_le _,hcut0 rfl,fun _ h=>h⟩) (fun _ h=>h.elim) _ (by simp [aW,sliced])
   ·refine⟨some ⟨(ρ.L n).b,(ρ.L n).o,none⟩,len,(ρ.L n).c - 1,by rw [lG,vsDen_eq,if_neg (fun h=>hc h.2)],by omega,by omega,by omega,f1,rfl,?_⟩
    by_cases hcap:(ρ.L n).c - 1=l
    ·have hml:m=l:=by omega
     subst hml
     refine go ⟨(ρ.L n).b,(ρ.L n).o,1⟩ (fun _=>False) (.inl ⟨Nat.le_refl _,hcut0 rfl,fun _ h=>h⟩) (fun _ h=>h.elim) _ ?_
     simp [aW,sliced,hcap]
    ·rcases A1 with⟨h0,h1,_⟩ | ⟨hcp,hS,row,hrow,hrl,hll,hat⟩
     ·omega
     ·refine go ⟨(ρ.L n).b,(ρ.L n).o+l * si.size,(ρ.L n).c - l⟩ (ρ.S n) (.inr ⟨by show 0 < (ρ.L n).c - l;omega,hS,row,hrow,?_,?_,?_⟩) (fun _ h=>h) _ ?_
      ·show (ρ.L n).o+l * si.size+((ρ.L n).c - l - 1) * si.size<=row.length
       rw [Nat.add_assoc,<- Nat.add_mul,show l+((ρ.L n).c - l - 1)=(ρ.L n).c - 1 by omega]
       exact hrl
      ·show _<=((ρ.L n).c - l - 1) * si.size
       rw [List.length_drop,List.length_take]
       have:m * si.size<=((ρ.L n).c - 1) * si.size:=Nat.mul_le_mul_right _ (by omega)
       have e:((ρ.L n).c - l - 1) * si.size=((ρ.L n).c - 1) * si.size - l * si.size:=by
        rw [<- Nat.sub_mul];congr 1;omega
       rw [e]
       omega
      ·intro j v hv
       rw [List.getElem?_drop,List.getElem?_take] at hv
       split at hv
       ·have:=hat _ v hv
        rw [<- Nat.add_assoc] at this
        exact this
       ·cases hv
      ·have hne:¬((ρ.L n).c - l=0):=by omega
       simp only [aW,sliced,if_neg hcap]
       rw [if_neg (fun h=>hne h.2)]
       have ea:(⟨(ρ.L n).b,(ρ.L n).o,none⟩:Addr).add (l * si.size)=⟨(ρ.L n).b,(ρ.L n).o+l * si.size,none⟩:=by
        unfold Addr.add
        by_cases hj:l * si.size=0<;>simp [hj]
       simp only [Option.map_some,ea,Nat.zero_mul,Nat.add_zero,Nat.sub_zero]
       congr 1
       omega
  ·simp [T.val] at h
 ·simp [T.val] at h
theorem LC {si:SI} (hpos:0 < si.size) {H H':Hp AV} {v:SV} {s:Cell} (h:(LF N.F si s H).val=some (v,H')):H'=H /\ ClV H v /\ ∀(ρ:Nm) (w:World),Own N ρ H w ->
 ∃a len cap,s.den ρ=.slice a len cap /\ v.den ρ=sliced a 0 0 0 si.size:=by
 unfold LF at h
 split at h
 ·rename_i n a len hs
  obtain⟨hb,h⟩:=aj h
  have hb:=of_decide_eq_true hb
  simp only [T.val,Option.some.injEq,Prod.mk.injEq] at h
  obtain⟨rfl,rfl⟩:=h
  obtain⟨kn,vs,rfl,p2,p3⟩:=m8 hs
  refine⟨rfl,?_,fun ρ w hO=>?_⟩
  ·intro c hc m hm
   simp [V1.cells] at hc
   subst hc
   simp only [Cell.name,Option.some.injEq] at hm
   subst hm
   exact⟨_,p2⟩
  ·rw [lG,vsDen_eq]
   by_cases hc:len=0 /\ (ρ.L n).c=0
   ·rw [if_pos hc]
    exact⟨_,_,_,rfl,by simp [SV.den,V1.den,Cell.den,aW,SfF.ap,hc.2,sliced]⟩
   ·rw [if_neg hc]
    by_cases hc0:(ρ.L n).c=0
    ·have A1:=((N.F.arr_q a _ _ _ p3).2 _ _ _).1 (hO.q n _ p2)
     have f1:=qQ A1 hpos (N.F.len_ok a _ _ _ p3)
     exact absurd ⟨by omega,hc0⟩ hc
    ·exact⟨_,_,_,rfl,by simp [SV.den,V1.den,Cell.den,aW,SfF.ap,hc0,sliced]⟩
 ·simp [T.val] at h
theorem MF {sl:Tr SI} (hsl:Un P sl) (hhv:N.hv=hvG N.F sl N.G):Jk P N:=by
 intro o args H v H' h hargs hC
 rw [hhv] at h
 have old:(hvF sl N.G o args H).val=some (v,H')->ClV H' v /\ bU N H' /\ ∀(ρ:Nm) (w:World),Own N ρ H w ->
  Does P (.op o) (args.map (SV.den ρ)) w fun e w'=>∃ρ',e=v.den ρ' /\ Own N ρ' H' w' /\ Evo N H.length ρ H w ρ' H' w':=by
  intro h
  obtain⟨a1,a2,a3⟩:=Tv (P:=P) (N:={N with hv:=hvF sl N.G}) hsl rfl o args H v H' h hargs ⟨fun n x hh=>hC.1 n x hh,trivial⟩
  refine⟨a1,⟨fun n x hh=>a2.1 n x hh,trivial⟩,fun ρ w hO=>(a3 ρ w (je (N:=N) (N':={N with hv:=hvF sl N.G}) rfl rfl hO)).mono ?_⟩
  rintro e w' ⟨ρ',h1,h2,h3⟩
  exact⟨ρ',h1,je (N:={N with hv:=hvF sl N.G}) (N':=N) rfl rfl h2,rY N h3⟩
 unfold hvG at h
 split at h
 ·rename_i c
  split at h
  ·rename_i hcal
   split at h
   ·rename_i s x t t' hty
    split at h
    ·rename_i si _ htt hs
     have htt:=(ai _ _).1 htt
     subst htt
     obtain⟨hu,i,z,hi,hz,e1,e2,hpos,hzl,hzd,hzn⟩:=fT (hsl t si hs)
     have hzs:z.cells.size=si.size:=by
      have:=congrArg List.length (hzd Nm.id)
      rw [bc] at this
      simp at this
      omega
     obtain⟨c1,c2,c3⟩:=Qu hu hi hz e1 e2 hpos hzs hC (hargs _ (List.mem_cons_self ..)) h
     refine⟨c1,c2,fun ρ w hO=>?_⟩
     intro ev o ho hv
     obtain⟨r,w',hr,ρ',h1,h2,h3⟩:=c3 ρ w hO o.type
     exact⟨r,w',.inl (oE ho hcal hty (by rw [hv];simp [SV.den,V1.den]) hr),ρ',h1,h2,h3⟩
    ·simp [T.val] at h
    ·exact old h
   ·simp [T.val] at h
  ·exact old h
 ·rename_i t x lo hi mx
  split at h
  ·unfold Kl at h
   split at h
   ·simp [T.val] at h
   ·rename_i si hs
    obtain⟨hu,i,z,hii,hz,e1,e2,hpos,hzl,hzd,hzn⟩:=fT (hsl t si hs)
    split at h
    ·rename_i s l q1 q2 q3 _
     split at h
     ·rename_i ln hl1
      obtain⟨k1,k0,k2⟩:=BM hpos hC h
      refine⟨k1,k0,fun ρ w hO=>?_⟩
      intro ev o ho hv
      obtain⟨a,len,cap,d1,d2,d3,d4,d5,d6,ρ',d7,d8,d9⟩:=k2 ρ w hO
      obtain⟨kk,hk⟩:=pC hl1 ρ
      cases lo with
      | none=>cases q1
      | some lo =>
      cases hi with
      | some _=>cases q2
      | none =>
      cases mx with
      | some _=>cases q3
      | none =>
      simp [Op.operands,SV.den,V1.den,d1] at hv
      obtain⟨v1,v2⟩:=hv
      refine⟨v.den ρ',w,.inl ?_,ρ',rfl,d8,d9⟩
      rw [d7,<- e1,d6]
      refine eP ho hu hii v1 ?_
      have v2:ev lo=.int kk ln:=by rw [v2];exact hk
      have hle:ln<=(len:Int):=by omega
      simp [Instr.sliceBounds,v2,run_sliceBound,d2,hle]
     ·simp [T.val] at h
    ·rename_i s h' q1 q2 q3 _
     split at h
     ·rename_i hn hl1
      obtain⟨k1,k0,k2⟩:=BM hpos hC h
      refine⟨k1,k0,fun ρ w hO=>?_⟩
      intro ev o ho hv
      obtain⟨a,len,cap,d1,d2,d3,d4,d5,d6,ρ',d7,d8,d9⟩:=k2 ρ w hO
      obtain⟨kk,hk⟩:=pC hl1 ρ
      cases lo with
      | some _=>cases q1
      | none =>
      cases hi with
      | none=>cases q2
      | some hi =>
      cases mx with
      | some _=>cases q3
      | none =>
      simp [Op.operands,SV.den,V1.den,d1] at hv
      obtain⟨v1,v2⟩:=hv
      refine⟨v.den ρ',w,.inl ?_,ρ',rfl,d8,d9⟩
      rw [d7,<- e1]
      refine eP ho hu hii v1 ?_
      have v2:ev hi=.int kk hn:=by rw [v2];exact hk
      have hle:hn<=(cap:Int):=by omega
      simp [Instr.sliceBounds,v2,run_sliceBound,d3,hle]
     ·simp [T.val] at h
    ·rename_i s l h' q1 q2 q3 _
     split at h
     ·rename_i ln hn hl1 hl2
      obtain⟨k1,k0,k2⟩:=BM hpos hC h
      refine⟨k1,k0,fun ρ w hO=>?_⟩
      intro ev o ho hv
      obtain⟨a,len,cap,d1,d2,d3,d4,d5,d6,ρ',d7,d8,d9⟩:=k2 ρ w hO
      obtain⟨kk,hk⟩:=pC hl1 ρ
      obtain⟨kh,hkh⟩:=pC hl2 ρ
      cases lo with
      | none=>cases q1
      | some lo =>
      cases hi with
      | none=>cases q2
      | some hi =>
      cases mx with
      | some _=>cases q3
      | none =>
      simp [Op.operands,SV.den,V1.den,d1] at hv
      obtain⟨v1,v2,v3⟩:=hv
      refine⟨v.den ρ',w,.inl ?_,ρ',rfl,d8,d9⟩
      rw [d7,<- e1]
      refine eP ho hu hii v1 ?_
      have v2:ev lo=.int kk ln:=by rw [v2];exact hk
      have v3:ev hi=.int kh hn:=by rw [v3];exact hkh
      have hle:hn<=(cap:Int):=by omega
      have h0:0<=hn:=by omega
      have hle2:ln<=((hn.toNat:Nat):Int):=by rw [Int.toNat_of_nonneg h0];exact d3
      have hb:=run_sliceBound (P:=P) w kk ln hn.toNat .sliceB d2 hle2
      simp [Instr.sliceBounds,v2,v3,run_sliceBound,hle,h0,hb,Result.andThen]
     ·simp [T.val] at h
    ·rename_i s h' m' q1 q2 q3 _
     split at h
     ·rename_i hl1 hl2
      obtain⟨rfl,k1,k2⟩:=LC hpos h
      refine⟨k1,hC,fun ρ w hO=>?_⟩
      intro ev o ho hv
      obtain⟨a,len,cap,d1,d6⟩:=k2 ρ w hO
      obtain⟨kk,hk⟩:=gV hl1 ρ
      obtain⟨kh,hkh⟩:=gV hl2 ρ
      cases lo with
      | some _=>cases q1
      | none =>
      cases hi with
      | none=>cases q2
      | some hi =>
      cases mx with
      | none=>cases q3
      | some mx =>
      simp [Op.operands,SV.den,V1.den,d1] at hv
      obtain⟨v1,v2,v3⟩:=hv
      refine⟨v.den ρ,w,.inl ?_,ρ,rfl,hO,Evo.refl _ _ _ _⟩
      rw [d6,<- e1]
      refine eP ho hu hii v1 ?_
      have v2:ev hi=.int kk 0:=by rw [v2];exact hk
      have v3:ev mx=.int kh 0:=by rw [v3];exact hkh
      simp [Instr.sliceBounds,v2,v3,run_sliceBound]
     ·simp [T.val] at h
    ·simp [T.val] at h
  ·exact old h
 ·exact old h
end
section
variable {AV:Type} {P:Program} {N:Env AV}
def Cell.ren (π:Nat->Nat):Cell->Cell
 | .ptr n o=>.ptr (π n) o
 | .vel n i e o=>.vel (π n) i e o
 | .sl n o len cap=>.sl (π n) o len cap
 | .vs n o len es kn=>.vs (π n) o len es kn
 | .sf n o es z f h=>.sf (π n) o es z f h
 | .ifc t c=>.ifc t (c.ren π)
 | .mp r=>.mp (r.map π)
 | c=>c
def Chunk.ren (π:Nat->Nat):Chunk AV->Chunk AV
 | .cells l ty=>.cells (l.map (Cell.ren π)) ty
 | .vec l es ty=>.vec (l.map (Cell.ren π)) es ty
 | .dead=>.dead
 | .abs a=>.abs a
def V1.ren (π:Nat->Nat):V1->V1
 | .c x=>.c (x.ren π)
 | .agg l=>.agg (l.map (Cell.ren π))
def SV.ren (π:Nat->Nat):SV->SV
 | .v x=>.v (x.ren π)
 | .tup l=>.tup (l.map (V1.ren π))
 | .unk=>.unk
 | .clo f l=>.clo f (l.map (Cell.ren π))
def Nm.ren (ρ:Nm) (π:Nat->Nat):Nm:=⟨fun n=>ρ.L (π n),fun n=>ρ.S (π n)⟩
theorem den_ren (ρ:Nm) (π:Nat->Nat):∀c:Cell,(c.ren π).den ρ=c.den (ρ.ren π)
 | .ptr _ _=>rfl
 | .vel _ _ _ _=>rfl
 | .sl _ _ _ _=>rfl
 | .vs _ _ _ _ _=>rfl
 | .sf _ _ _ _ _ _=>rfl
 | .ifc t c=>by simp only [Cell.ren,Cell.den];rw [den_ren ρ π c]
 | .bl _=>rfl
 | .bt _=>rfl
 | .il _ _=>rfl
 | .it _ _=>rfl
 | .iv _ _ _ _=>rfl
 | .ir _ _ _ _ _=>rfl
 | .st _=>rfl
 | .sv _=>rfl
 | .pnil=>rfl
 | .snil=>rfl
 | .sx _ _=>rfl
 | .inil=>rfl
 | .fn _=>rfl
 | .nfn=>rfl
 | .op _ _=>rfl
 | .mp none=>rfl
 | .mp (some _)=>rfl
theorem rH (π:Nat->Nat):∀c:Cell,(c.ren π).name=c.name.map π
 | .ptr _ _=>rfl
 | .vel _ _ _ _=>rfl
 | .sl _ _ _ _=>rfl
 | .vs _ _ _ _ _=>rfl
 | .sf _ _ _ _ _ _=>rfl
 | .ifc t c=>by simp only [Cell.ren,Cell.name];rw [rH π c]
 | .bl _=>rfl
 | .bt _=>rfl
 | .il _ _=>rfl
 | .it _ _=>rfl
 | .iv _ _ _ _=>rfl
 | .ir _ _ _ _ _=>rfl
 | .st _=>rfl
 | .sv _=>rfl
 | .pnil=>rfl
 | .snil=>rfl
 | .sx _ _=>rfl
 | .inil=>rfl
 | .fn _=>rfl
 | .nfn=>rfl
 | .op _ _=>rfl
 | .mp none=>rfl
 | .mp (some _)=>rfl
theorem oF (ρ:Nm) (π:Nat->Nat) (l:List Cell):ah ρ (l.map (Cell.ren π))=ah (ρ.ren π) l:=by
 simp only [ah,List.map_map]
 exact List.map_congr_left fun c _=>den_ren ρ π c
theorem V1.den_ren (ρ:Nm) (π:Nat->Nat) (x:V1):(x.ren π).den ρ=x.den (ρ.ren π):=by
 cases x with
 | c x=>exact Sx.den_ren ρ π x
 | agg l=>simp only [V1.ren,V1.den,oF]
theorem SV.den_ren (ρ:Nm) (π:Nat->Nat) (x:SV):(x.ren π).den ρ=x.den (ρ.ren π):=by
 cases x with
 | v x=>exact V1.den_ren ρ π x
 | tup l =>
   simp only [SV.ren,SV.den,List.map_map]
   congr 2
   exact List.map_congr_left fun y _=>V1.den_ren ρ π y
 | unk=>rfl
 | clo f l=>simp only [SV.ren,SV.den,oF]
theorem CC {ρ:Nm} {π:Nat->Nat} {n:Nat} {c:Chunk AV} {w:World}:(c.ren π).q N ρ (π n) w↔c.q N (ρ.ren π) n w:=by
 cases c with
 | cells l ty=>simp only [Chunk.ren,Chunk.q,oF];rfl
 | vec l es ty=>simp only [Chunk.ren,Chunk.q,oF];rfl
 | dead=>rfl
 | abs a=>rfl
theorem jP {ρ:Nm} {π:Nat->Nat} {n:Nat} {c:Chunk AV}:(c.ren π).fp ρ (π n)=c.fp (ρ.ren π) n:=by
 cases c<;>rfl
theorem uS (π:Nat->Nat) (c:Chunk AV):(c.ren π).cellsOf=c.cellsOf.map (Cell.ren π):=by cases c<;>rfl
def fpH (ρ:Nm) (K:Hp AV) (k:Nat):Prop:=∃i c,ab K i=some c /\ c.fp ρ i k
structure OwnL (N:Env AV) (ρ:Nm) (H:Hp AV) (w:World):Prop where
 q:∀n c,ab H n=some c->c.q N ρ n w
 dis:∀n m c d,n≠m->ab H n=some c->ab H m=some d->∀k,c.fp ρ n k->d.fp ρ m k->False
theorem Own.toL {ρ:Nm} {H:Hp AV} {w:World} (h:Own N ρ H w):OwnL N ρ H w:=⟨h.q,h.dis⟩
theorem OwnL.sub {ρ:Nm} {H:Hp AV} {w:World} (h:OwnL N ρ H w) {K:Hp AV} {π:Nat->Nat} (hK:∀i c,ab K i=some c->ab H (π i)=some (c.ren π)) (inj:∀i j c d,ab K i=some c->ab K j=some d->π i=π j->i=j):OwnL N (ρ.ren π) K w:=by
 refine⟨fun i c hc=>CC.1 (h.q _ _ (hK i c hc)),fun i j c d hij hc hd k hk hk'=>?_⟩
 rw [<- jP] at hk hk'
 exact h.dis (π i) (π j) _ _ (fun e=>hij (inj i j c d hc hd e)) (hK i c hc) (hK j d hd) k hk hk'
def iT (N:Env AV) (K:Hp AV) (l:Loc) (S:Nat->Prop) (w:World):Prop:=∃ρ:Nm,ρ.L 0=l /\ OwnL N ρ K w /\ ∀k,S k↔fpH ρ K k
def Ctr (P:Program) (N:Env AV) (f:FuncId) (args:List SV) (H:Hp AV) (v:SV) (H':Hp AV):Prop :=
 ClV H' v /\ bU N H' /\ ∀(ρ:Nm) (w:World),Own N ρ H w ->
  Calls P f (args.map (SV.den ρ)).toArray w fun e w'=>∃ρ',e=.returned (v.den ρ') /\ Own N ρ' H' w' /\ Evo N H.length ρ H w ρ' H' w'
theorem FnOk.ctr {f:FuncId} {g:List SV->Hp AV->T (SV×Hp AV)} (h:FnOk P N f g) {args:List SV} {H:Hp AV} {v:SV} {H':Hp AV} (hr:(g args H).val=some (v,H')) (ha:∀x∈args,ClV H x) (hC:bU N H):Ctr P N f args H v H' :=
 h args H v H' hr ha hC
theorem FnOk.of {f:FuncId} {g:List SV->Hp AV->T (SV×Hp AV)} (h:∀args H v H',(g args H).val=some (v,H')->(∀x∈args,ClV H x)->bU N H->Ctr P N f args H v H'):FnOk P N f g:=h
section opening
def opn (n L i:Nat):Nat:=match i with
 | 0=>n
 | i+1=>L+i
def HZ (π:Nat->Nat):Option (Chunk AV)->Option (Chunk AV)
 | some c=>some (c.ren π)
 | none=>none
def kD (H:Hp AV) (n:Nat):Hp AV->Hp AV
 | []=>H
 | k::r=>bC H n (HZ (opn n H.length) k)++r.map (HZ (opn n H.length))
theorem Db (π:Nat->Nat):∀(r:Hp AV) (i:Nat),ab (r.map (HZ π)) i=HZ π (ab r i)
 | [],i=>by cases i<;>rfl
 | x::r,0=>rfl
 | x::r,i+1=>Db π r i
theorem aH:∀(A B:Hp AV) (i:Nat),ab (A++B) i=if i < A.length then ab A i else ab B (i - A.length)
 | [],B,i=>by simp
 | x::r,B,0=>by simp [ab]
 | x::r,B,i+1=>by
   simp only [List.cons_append,ab,aH r B i,List.length_cons,Nat.add_lt_add_iff_right,Nat.add_sub_add_right]
theorem Iv (H:Hp AV) {n:Nat} (h:n < H.length) (x:Option (Chunk AV)):ab (bC H n x) n=x:=by
 cases x with
 | some c=>exact bn c h
 | none=>simp [hget_eq,lset_eq,h]
theorem tU {H K:Hp AV} {n:Nat} (hn:n < H.length) (hK:K≠[]) (m:Nat):ab (kD H n K) m=if m=n then HZ (opn n H.length) (ab K 0) else if m < H.length then ab H m else HZ (opn n H.length) (ab K (m - H.length+1)):=by
 cases K with
 | nil=>exact absurd rfl hK
 | cons k r =>
   simp only [kD]
   rw [aH,bX]
   by_cases h1:m=n
   ·subst h1
    rw [if_pos hn,if_pos rfl,Iv H hn]
    rfl
   ·rw [if_neg h1]
    by_cases h2:m < H.length
    ·rw [if_pos h2,if_pos h2,aK _ (Ne.symm h1)]
    ·rw [if_neg h2,if_neg h2,Db]
     rfl
theorem CH {H K:Hp AV} {n:Nat} (hlt:n < H.length) (hKn:K≠[]):∀m c,ab (kD H n K) m=some c->(m≠n /\ m < H.length /\ ab H m=some c) \/ ∃i d,m=opn n H.length i /\ ab K i=some d /\ c=d.ren (opn n H.length):=fun m c h=>by
 rw [tU hlt hKn] at h
 by_cases h1:m=n
 ·rw [if_pos h1] at h
  cases hk:ab K 0 with
  | none=>rw [hk] at h;cases h
  | some d=>rw [hk] at h;cases h;exact .inr ⟨0,d,h1,hk,rfl⟩
 ·rw [if_neg h1] at h
  by_cases h2:m < H.length
  ·rw [if_pos h2] at h;exact .inl ⟨h1,h2,h⟩
  ·rw [if_neg h2] at h
   cases hk:ab K (m - H.length+1) with
   | none=>rw [hk] at h;cases h
   | some d=>rw [hk] at h;cases h;exact .inr ⟨m - H.length+1,d,by show m=H.length+(m - H.length);omega,hk,rfl⟩
theorem Lf {ρ:Nm} {H K:Hp AV} {w:World} (hO:Own N ρ H w) (hC:bU N H) {n:Nat} {a:AV} (hn:ab H n=some (.abs a)) (hK0:∃c,ab K 0=some c) (hGn:N.G<=n) (hq:∀l S w,N.F.q a l S w->iT N K l S w) :
 ∃ρ',Own N ρ' (kD H n K) w /\ (∀m,m < H.length->ρ'.L m=ρ.L m) /\ (∀m,m < H.length->m≠n->ρ'.S m=ρ.S m) /\ ∀k,ρ.S n k↔∃i d,ab K i=some d /\ (d.ren (opn n H.length)).fp ρ' (opn n H.length i) k:=by
 have hlt:=aX hn
 have hKn:K≠[]:=by rintro rfl;obtain⟨c,hc⟩:=hK0;cases hc
 obtain⟨ρ0,h0,hL,hS⟩:=hq _ _ _ (hO.q n _ hn)
 let ρ':Nm:=⟨fun m=>if m < H.length then ρ.L m else ρ0.L (m - H.length+1),fun m=>if m=n then ρ0.S 0 else if m < H.length then ρ.S m else ρ0.S (m - H.length+1)⟩
 have eL:∀m,m < H.length->ρ'.L m=ρ.L m:=fun m hm=>if_pos hm
 have eS:∀m,m < H.length->m≠n->ρ'.S m=ρ.S m:=fun m hm hne=>by show (if m=n then _ else _)=_;rw [if_neg hne,if_pos hm]
 have er:ρ'.ren (opn n H.length)=ρ0:=by
  have e1:∀i,ρ'.L (opn n H.length i)=ρ0.L i:=fun i=>by
   cases i with
   | zero=>rw [show opn n H.length 0=n from rfl,eL n hlt,h0]
   | succ i =>
     show (if H.length+i < H.length then _ else ρ0.L (H.length+i - H.length+1))=_
     rw [if_neg (by omega),Nat.add_sub_cancel_left]
  have e2:∀i,ρ'.S (opn n H.length i)=ρ0.S i:=fun i=>by
   cases i with
   | zero=>exact if_pos rfl
   | succ i =>
     show (if H.length+i=n then _ else if H.length+i < H.length then _ else ρ0.S (H.length+i - H.length+1))=_
     rw [if_neg (by omega),if_neg (by omega),Nat.add_sub_cancel_left]
  unfold Nm.ren
  rw [show (fun i=>ρ'.L (opn n H.length i))=ρ0.L from funext e1,show (fun i=>ρ'.S (opn n H.length i))=ρ0.S from funext e2]
 have src:=CH (H:=H) (K:=K) hlt hKn
 have fpo:∀i (d:Chunk AV),(d.ren (opn n H.length)).fp ρ' (opn n H.length i)=d.fp ρ0 i:=fun i d=>by rw [jP,er]
 have fpm:∀m (c:Chunk AV),m < H.length->m≠n->c.fp ρ' m=c.fp ρ m:=fun m c hm hne=>bA (eL m hm) (eS m hm hne)
 have sub:∀m c k,ab (kD H n K) m=some c->c.fp ρ' m k->∃m' d,ab H m'=some d /\ d.fp ρ m' k:=fun m c k hc hk=>by
  rcases src m c hc with⟨h1,h2,h3⟩ | ⟨i,d,rfl,h3,rfl⟩
  ·rw [fpm m c h2 h1] at hk;exact⟨m,c,h3,hk⟩
  ·rw [fpo] at hk;exact⟨n,_,hn,(hS k).2 ⟨i,d,h3,hk⟩⟩
 refine⟨ρ',hO.sub ⟨fun m c hc=>?_,fun m m' c d hne hc hd k hk hk'=>?_,fun g hg=>?_⟩ sub,eL,eS,fun k=>?_⟩
 ·rcases src m c hc with⟨h1,h2,h3⟩ | ⟨i,d,rfl,h3,rfl⟩
  ·exact jK (hO.q m c h3) (eL m h2) (eS m h2 h1) (denL_congr (hC.1 m c h3) fun x y hy=>eL x (aX hy)) (fun _ _=>rfl)
  ·rw [CC,er];exact hL.q i d h3
 ·rcases src m c hc with⟨h1,h2,h3⟩ | ⟨i,d',rfl,h3,rfl⟩
  ·rcases src m' d hd with⟨g1,g2,g3⟩ | ⟨j,e',rfl,g3,rfl⟩
   ·rw [fpm m c h2 h1] at hk
    rw [fpm m' d g2 g1] at hk'
    exact hO.dis m m' c d hne h3 g3 k hk hk'
   ·rw [fpm m c h2 h1] at hk
    rw [fpo] at hk'
    exact hO.dis m n c _ h1 h3 hn k hk ((hS k).2 ⟨j,e',g3,hk'⟩)
  ·rcases src m' d hd with⟨g1,g2,g3⟩ | ⟨j,e',rfl,g3,rfl⟩
   ·rw [fpm m' d g2 g1] at hk'
    rw [fpo] at hk
    exact hO.dis m' n d _ g1 g3 hn k hk' ((hS k).2 ⟨i,d',h3,hk⟩)
   ·rw [fpo] at hk hk'
    exact hL.dis i j d' e' (fun e=>hne (by rw [e])) h3 g3 k hk hk'
 ·have:ρ' g=ρ g:=by simp only [Nm.f,eL g (by omega)]
  rw [this];exact hO.glb g hg
 ·rw [hS k]
  constructor
  ·rintro ⟨i,d,h1,h2⟩
   exact⟨i,d,h1,by rw [fpo];exact h2⟩
  ·rintro ⟨i,d,h1,h2⟩
   exact⟨i,d,h1,by rw [fpo] at h2;exact h2⟩
end opening
theorem ClL.ren {H B:Hp AV} {π:Nat->Nat} (h:∀i c,ab H i=some c->∃d,ab B (π i)=some d) {l:List Cell} (hl:ClL H l):ClL B (l.map (Cell.ren π)):=by
 intro c hc n hn
 obtain⟨d,hd,rfl⟩:=List.mem_map.1 hc
 rw [rH] at hn
 obtain⟨m,hm,rfl⟩:=Option.map_eq_some_iff.1 hn
 obtain⟨x,hx⟩:=hl d hd m hm
 exact h m x hx
theorem ClV.ren {H B:Hp AV} {π:Nat->Nat} (h:∀i c,ab H i=some c->∃d,ab B (π i)=some d) {v:SV} (hl:ClV H v):ClV B (v.ren π):=by
 have one:∀x:V1,ClV1 H x->ClV1 B (x.ren π):=fun x hx=>by
  cases x with
  | c x =>
    have:=ClL.ren h (l:=[x]) hx
    simpa [ClV1,V1.cells,V1.ren] using this
  | agg l=>exact ClL.ren h hx
 cases v with
 | v x=>exact one x hl
 | tup l =>
   intro x hx
   obtain⟨y,hy,rfl⟩:=List.mem_map.1 hx
   exact one y (hl y hy)
 | unk=>trivial
 | clo f l=>exact ClL.ren h (l:=l) hl
open Classical in
theorem Al {f:FuncId} {args:List SV} {H:Hp AV} {v:SV} {H':Hp AV} (hc:Ctr P N f args H v H') {B B':Hp AV} {π:Nat->Nat} (hπ:∀i c,ab H i=some c->ab B (π i)=some (c.ren π))
 (inj:∀i j c d,ab H' i=some c->ab H' j=some d->π i=π j->i=j) (hpers:∀i c,ab H i=some c->∃d,ab H' i=some d) (hg:∀g,g < N.G->π g=g) (hCB:bU N B)
 (hnew:∀i c,ab H' i=some c->ab H i=none->B.length<=π i) (hGB:N.G<=B.length)
 (hB:∀m c,ab B' m=some c->(∃i d,m=π i /\ ab H' i=some d /\ c=d.ren π) \/ (ab B m=some c /\ ∀i d,ab H' i=some d->π i≠m))
 (hB2:∀i d,ab H' i=some d->ab B' (π i)=some (d.ren π)) (pers:∀m c,ab B m=some c->∃c',ab B' m=some c') (non:∀m,m < B.length->ab B m=none->ab B' m=none) (len:B.length<=B'.length) :
 Ctr P N f (args.map (SV.ren π)) B (v.ren π) B':=by
 obtain⟨hv,hC',hcall⟩:=hc
 have up:∀i c,ab H' i=some c->∃d,ab B' (π i)=some d:=fun i c h=>⟨_,hB2 i c h⟩
 have hCB':bU N B':=by
  refine⟨fun m c h=>?_,trivial⟩
  rcases hB m c h with⟨i,d,rfl,h1,rfl⟩ | ⟨h1,_⟩
  ·rw [uS];exact ClL.ren up (hC'.1 i d h1)
  ·exact(hCB.1 m c h1).mono pers
 refine⟨hv.ren up,hCB',fun ρ w hO=>?_⟩
 have inj0:∀i j c d,ab H i=some c->ab H j=some d->π i=π j->i=j:=fun i j c d h1 h2 e=>by
  obtain⟨c',hc'⟩:=hpers i c h1
  obtain⟨d',hd'⟩:=hpers j d h2
  exact inj i j c' d' hc' hd' e
 have hOc:Own N (ρ.ren π) H w:=by
  have:=hO.toL.sub hπ inj0
  refine⟨⟨this.q,this.dis,fun g hgG=>?_⟩,hO.ro.1,fun i c k h hk=>hO.ro.2 (π i) _ k (hπ i c h) (by rw [jP];exact hk)⟩
  show (ρ.L (π g)).b=g
  rw [hg g hgG];exact hO.glb g hgG
 have hmap:(args.map (SV.ren π)).map (SV.den ρ)=args.map (SV.den (ρ.ren π)):=by
  rw [List.map_map]
  exact List.map_congr_left fun x _=>SV.den_ren ρ π x
 rw [hmap]
 refine(hcall _ w hOc).mono ?_
 rintro e w' ⟨ρ',rfl,hO',hE⟩
 let ρ2:Nm:=⟨fun m=>if h:∃i d,m=π i /\ ab H' i=some d then ρ'.L h.choose else ρ.L m,fun m=>if h:∃i d,m=π i /\ ab H' i=some d then ρ'.S h.choose else ρ.S m⟩
 have im:∀i d,ab H' i=some d->ρ2.L (π i)=ρ'.L i /\ ρ2.S (π i)=ρ'.S i:=fun i d hd=>by
  have hex:∃j e,π i=π j /\ ab H' j=some e:=⟨i,d,rfl,hd⟩
  have hch:hex.choose=i:=by
   obtain⟨e,h1,h2⟩:=hex.choose_spec
   exact(inj i _ d e hd h2 h1).symm
  constructor
  ·show (if h:∃j e,π i=π j /\ ab H' j=some e then _ else _)=_
   rw [dif_pos hex,hch]
  ·show (if h:∃j e,π i=π j /\ ab H' j=some e then _ else _)=_
   rw [dif_pos hex,hch]
 have out:∀m,(∀i d,ab H' i=some d->π i≠m)->ρ2.L m=ρ.L m /\ ρ2.S m=ρ.S m:=fun m hm=>by
  have hex:¬∃j e,m=π j /\ ab H' j=some e:=by
   rintro ⟨j,e,h1,h2⟩
   exact hm j e h2 h1.symm
  exact⟨dif_neg hex,dif_neg hex⟩
 have old:∀m c,ab B m=some c->ρ2.L m=ρ.L m:=fun m c h=>by
  by_cases hex:∃i d,m=π i /\ ab H' i=some d
  ·obtain⟨i,d,rfl,hd⟩:=hex
   rw [(im i d hd).1]
   cases hh:ab H i with
   | none=>have:=hnew i d hd hh;have:=aX h;omega
   | some x=>exact hE.agree i x hh
  ·exact(out m fun i d hd e=>hex ⟨i,d,e.symm,hd⟩).1
 have fpi:∀i d,ab H' i=some d->(d.ren π).fp ρ2 (π i)=d.fp ρ' i:=fun i d hd=>by
  rw [jP]
  exact bA (im i d hd).1 (im i d hd).2
 have fpo:∀m (c:Chunk AV),(∀i d,ab H' i=some d->π i≠m)->c.fp ρ2 m=c.fp ρ m:=fun m c hm=>bA (out m hm).1 (out m hm).2
 have small:∀i d k,ab H' i=some d->d.fp ρ' i k->w.heap.size<=k \/ ∃j e,ab H j=some e /\ (e.ren π).fp ρ (π j) k:=fun i d k hd hk=>by
  rcases hE.new i d k hd hk with h1 | ⟨j,e,h1,h2⟩
  ·exact .inl h1
  ·exact .inr ⟨j,e,h1,by rw [jP];exact h2⟩
 have apart:∀m c i d k,ab B m=some c->(∀i d,ab H' i=some d->π i≠m)->ab H' i=some d->c.fp ρ m k->d.fp ρ' i k->False:=fun m c i d k hc hm hd hk hk'=>by
  rcases small i d k hd hk' with h1 | ⟨j,e,h1,h2⟩
  ·have:=hO.lt hc hk;omega
  ·obtain⟨e',he'⟩:=hpers j e h1
   exact hO.dis m (π j) c _ (fun e=>hm j e' he' e.symm) hc (hπ j e h1) k hk h2
 refine⟨ρ2,?_,hO.up2 ⟨⟨fun m c h=>?_,fun m m' c d hne h h' k hk hk'=>?_,fun g hgG=>?_⟩,⟨pers,old,non,len,fun k hk hno=>?_,fun m c k h hk=>?_,hE.os,hE.tape,hE.output,hE.size⟩⟩⟩
 ·congr 1
  rw [SV.den_ren]
  exact(SV.den_congr hv fun i c h=>(im i c h).1).symm
 ·rcases hB m c h with⟨i,d,rfl,h1,rfl⟩ | ⟨h1,h2⟩
  ·rw [CC]
   exact jK (hO'.q i d h1) (im i d h1).1 (im i d h1).2 (denL_congr (hC'.1 i d h1) fun j x hx=>(im j x hx).1) (fun _ _=>rfl)
  ·refine jK (hO.q m c h1) (out m h2).1 (out m h2).2 (denL_congr (hCB.1 m c h1) old) fun k hk=>?_
   refine hE.frame k (hO.lt h1 hk) fun i d hd hk'=>?_
   obtain⟨d',hd'⟩:=hpers i d hd
   rw [<- jP] at hk'
   exact hO.dis m (π i) c _ (fun e=>h2 i d' hd' e.symm) h1 (hπ i d hd) k hk hk'
 ·rcases hB m c h with⟨i,x,rfl,h1,rfl⟩ | ⟨h1,h2⟩
  ·rw [fpi i x h1] at hk
   rcases hB m' d h' with⟨j,y,rfl,g1,rfl⟩ | ⟨g1,g2⟩
   ·rw [fpi j y g1] at hk'
    exact hO'.dis i j x y (fun e=>hne (by rw [e])) h1 g1 k hk hk'
   ·rw [fpo m' d g2] at hk'
    exact apart m' d i x k g1 g2 h1 hk' hk
  ·rw [fpo m c h2] at hk
   rcases hB m' d h' with⟨j,y,rfl,g1,rfl⟩ | ⟨g1,g2⟩
   ·rw [fpi j y g1] at hk'
    exact apart m c j y k h1 h2 g1 hk hk'
   ·rw [fpo m' d g2] at hk'
    exact hO.dis m m' c d hne h1 g1 k hk hk'
 ·by_cases hex:∃d,ab H' g=some d
  ·obtain⟨d,hd⟩:=hex
   have:=(im g d hd).1
   rw [hg g hgG] at this
   show (ρ2.L g).b=g
   rw [this];exact hO'.glb g hgG
  ·show (ρ2.L g).b=g
   by_cases hi:∃i d,ab H' i=some d /\ π i=g
   ·obtain⟨i,d,hd,e⟩:=hi
    have h3:=(im i d hd).1
    rw [e] at h3
    cases hh:ab H i with
    | none =>
      have h1:=hnew i d hd hh
      omega
    | some x =>
      rw [h3,hE.agree i x hh]
      show (ρ.L (π i)).b=g
      rw [e];exact hO.glb g hgG
   ·rw [(out g fun i d hd e=>hi ⟨i,d,hd,e⟩).1];exact hO.glb g hgG
 ·refine hE.frame k hk fun i d hd hk'=>?_
  rw [<- jP] at hk'
  exact hno (π i) _ (hπ i d hd) hk'
 ·rcases hB m c h with⟨i,d,rfl,h1,rfl⟩ | ⟨h1,h2⟩
  ·rw [fpi i d h1] at hk
   rcases small i d k h1 hk with h2 | ⟨j,e,h2,h3⟩
   ·exact .inl h2
   ·exact .inr ⟨π j,_,hπ j e h2,h3⟩
  ·rw [fpo m c h2] at hk
   exact .inr ⟨m,c,h1,hk⟩
end
end Go.Sx
