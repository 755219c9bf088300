import Derived.Test.YtadmfaohjnjajaaGreatDoorSxM
set_option linter.unusedVariables false
set_option linter.unusedSimpArgs false
set_option maxHeartbeats 0
set_option maxRecDepth 100000
namespace Go.Sx
section
variable {AV:Type} {P:Program} {N:eI AV}
theorem lX (w:World) (t ty e:TypeId) (i:TypeInfo) (hu:P.underlying t=some (.slice e)) (hi:P.info? e=some i) {a b:Option Addr} {n cap ajY:Nat} (hle:n<=cap) :
 (Builtin.append_ #[t,t] ty #[.slice a n cap,.slice b 0 ajY]).run P w=.ok (.slice a n cap) w:=by
 have hf:(Builtin.firstCells i.size 0 (.slice b 0 ajY)).run P w=.ok #[] w:=by
  cases b with
  | none=>simp [Builtin.firstCells]
  | some q=>simp only [Builtin.firstCells,Nat.zero_mul];exact T7 q w
 cases a with
 | none=>simp [Builtin.append_,run_underlying hu,sizeOf,typeInfo,hi,Builtin.lenOf,hle,hf]
 | some q=>simp [Builtin.append_,run_underlying hu,sizeOf,typeInfo,hi,Builtin.lenOf,hle,hf,storeCells]
theorem JC {l:m9} {S:Nat->Prop} {cs:List Value} {es:Nat} {ty:TypeId} {w:World} (h:ng l S cs es ty w) (j:Nat) (v:Value) (hv:cs[j]?=some v):w.cell? ((⟨l.b,l.o,none⟩:Addr).add j)=some v:=by
 have e:(⟨l.b,l.o,none⟩:Addr).add j=⟨l.b,l.o+j,none⟩:=by unfold Addr.add;by_cases hj:j=0<;>simp [hj]
 rw [e];rcases h with⟨_,h0,_⟩ | ⟨_,_,row,h2,_,_,h5⟩
 ·rw [h0] at hv;simp at hv
 ·have:=h5 j v hv;simp only [World.cell?,h2];simpa using this
theorem Hm {l:m9} {S:Nat->Prop} {cs:List Value} {es:Nat} {ty:TypeId} {w:World} (h:ng l S cs es ty w):Me l cs es w:=by
 refine⟨?_,JC h⟩;rcases h with⟨_,h0,_⟩ | ⟨_,_,row,_,_,hc,_⟩
 ·rw [h0];exact acX _
 ·exact hc
theorem yW {l:m9} {S:Nat->Prop} {cs:List Value} {es:Nat} {ty:TypeId} {w:World} (h:ng l S cs es ty w) (Vj:0 < es) {n:Nat} (hn:cs.length=n * es):n<=l.c - 1:=by
 rcases h with⟨_,h0,_⟩ | ⟨_,_,row,_,_,hc,_⟩
 ·rw [h0] at hn;rcases Nat.mul_eq_zero.1 (show n * es=0 from hn.symm) with h0 | h0<;>omega
 ·rw [hn] at hc;exact Nat.le_of_mul_le_mul_right hc Vj
theorem vsDen_eq (l:m9) (len es:Nat):cH l 0 len es=if len=0 /\ l.c=0 then .slice none 0 0 else .slice (some ⟨l.b,l.o,none⟩) len (l.c - 1):=by simp [cH]
theorem Gq {t e:TypeId} {i:TypeInfo} {z:Value} (hu:P.underlying t=some (.slice e)) (hi:P.info? e=some i) (hz:i.zero=some z) (hzs:z.cells.size=i.size) (kM:0 < i.size)
 {w:World} {l1:m9} {S1:Nat->Prop} {vs:List Value} (h1:ng l1 S1 vs i.size e w) {len:Nat} (hlen:vs.length=len * i.size)
 {l2:m9} {us:List Value} (h2:Me l2 us i.size w) {k:Nat} (hk:us.length=k * i.size) (hone:∀u∈us,u.oneCell'=true)
 (hfit:(len+k) * (i.bytes+1)<=zF) (ty:TypeId) :
 ∃r w',(Builtin.append_ #[t,t] ty #[cH l1 0 len i.size,cH l2 0 k i.size]).run P w=.ok r w' /\ ∃lc S',r=cH lc 0 (len+k) i.size /\ ng lc S' (vs++us) i.size e w' /\ Fr S1 S' w w':=by
 have f1:=yW h1 kM hlen;have f2:k<=l2.c - 1:=Nat.le_of_mul_le_mul_right (by rw [<- hk];exact h2.1) kM;have aiV:∀(w:World) (aE dy:Nat),(Builtin.zeroCells z.cells (grownCap w aE dy e - aE)).size=(grownCap w aE dy e - aE) * i.size:=fun w aE dy=>by rw [size_zeroCells,hzs]
 have hkb:(len+k) * i.bytes<=zF:=abz (ac3 _ (Nat.le_succ _)) hfit;have PW:len+k<=zF:=by have:(len+k) * 1<=(len+k) * (i.bytes+1):=ac3 _ (by omega);omega
 simp only [zF] at hkb PW
 have fresh:∀dy,∃lc S',Value.slice (some ⟨w.heap.size,0,none⟩) (len+k) (grownCap w (len+k) dy e)=cH lc 0 (len+k) i.size /\
  ng lc S' (vs++us) i.size e (w.drew.alloc (.cells (vs.toArray++us.toArray++Builtin.zeroCells z.cells (grownCap w (len+k) dy e - (len+k))) e)) /\
  Fr S1 S' w (w.drew.alloc (.cells (vs.toArray++us.toArray++Builtin.zeroCells z.cells (grownCap w (len+k) dy e - (len+k))) e)):=by
  intro dy;have GS:=grownCap_ge w (len+k) dy e;refine⟨⟨w.heap.size,0,grownCap w (len+k) dy e+1⟩,fun k=>k=w.heap.size,by rw [vsDen_eq];simp,.inr ⟨by simp,fun k=>Iff.rfl,(vs.toArray++us.toArray++Builtin.zeroCells z.cells (grownCap w (len+k) dy e - (len+k))).toList,?_,?_,?_,?_⟩,?_⟩
  ·show (w.drew.heap.push _)[w.heap.size]?=_;have hh:w.drew.heap=w.heap:=rfl;rw [hh,Array.getElem?_push_size,afw]
  ·simp only [afI,Array.size_append,aiV,List.size_toArray,hlen,hk,aby,Nat.add_sub_cancel];rw [<- aei,<- aei];exact ac2 _ (by omega)
  ·simp only [aaP,hlen,hk,Nat.add_sub_cancel];rw [<- aei];exact ac2 _ GS
  ·intro j v hv;have hj:=(aaS.1 hv).1;simp only [aby,Array.toList_append];rw [acM (by simpa using hj)];simpa using hv
  ·refine⟨fun b hb _=>?_,fun b hb=>.inl (by show w.heap.size<=b;rw [show b=w.heap.size from hb];omega),rfl,rfl,rfl,?_⟩
   ·show (w.drew.heap.push _)[b]?=_;rw [Array.getElem?_push];have:w.drew.heap=w.heap:=rfl;rw [this,if_neg (by omega)]
   ·show w.heap.size<=(w.drew.heap.push _).size;have:w.drew.heap=w.heap:=rfl;rw [this];simp
 rcases Nat.eq_zero_or_pos k with rfl | hkp
 ·-- nothing is ap0
  have hu0:us=[]:=afO.1 (by rw [hk];simp);have hx:∃b c2,cH l2 0 0 i.size=.slice b 0 c2:=by rw [vsDen_eq];split<;>exact⟨_,_,rfl⟩
  obtain⟨b,c2,hx⟩:=hx;refine⟨cH l1 0 len i.size,w,?_,l1,S1,by simp,by rw [hu0,aeF];exact h1,⟨fun _ _ _=>rfl,fun _ h=>.inr h,rfl,rfl,rfl,ab4 _⟩⟩;rw [hx,vsDen_eq];split
  ·rename_i h0;rw [lX w t ty e i hu hi (ab4 0)]
  ·rw [lX w t ty e i hu hi f1]
 ·have hc2:l2.c≠0:=by omega
  have hx:cH l2 0 k i.size=.slice (some ⟨l2.b,l2.o,none⟩) k (l2.c - 1):=by rw [vsDen_eq,if_neg (by omega)]
  have vF:=h2.2;by_cases hc1:l1.c=0
  ·have hl0:len=0:=by omega
   subst hl0;have hv0:vs=[]:=afO.1 (by rw [hlen];simp);subst hv0;simp only [aby] at hkb PW ⊢;have hr:=run_append_nil (P:=P) w t ty e i z hu hi hz ⟨l2.b,l2.o,none⟩ k (l2.c - 1) us hk vF hkp (by omega) (by omega);obtain⟨lc,S',g1,g2,g3⟩:=fresh 0;simp only [aby] at g1 g2 g3;refine⟨_,_,by rw [hx,vsDen_eq,if_pos ⟨rfl,hc1⟩];exact hr,lc,S',g1,?_,?_⟩
   ·simpa using g2
   ·simpa using g3
  ·have hs:cH l1 0 len i.size=.slice (some ⟨l1.b,l1.o,none⟩) len (l1.c - 1):=by rw [vsDen_eq,if_neg (fun h=>hc1 h.2)]
   by_cases hroom:len+k<=l1.c - 1
   ·-- there is CK
    rcases h1 with⟨h0,_⟩ | ⟨hcp,hS,row,hrow,Vf,hll,bG⟩
    ·omega
    ·have hmul:len * i.size+k * i.size<=(l1.c - 1) * i.size:=by rw [<- aei];exact ac2 _ hroom
     have hp:l1.o+len * i.size+us.length<=row.length:=by rw [hk];omega
     have hr:=oa (P:=P) w t ty e i hu hi l1.b l1.o len (l1.c - 1) row.toArray e hrow ⟨l2.b,l2.o,none⟩ k (l2.c - 1) us hk vF hone hroom (by simpa using hp);simp only at hr;refine⟨_,_,by rw [hx,hs];exact hr,l1,S1,by rw [vsDen_eq,if_neg (by omega)],.inr ⟨hcp,hS,_,setRow_heap w l1.b _ _ e (0,0) hrow,?_,?_,?_⟩,⟨fun b hb hn=>setRow_other w l1.b b _ (fun e=>hn ((hS b).2 e)),fun b hb=>.inr hb,rfl,rfl,rfl,by simp [World.setRow]⟩⟩
     ·simp only [aaP,aga,agb];omega
     ·simp only [aaP,hlen,hk];omega
     ·intro j v hv;rw [Db hp];by_cases hj:j < len * i.size
      ·rw [if_pos (by omega)];rw [acM (by omega)] at hv;exact bG j v hv
      ·rw [if_neg (by omega)];rw [acR (by omega)] at hv;have hj2:=(aaS.1 hv).1;rw [if_pos (by omega),<- hv];congr 1;omega
   ·have hr:=run_append_grow (P:=P) w t ty e i z hu hi hz ⟨l1.b,l1.o,none⟩ len (l1.c - 1) vs hlen (JC h1) ⟨l2.b,l2.o,none⟩ k (l2.c - 1) us hk vF (by omega) (by omega) (growslice_fits (by omega) (by omega));obtain⟨lc,S',g1,g2,g3⟩:=fresh (l1.c - 1);exact⟨_,_,by rw [hx,hs];exact hr,lc,S',g1,g2,g3⟩
def Ot (F:gX AV) (si:SI) (H:Hp AV):Cell->Option (Nat×AV×Nat)
 | .vs n o len es _=>match Nat.beq o 0,Nat.beq es si.size,af H n with
   | true,true,some (.bN a)=>match F.gb a with
     | some (e1,ty,_)=>match Nat.beq e1 si.size,Nat.beq ty si.e with
       | true,true=>some (n,a,len)
       | _,_=>none
     | none=>none
   | _,_,_=>none
 | _=>none
def KV (F:gX AV) (si:SI) (H:Hp AV):Cell->Option (Nat×AV×Nat)
 | .vs n o len es _=>match Nat.beq o 0,Nat.beq es si.size,af H n with
   | true,true,some (.bN a)=>match F.su a with
     | some b=>match F.gb b with
       | some (e1,ty,_)=>match Nat.beq e1 si.size,Nat.beq ty si.e with
         | true,true=>some (n,b,len)
         | _,_=>none
       | none=>none
     | none=>none
   | _,_,_=>none
 | _=>none
def OH (si:SI) (H:Hp AV):Cell->Option (Option Nat)
 | .dP=>some none
 | .sf _ _ es true _ _=>match Nat.beq es si.size with | true=>some none | false=>none
 | .vs n o len es true=>match Nat.beq o 0,Nat.beq len 0,Nat.beq es si.size,af H n with
   | true,true,true,some (.oB _ Lc ty)=>match Nat.beq Lc si.size,Nat.beq ty si.e with
     | true,true=>some (some n)
     | _,_=>none
   | _,_,_,_=>none
 | _=>none
def aiB (d:Option Nat) (n:Nat):Bool:=match d with | some m=>Nat.beq m n | none=>false
def aj6 (F:gX AV) (si:SI) (G:Nat) (s x:Cell) (H:Hp AV):T (SV×Hp AV) :=
 match Nat.ble G H.length,Ot F si H s,KV F si H x with
 | true,some (n1,a,len),some (n2,b,k)=>match Nat.beq n1 n2,F.cat a b with
   | false,some c=>.aE (decide (len=F.len a /\ k=F.len b /\ (len+k) * (si.bytes+1)<=zF)) (.aD (.v (.c (.vs H.length 0 (len+k) si.size false)),gM H (some n1)++[some (.bN c)]))
   | _,_=>.fail "append: arrays"
 | true,none,some (n2,b,k)=>match OH si H s with
   | some d=>match aiB d n2 with
     | false=>.aE (decide (k=F.len b /\ k * (si.bytes+1)<=zF)) (.aD (.v (.c (.vs H.length 0 k si.size false)),gM H d++[some (.bN b)]))
     | true=>.fail "append: arrays"
   | none=>.fail "append: arrays"
 | true,some (n1,a,len),none=>match KI x with
   | true=>.aE (decide (len<=F.len a)) (.aD (.v (.c s),H))
   | false=>match x with
     | .vs n2 o2 k es true=>match p5 H si.size (.vs n2 o2 k es true),Nat.beq n1 n2 with
       | some news,false=>match F.Le a news with
         | some c=>.aE (decide (len=F.len a /\ (len+k) * (si.bytes+1)<=zF)) (.aD (.v (.c (.vs H.length 0 (len+k) si.size false)),gM H (some n1)++[some (.bN c)]))
         | none=>.fail "append: arrays"
       | _,_=>.fail "append: arrays"
     | _=>.fail "append: arrays"
 | _,_,_=>.fail "append: arrays"
theorem CD {F:gX AV} {si:SI} {H:Hp AV} {x:Cell} {n len:Nat} {b:AV} (h:KV F si H x=some (n,b,len)):∃kn a vs,x=.vs n 0 len si.size kn /\ af H n=some (.bN a) /\ F.su a=some b /\ F.gb b=some (si.size,si.e,vs):=by
 unfold KV at h;split at h
 ·split at h
  ·split at h
   ·split at h
    ·split at h
     ·rename_i h1 h2 h3 _ _ h7 _ _ _ _ h4 _ _ h5 h6;have h1:=(aG _ _).1 h1;have h2:=(aG _ _).1 h2;have h5:=(aG _ _).1 h5;have h6:=(aG _ _).1 h6;subst h1 h2 h5 h6;cases h;exact⟨_,_,_,rfl,h3,h7,h4⟩
     ·cases h
    ·cases h
   ·cases h
  ·cases h
 ·cases h
theorem ue {F:gX AV} {si:SI} {H:Hp AV} {x:Cell} {n len:Nat} {a:AV} (h:Ot F si H x=some (n,a,len)):∃kn vs,x=.vs n 0 len si.size kn /\ af H n=some (.bN a) /\ F.gb a=some (si.size,si.e,vs):=by
 unfold Ot at h;split at h
 ·split at h
  ·split at h
   ·split at h
    ·rename_i h1 h2 h3 _ _ _ _ h4 _ _ h5 h6;have h1:=(aG _ _).1 h1;have h2:=(aG _ _).1 h2;have h5:=(aG _ _).1 h5;have h6:=(aG _ _).1 h6;subst h1 h2 h5 h6;cases h;exact⟨_,_,rfl,h3,h4⟩
    ·cases h
   ·cases h
  ·cases h
 ·cases h
theorem v7 {ρ:Nm} {H:Hp AV} {w w':World} (hO:gF N ρ H w) (hC:eX N H) (hG:N.G<=H.length) {d:Option Nat} (hd:∀n,d=some n->∃c,af H n=some c) {c:AV} {es:Nat} {ty:TypeId} {vs:List Value} (hc:N.F.gb c=some (es,ty,vs))
 {lc:m9} {S S':Nat->Prop} (hS:∀k,S k->∃n x,d=some n /\ af H n=some x /\ x.fp ρ n k) (hv:ng lc S' vs es ty w') (hf:Fr S S' w w') :
 gF N (ρ.set H.length lc S') (gM H d++[some (.bN c)]) w' /\ lj N H.length ρ H w (ρ.set H.length lc S') (gM H d++[some (.bN c)]) w':=by
 have:=XC (w':=w') hO hC hG (d:=d) (ck:=.bN c) hd (fun x hx=>by cases hx) (lc:=lc) (S:=S')
  (fun k hk vD=>hf.mW k hk fun hs=>by
    obtain⟨n,x,h1,h2,h3⟩:=hS k hs;exact vD n x h1 h2 h3) hf.os hf.tape hf.output hf.size
  (by
    show N.F.q c _ _ _;rw [(p6 _ _ _ _).1,(p6 _ _ _ _).2];exact((N.F.kZ c es ty vs hc).2 _ _ _).2 hv)
  (fun k hk=>by
    have hk:(ρ.set H.length lc S').S H.length k:=hk;rw [(p6 _ _ _ _).2] at hk;rcases hf.new k hk with h | h
    ·exact .inl h
    ·exact .inr (hS k h))
 exact⟨this.1,this.2.1⟩
theorem rz {ρ:Nm} {n len es:Nat} {kn:Bool}:(Cell.vs n 0 len es kn).ay ρ=cH (ρ.L n) 0 len es:=rfl
theorem Z2 {H:Hp AV} (hC:eX N H) {d:Option Nat} (hd:∀n,d=some n->∃c,af H n=some c) (c:AV):eX N (gM H d++[some (.bN c)]):=DE hC hd (fun x hx=>by cases hx)
theorem S0 {l:m9} {S:Nat->Prop} {cs:List Value} {es:Nat} {ty:TypeId} {w:World} (h:ng l S cs es ty w):ng l S [] es ty w:=by
 rcases h with⟨h1,_,h3⟩ | ⟨h1,h2,row,h3,h4,h5,h6⟩
 ·exact .inl ⟨h1,rfl,h3⟩
 ·exact .inr ⟨h1,h2,row,h3,h4,acX _,fun j v h=>by simp at h⟩
theorem Ll {si:SI} {H:Hp AV} {x:Cell} {d:Option Nat} (h:OH si H x=some d):(∀n,d=some n->∃c,af H n=some c) /\ ∀(ρ:Nm) (w:World),gF N ρ H w->∃l S,x.ay ρ=cH l 0 0 si.size /\ ng l S [] si.size si.e w /\ ∀k,S k->∃n x,d=some n /\ af H n=some x /\ x.fp ρ n k:=by
 unfold OH at h;split at h
 ·cases h;exact⟨fun n h=>(by cases h),fun ρ w _=>⟨⟨0,0,0⟩,fun _=>False,rfl,.inl ⟨acX _,rfl,fun _ h=>h⟩,fun k h=>h.elim⟩⟩
 ·rename_i n o es f p;split at h
  ·rename_i h1;have h1:=(aG _ _).1 h1;subst h1;cases h;refine⟨fun n h=>(by cases h),fun ρ w _=>⟨f.ap (ρ.L n),fun _=>False,rfl,.inl ⟨?_,rfl,fun _ h=>h⟩,fun k h=>h.elim⟩⟩;rcases p (ρ.L n) with h | ⟨h,_⟩
   ·exact h
   ·cases h
  ·cases h
 ·rename_i n o len es;split at h
  ·rename_i l Lc ty h1 h2 h3 h4;split at h
   ·rename_i h5 h6;have h1:=(aG _ _).1 h1;have h2:=(aG _ _).1 h2;have h3:=(aG _ _).1 h3;have h5:=(aG _ _).1 h5;have h6:=(aG _ _).1 h6;subst h1 h2 h3 h5 h6;cases h;refine⟨fun m h=>(by cases h;exact⟨_,h4⟩),fun ρ w hO=>⟨ρ.L n,ρ.S n,rfl,S0 (hO.q n _ h4),fun k hk=>⟨n,_,rfl,h4,hk⟩⟩⟩
   ·cases h
  ·cases h
 ·cases h
theorem aC {α:Type} {b:Bool} {t:T α} {x:α} (h:(T.aE b t).val=some x):b=true /\ t.val=some x:=fZ h
theorem aeh {si:SI} {i:TypeInfo} {z:Value} {t:TypeId} (hu:P.underlying t=some (.slice si.e)) (hi:P.info? si.e=some i) (hz:i.zero=some z) (e1:i.size=si.size) (e2:i.bytes=si.bytes) (kM:0 < si.size) (hzs:z.cells.size=si.size)
 {H H':Hp AV} {v:SV} {s x:Cell} (hC:eX N H) (hcs:gf H (.v (.c s))) (h:(aj6 N.F si N.G s x H).val=some (v,H')):gf H' v /\ eX N H' /\ ∀(ρ:Nm) (w:World),gF N ρ H w->∀ty,∃r w',(Builtin.append_ #[t,t] ty #[s.ay ρ,x.ay ρ]).run P w=.ok r w' /\
   ∃ρ',r=v.ay ρ' /\ gF N ρ' H' w' /\ lj N H.length ρ H w ρ' H' w':=by
 have YY:0 < i.size:=by omega
 have aiG:z.cells.size=i.size:=by omega
 have fin:∀(d:Option Nat) (c:AV) (m:Nat) (vs:List Value),(∀n,d=some n->∃c,af H n=some c)->N.G<=H.length->N.F.gb c=some (si.size,si.e,vs) ->
  v=.v (.c (.vs H.length 0 m si.size false))->H'=gM H d++[some (.bN c)] ->
  (∀(ρ:Nm) (w:World),gF N ρ H w->∀ty,∃r w' S,(Builtin.append_ #[t,t] ty #[s.ay ρ,x.ay ρ]).run P w=.ok r w' /\ (∀k,S k->∃n x,d=some n /\ af H n=some x /\ x.fp ρ n k) /\ ∃lc S',r=cH lc 0 m i.size /\ ng lc S' vs i.size si.e w' /\ Fr S S' w w') ->
  gf H' v /\ eX N H' /\ ∀(ρ:Nm) (w:World),gF N ρ H w->∀ty,∃r w',(Builtin.append_ #[t,t] ty #[s.ay ρ,x.ay ρ]).run P w=.ok r w' /\
   ∃ρ',r=v.ay ρ' /\ gF N ρ' H' w' /\ lj N H.length ρ H w ρ' H' w':=by
  rintro d c m vs hd hG hc rfl rfl hr;refine⟨m6 hd 0 _ _ _,Z2 hC hd c,fun ρ w hO ty=>?_⟩;obtain⟨r,w',S,g1,g2,lc,S',g3,g4,g5⟩:=hr ρ w hO ty;rw [e1] at g4;obtain⟨o1,o2⟩:=v7 hO hC hG hd hc g2 g4 g5;refine⟨r,w',g1,_,?_,o1,o2⟩;rw [g3,e1];simp only [SV.ay,V1.ay,Cell.ay,(p6 _ _ _ _).1]
 unfold aj6 at h;split at h
 ·-- two au8
  rename_i n1 a len n2 b k hG hs hx;split at h
  ·rename_i c dE at1;obtain⟨hb,h⟩:=aC h;simp only [T.val,aaf,aaB] at h;obtain⟨k1,k2,k3⟩:=aaF hb;obtain⟨kn1,vs,rfl,p2,p3⟩:=ue hs;obtain⟨kn2,a2,us,rfl,q2,qs,q3⟩:=CD hx;obtain⟨Lc,ek,OL,U9,us',r1,r2,r3⟩:=N.F.KP a b c at1;rw [p3] at r1;cases r1;rw [q3] at r2;simp only [aaf,aaB] at r2;obtain⟨_,rfl,rfl⟩:=r2;refine fin (some n1) c (len+k) _ (fun n h=>by cases h;exact⟨_,p2⟩) (acZ hG) r3 h.1.symm h.2.symm fun ρ w hO ty=>?_;have A1:=((N.F.kZ a _ _ _ p3).2 _ _ _).1 (hO.q n1 _ p2);have A2:=N.F.Ec a2 b _ _ _ qs q3 _ _ _ hO.ro.1 (hO.q n2 _ q2);have L1:=N.F.tG a _ _ _ p3;have L2:=N.F.tG b _ _ _ q3;rw [<- e1] at A1 A2 L1 L2;rw [<- k1] at L1;rw [<- k2] at L2;obtain⟨r,w',g1,lc,S',g2,g3,g4⟩:=Gq hu hi hz aiG YY A1 L1 A2 L2 (N.F.kZ b _ _ _ q3).1 (by rw [e2];exact k3) ty;rw [rz,rz,<- e1];exact⟨r,w',ρ.S n1,g1,fun k hk=>⟨n1,_,rfl,p2,hk⟩,lc,S',g2,g3,g4⟩
  ·cases h
 ·-- a copy
  rename_i n2 b k hG hs hx;split at h
  ·rename_i d hvd;split at h
   ·rename_i dE;obtain⟨hb,h⟩:=aC h;simp only [T.val,aaf,aaB] at h;obtain⟨k2,k3⟩:=aaF hb;obtain⟨kn2,a2,us,rfl,q2,qs,q3⟩:=CD hx;obtain⟨hd,hv⟩:=Ll (N:=N) hvd;refine fin d b k us hd (acZ hG) q3 h.1.symm h.2.symm fun ρ w hO ty=>?_;obtain⟨l,S,v1,v2,v3⟩:=hv ρ w hO;have A2:=N.F.Ec a2 b _ _ _ qs q3 _ _ _ hO.ro.1 (hO.q n2 _ q2);have L2:=N.F.tG b _ _ _ q3;rw [<- e1] at A2 L2 v2;rw [<- k2] at L2;obtain⟨r,w',g1,lc,S',g2,g3,g4⟩:=Gq hu hi hz aiG YY v2 (len:=0) (by simp) A2 L2 (N.F.kZ b _ _ _ q3).1 (by rw [e2,aby];exact k3) ty;rw [v1,rz,<- e1];simp only [aby,acB] at g2 g3;exact⟨r,w',S,g1,v3,lc,S',g2,g3,g4⟩
   ·cases h
  ·cases h
 ·rename_i n1 a len hG hs hx;obtain⟨kn1,vs,rfl,p2,p3⟩:=ue hs;have L1:=N.F.tG a _ _ _ p3;split at h
  ·-- nothing
   rename_i he;obtain⟨hb,h⟩:=aC h;cases h;have hb:=aaF hb;refine⟨hcs,hC,fun ρ w hO ty=>?_⟩;obtain⟨b,ajY,hxd⟩:=UE he ρ;have A1:=((N.F.kZ a _ _ _ p3).2 _ _ _).1 (hO.q n1 _ p2);have f1:=yW A1 kM L1;have f1:len<=(ρ.L n1).c - 1:=abz hb f1;refine⟨(Cell.vs n1 0 len si.size kn1).ay ρ,w,?_,ρ,rfl,hO,lj.refl _ _ _ _⟩;rw [hxd,rz,vsDen_eq];split
   ·exact lX w t ty si.e i hu hi (ab4 0)
   ·exact lX w t ty si.e i hu hi f1
  ·split at h
   ·rename_i n2 o2 k es _;split at h
    ·rename_i news hn dE;split at h
     ·rename_i c hc;obtain⟨hb,h⟩:=aC h;simp only [T.val,aaf,aaB] at h;obtain⟨k1,k3⟩:=aaF hb;obtain⟨uv,Lc,ek,U9,r1,r3⟩:=N.F.BS a news c hc;rw [p3] at r1;cases r1;obtain⟨l2,OL,g1,g2,g3,g4,g5⟩:=um hn;subst g2;refine fin (some n1) c (len+k) _ (fun n h=>by cases h;exact⟨_,p2⟩) (acZ hG) r3 h.1.symm h.2.symm fun ρ w hO ty=>?_;have A1:=((N.F.kZ a _ _ _ p3).2 _ _ _).1 (hO.q n1 _ p2);rw [<- k1] at L1;have hdn:aF Nm.id news=aF ρ news:=by unfold aF;exact adb fun y hy=>cg y (fun m hm=>by rw [uv y hy] at hm;cases hm)
      have A2:ng ⟨(ρ.L n2).b,(ρ.L n2).o+o2 * si.size,if k=0 then 1 else(ρ.L n2).c - o2⟩ (if k=0 then fun _=>False else ρ.S n2) (aF ρ news) si.size OL w:=by
       rcases Nat.eq_zero_or_pos k with rfl | hk
       ·refine .inl ⟨by simp,?_,fun b=>by simp⟩;exact afO.1 (by rw [dM,g3];simp)
       ·rw [if_neg (by omega),if_neg (by omega)];have hf:=aa7 hO kM hn;rcases hO.q n2 _ g1 with⟨h0,_⟩ | ⟨hcp,hS,row,hrow,Vf,hll,bG⟩
        ·omega
        ·refine .inr ⟨by show 0 < (ρ.L n2).c - o2;omega,hS,row,hrow,?_,?_,?_⟩
         ·show (ρ.L n2).o+o2 * si.size+((ρ.L n2).c - o2 - 1) * si.size<=row.length;rw [adr,<- aei,show o2+((ρ.L n2).c - o2 - 1)=(ρ.L n2).c - 1 by omega];exact Vf
         ·show (aF ρ news).length<=((ρ.L n2).c - o2 - 1) * si.size;rw [dM,g3];exact ac2 _ (by omega)
         ·intro j y hy;obtain⟨cc,R8,rfl⟩:=Sv ρ news j y hy;have:=bG (o2 * si.size+j) (cc.ay ρ) (by simp [aF,g5 j cc R8]);rw [<- adr] at this;exact this
      have L2:(aF ρ news).length=k * si.size:=by rw [dM,g3]
      rw [<- e1] at A1 L1 L2;have A2':=Hm A2;rw [<- e1] at A2';obtain⟨r,w',g1',lc,S',g2',g3',g4'⟩:=Gq hu hi hz aiG YY A1 L1 A2' L2 (fun y hy=>by
       obtain⟨cc,_,rfl⟩:=ac0.1 hy;exact Ab ρ cc) (by rw [e2];exact k3) ty
      rw [hdn];refine⟨r,w',ρ.S n1,?_,fun k hk=>⟨n1,_,rfl,p2,hk⟩,lc,S',g2',g3',g4'⟩;rw [rz,<- e1];have Y5:k≠0:=by rename_i he;intro hk;subst hk;simp [KI] at he
      have hx2:(Cell.vs n2 o2 k si.size true).ay ρ=cH ⟨(ρ.L n2).b,(ρ.L n2).o+o2 * i.size,if k=0 then 1 else(ρ.L n2).c - o2⟩ 0 k i.size:=by simp only [Cell.ay,cH,if_neg Y5];rw [if_neg (fun h=>Y5 h.1),if_neg (fun h=>Y5 h.1),e1];simp only [Nat.zero_mul,Nat.add_zero];congr 1;omega
      rw [e1] at hx2 ⊢;rw [hx2,<- e1];exact g1'
     ·cases h
    ·cases h
   ·cases h
 ·cases h
def U0:SV->Option Int
 | .v (.c c)=>match oQ c with
   | some (_,n,_)=>some n
   | none=>none
 | _=>none
theorem xi {x:SV} {n:Int} (h:U0 x=some n) (ρ:Nm):∃k,x.ay ρ=.int k n:=by
 unfold U0 at h;split at h
 ·rename_i c;split at h
  ·rename_i k m b hc;cases h;exact⟨k,by simp only [SV.ay,V1.ay];exact fJ ρ hc⟩
  ·cases h
 ·cases h
def ZQ (F:gX AV) (si:SI) (G:Nat) (s:Cell) (lo hi:Int) (H:Hp AV):T (SV×Hp AV) :=
 match Nat.ble G H.length,Ot F si H s with
 | true,some (n,a,len)=>match F.cut a lo.toNat hi.toNat with
   | some c=>.aE (decide (0<=lo /\ lo<=hi /\ hi<=(len:Int) /\ len=F.len a)) (.aD (.v (.c (.vs H.length 0 (hi.toNat - lo.toNat) si.size false)),gM H (some n)++[some (.bN c)]))
   | none=>.fail "slice: arrays"
 | _,_=>.fail "slice: arrays"
def anM:Cell->Int
 | .vs _ _ len _ _=>len
 | _=>0
def XY (F:gX AV) (si:SI) (s:Cell) (H:Hp AV):T (SV×Hp AV) :=
 match Ot F si H s with
 | some (n,a,len)=>.aE (decide (len<=F.len a)) (.aD (.v (.c (.sf n 0 si.size true (aoA 0 si.size) (XZ _ 0 si.size))),H))
 | none=>.fail "slice: arrays"
def WE (F:gX AV) (sl:Tr SI) (G:Nat) (t:TypeId) (lo hi mx:Bool) (args:List SV) (H:Hp AV):T (SV×Hp AV) :=
 match sl.get t with
 | none=>.fail "slice: arrays"
 | some si=>match lo,hi,mx,args with
   | true,false,false,[.v (.c s),l]=>match U0 l with
     | some l=>ZQ F si G s l (anM s) H
     | _=>.fail "slice: arrays"
   | false,true,false,[.v (.c s),h]=>match U0 h with
     | some h=>ZQ F si G s 0 h H
     | none=>.fail "slice: arrays"
   | true,true,false,[.v (.c s),l,h]=>match U0 l,U0 h with
     | some l,some h=>ZQ F si G s l h H
     | _,_=>.fail "slice: arrays"
   | false,true,true,[.v (.c s),h,m]=>match acy h,acy m with
     | some 0,some 0=>XY F si s H
     | _,_=>.fail "slice: arrays"
   | _,_,_,_=>.fail "slice: arrays"
def R1 (F:gX AV) (sl:Tr SI) (H:Hp AV) (t:TypeId):List SV->Bool
 | []=>false
 | .v (.c x)::r=>match sl.get t with
   | some si=>match KV F si H x with
     | some _=>true
     | none=>R1 F sl H t r
   | none=>false
 | _::r=>R1 F sl H t r
def hvG (F:gX AV) (sl:Tr SI) (G:Nat) (o:Op) (args:List SV) (H:Hp AV):T (SV×Hp AV) :=
 match o with
 | .call c=>match c.callee with
   | .builtin .append=>match args,c.argTypes.toList with
     | [.v (.c s),.v (.c x)],[t,t']=>match R1 F sl H t [.v (.c s),.v (.c x)],Nat.beq t t',sl.get t with
       | true,true,some si=>aj6 F si G s x H
       | true,_,_=>.fail "append: arrays"
       | false,_,_=>hvF sl G o args H
     | _,_=>.fail "append: arrays"
   | _=>hvF sl G o args H
 | .slice t _ lo hi mx=>match R1 F sl H t args with
   | true=>WE F sl G t lo.isSome hi.isSome mx.isSome args H
   | false=>hvF sl G o args H
 | _=>hvF sl G o args H
theorem KL {si:SI} (kM:0 < si.size) {H H':Hp AV} {v:SV} {s:Cell} {lo hi:Int} (hC:eX N H) (h:(ZQ N.F si N.G s lo hi H).val=some (v,H')):gf H' v /\ eX N H' /\ ∀(ρ:Nm) (w:World),gF N ρ H w ->
 ∃a len cap,s.ay ρ=.slice a len cap /\ 0<=lo /\ lo<=hi /\ hi<=(len:Int) /\ len<=cap /\ anM s=len /\ ∃ρ',v.ay ρ'=sliced a lo.toNat hi.toNat cap si.size /\ gF N ρ' H' w /\ lj N H.length ρ H w ρ' H' w:=by
 unfold ZQ at h;split at h
 ·rename_i n a len hG hs;split at h
  ·rename_i c atT;obtain⟨hb,h⟩:=aC h;cases h;obtain⟨k0,k1,k2,k3⟩:=aaF hb;obtain⟨kn,vs,rfl,p2,p3⟩:=ue hs;obtain⟨Lc,ty',U9,r1,r2⟩:=N.F.BL a _ _ c atT;rw [p3] at r1;cases r1;have L1:=N.F.tG a _ _ _ p3;rw [<- k3] at L1;obtain⟨l,rfl⟩:=Int.eq_ofNat_of_zero_le k0;obtain⟨m,rfl⟩:=Int.eq_ofNat_of_zero_le (Int.le_trans k0 k1);simp only [Int.toNat_natCast] at *;have k1:l<=m:=by omega
   have k2:m<=len:=by omega
   have hd:∀x,(some n:Option Nat)=some x->∃c,af H x=some c:=fun x h=>by cases h;exact⟨_,p2⟩
   refine⟨m6 hd 0 _ _ _,Z2 hC hd c,fun ρ w hO=>?_⟩;have A1:=((N.F.kZ a _ _ _ p3).2 _ _ _).1 (hO.q n _ p2);have f1:=yW A1 kM L1;have af6:l=m->(vs.take (m * si.size)).drop (l * si.size)=[]:=fun e=>by subst e;apply ade;simp;omega
   have go:∀(lc:m9) (S':Nat->Prop),ng lc S' ((vs.take (m * si.size)).drop (l * si.size)) si.size si.e w->(∀k,S' k->ρ.S n k)->∀b,cH lc 0 (m - l) si.size=b ->
    ∃ρ',SV.ay ρ' (.v (.c (.vs H.length 0 (m - l) si.size false)))=b /\ gF N ρ' (gM H (some n)++[some (.bN c)]) w /\ lj N H.length ρ H w ρ' (gM H (some n)++[some (.bN c)]) w:=by
    intro lc S' hv hS b hb;obtain⟨o1,o2⟩:=v7 (w':=w) (S:=ρ.S n) hO hC (acZ hG) hd r2 (fun k hk=>⟨n,_,rfl,p2,hk⟩) hv ⟨fun _ _ _=>rfl,fun k hk=>.inr (hS k hk),rfl,rfl,rfl,ab4 _⟩;refine⟨_,?_,o1,o2⟩;simp only [SV.ay,V1.ay,Cell.ay,(p6 _ _ _ _).1];exact hb
   by_cases hc:(ρ.L n).c=0
   ·have hl0:len=0:=by omega
    have hm0:m=0:=by omega
    have hz0:l=0:=by omega
    subst hl0 hm0 hz0;refine⟨none,0,0,by rw [rz,vsDen_eq,if_pos ⟨rfl,hc⟩],by omega,by omega,by omega,by omega,rfl,?_⟩;exact go ⟨0,0,0⟩ (fun _=>False) (.inl ⟨acX _,af6 rfl,fun _ h=>h⟩) (fun _ h=>h.elim) _ (by simp [cH,sliced])
   ·refine⟨some ⟨(ρ.L n).b,(ρ.L n).o,none⟩,len,(ρ.L n).c - 1,by rw [rz,vsDen_eq,if_neg (fun h=>hc h.2)],by omega,by omega,by omega,f1,rfl,?_⟩;by_cases adh:(ρ.L n).c - 1=l
    ·have hml:m=l:=by omega
     subst hml;refine go ⟨(ρ.L n).b,(ρ.L n).o,1⟩ (fun _=>False) (.inl ⟨ab4 _,af6 rfl,fun _ h=>h⟩) (fun _ h=>h.elim) _ ?_;simp [cH,sliced,adh]
    ·rcases A1 with⟨h0,h1,_⟩ | ⟨hcp,hS,row,hrow,Vf,hll,bG⟩
     ·omega
     ·refine go ⟨(ρ.L n).b,(ρ.L n).o+l * si.size,(ρ.L n).c - l⟩ (ρ.S n) (.inr ⟨by show 0 < (ρ.L n).c - l;omega,hS,row,hrow,?_,?_,?_⟩) (fun _ h=>h) _ ?_
      ·show (ρ.L n).o+l * si.size+((ρ.L n).c - l - 1) * si.size<=row.length;rw [adr,<- aei,show l+((ρ.L n).c - l - 1)=(ρ.L n).c - 1 by omega];exact Vf
      ·show _<=((ρ.L n).c - l - 1) * si.size;rw [agb,aga];have:m * si.size<=((ρ.L n).c - 1) * si.size:=ac2 _ (by omega);have e:((ρ.L n).c - l - 1) * si.size=((ρ.L n).c - 1) * si.size - l * si.size:=by rw [<- Nat.sub_mul];congr 1;omega
       rw [e];omega
      ·intro j v hv;rw [afG,aeE] at hv;split at hv
       ·have:=bG _ v hv;rw [<- adr] at this;exact this
       ·cases hv
      ·have dE:¬((ρ.L n).c - l=0):=by omega
       simp only [cH,sliced,if_neg adh];rw [if_neg (fun h=>dE h.2)];have ea:(⟨(ρ.L n).b,(ρ.L n).o,none⟩:Addr).add (l * si.size)=⟨(ρ.L n).b,(ρ.L n).o+l * si.size,none⟩:=by unfold Addr.add;by_cases hj:l * si.size=0<;>simp [hj]
       simp only [Option.map_some,ea,Nat.zero_mul,Nat.add_zero,Nat.sub_zero];congr 1;omega
  ·cases h
 ·cases h
theorem XX {si:SI} (kM:0 < si.size) {H H':Hp AV} {v:SV} {s:Cell} (h:(XY N.F si s H).val=some (v,H')):H'=H /\ gf H v /\ ∀(ρ:Nm) (w:World),gF N ρ H w ->
 ∃a len cap,s.ay ρ=.slice a len cap /\ v.ay ρ=sliced a 0 0 0 si.size:=by
 unfold XY at h;split at h
 ·rename_i n a len hs;obtain⟨hb,h⟩:=aC h;have hb:=aaF hb;cases h;obtain⟨kn,vs,rfl,p2,p3⟩:=ue hs;refine⟨rfl,?_,fun ρ w hO=>?_⟩
  ·intro c hc m hm;simp [V1.cells] at hc;subst hc;simp only [Cell.name,aaf] at hm;subst hm;exact⟨_,p2⟩
  ·rw [rz,vsDen_eq];by_cases hc:len=0 /\ (ρ.L n).c=0
   ·rw [if_pos hc];exact⟨_,_,_,rfl,by simp [SV.ay,V1.ay,Cell.ay,cH,SfF.ap,hc.2,sliced]⟩
   ·rw [if_neg hc];by_cases xR:(ρ.L n).c=0
    ·have A1:=((N.F.kZ a _ _ _ p3).2 _ _ _).1 (hO.q n _ p2);have f1:=yW A1 kM (N.F.tG a _ _ _ p3);exact absurd ⟨by omega,xR⟩ hc
    ·exact⟨_,_,_,rfl,by simp [SV.ay,V1.ay,Cell.ay,cH,SfF.ap,xR,sliced]⟩
 ·cases h
theorem YW {sl:Tr SI} (K8:ake P sl) (hhv:N.hv=hvG N.F sl N.G):U8 P N:=by
 intro o args H v H' h bZ hC;rw [hhv] at h
 have dy:(hvF sl N.G o args H).val=some (v,H')->gf H' v /\ eX N H' /\ ∀(ρ:Nm) (w:World),gF N ρ H w ->
  KZ P (.op o) (args.map (SV.ay ρ)) w fun e w'=>∃ρ',e=v.ay ρ' /\ gF N ρ' H' w' /\ lj N H.length ρ H w ρ' H' w':=by
  intro h;obtain⟨a1,a2,a3⟩:=aiI (P:=P) (N:={N with hv:=hvF sl N.G}) K8 rfl o args H v H' h bZ ⟨fun n x hh=>hC.1 n x hh,trivial⟩;refine⟨a1,⟨fun n x hh=>a2.1 n x hh,trivial⟩,fun ρ w hO=>(a3 ρ w (oc (N:=N) (N':={N with hv:=hvF sl N.G}) rfl rfl hO)).mono ?_⟩;rintro e w' ⟨ρ',h1,h2,h3⟩;exact⟨ρ',h1,oc (N:={N with hv:=hvF sl N.G}) (N':=N) rfl rfl h2,zW N h3⟩
 unfold hvG at h;split at h
 ·rename_i c;split at h
  ·rename_i cR;split at h
   ·rename_i s x t t' hty;split at h
    ·rename_i si _ htt hs;have htt:=(aG _ _).1 htt;subst htt;obtain⟨hu,i,z,hi,hz,e1,e2,kM,GP,Ve,Oy⟩:=pT (K8 t si hs);have hzs:z.cells.size=si.size:=by have:=congrArg List.length (Ve Nm.id);rw [dM] at this;simp at this;omega
     obtain⟨c1,c2,c3⟩:=aeh hu hi hz e1 e2 kM hzs hC (bZ _ (aaV ..)) h;refine⟨c1,c2,fun ρ w hO=>?_⟩;intro ev o ho hv;obtain⟨r,w',hr,ρ',h1,h2,h3⟩:=c3 ρ w hO o.type;exact⟨r,w',.inl (NS ho cR hty (by rw [hv];simp [SV.ay,V1.ay]) hr),ρ',h1,h2,h3⟩
    ·cases h
    ·exact dy h
   ·cases h
  ·exact dy h
 ·rename_i t x lo hi mx;split at h
  ·unfold WE at h;split at h
   ·cases h
   ·rename_i si hs;obtain⟨hu,i,z,hii,hz,e1,e2,kM,GP,Ve,Oy⟩:=pT (K8 t si hs);split at h
    ·rename_i s l q1 q2 q3 _;split at h
     ·rename_i ln hl1;obtain⟨k1,k0,k2⟩:=KL kM hC h;refine⟨k1,k0,fun ρ w hO=>?_⟩;intro ev o ho hv;obtain⟨a,len,cap,d1,d2,d3,d4,d5,d6,ρ',d7,d8,d9⟩:=k2 ρ w hO;obtain⟨kk,hk⟩:=xi hl1 ρ;cases lo with
      | none=>cases q1
      | some lo =>
      cases hi with
      | some _=>cases q2
      | none =>
      cases mx with
      | some _=>cases q3
      | none =>
      simp [Op.operands,SV.ay,V1.ay,d1] at hv;obtain⟨v1,v2⟩:=hv;refine⟨v.ay ρ',w,.inl ?_,ρ',rfl,d8,d9⟩;rw [d7,<- e1,d6];refine qn ho hu hii v1 ?_;have v2:ev lo=.int kk ln:=by rw [v2];exact hk
      have hle:ln<=(len:Int):=by omega
      simp [Instr.sliceBounds,v2,run_sliceBound,d2,hle]
     ·cases h
    ·rename_i s h' q1 q2 q3 _;split at h
     ·rename_i hn hl1;obtain⟨k1,k0,k2⟩:=KL kM hC h;refine⟨k1,k0,fun ρ w hO=>?_⟩;intro ev o ho hv;obtain⟨a,len,cap,d1,d2,d3,d4,d5,d6,ρ',d7,d8,d9⟩:=k2 ρ w hO;obtain⟨kk,hk⟩:=xi hl1 ρ;cases lo with
      | some _=>cases q1
      | none =>
      cases hi with
      | none=>cases q2
      | some hi =>
      cases mx with
      | some _=>cases q3
      | none =>
      simp [Op.operands,SV.ay,V1.ay,d1] at hv;obtain⟨v1,v2⟩:=hv;refine⟨v.ay ρ',w,.inl ?_,ρ',rfl,d8,d9⟩;rw [d7,<- e1];refine qn ho hu hii v1 ?_;have v2:ev hi=.int kk hn:=by rw [v2];exact hk
      have hle:hn<=(cap:Int):=by omega
      simp [Instr.sliceBounds,v2,run_sliceBound,d3,hle]
     ·cases h
    ·rename_i s l h' q1 q2 q3 _;split at h
     ·rename_i ln hn hl1 hl2;obtain⟨k1,k0,k2⟩:=KL kM hC h;refine⟨k1,k0,fun ρ w hO=>?_⟩;intro ev o ho hv;obtain⟨a,len,cap,d1,d2,d3,d4,d5,d6,ρ',d7,d8,d9⟩:=k2 ρ w hO;obtain⟨kk,hk⟩:=xi hl1 ρ;obtain⟨kh,hkh⟩:=xi hl2 ρ;cases lo with
      | none=>cases q1
      | some lo =>
      cases hi with
      | none=>cases q2
      | some hi =>
      cases mx with
      | some _=>cases q3
      | none =>
      simp [Op.operands,SV.ay,V1.ay,d1] at hv;obtain⟨v1,v2,v3⟩:=hv;refine⟨v.ay ρ',w,.inl ?_,ρ',rfl,d8,d9⟩;rw [d7,<- e1];refine qn ho hu hii v1 ?_;have v2:ev lo=.int kk ln:=by rw [v2];exact hk
      have v3:ev hi=.int kh hn:=by rw [v3];exact hkh
      have hle:hn<=(cap:Int):=by omega
      have h0:0<=hn:=by omega
      have hle2:ln<=((hn.toNat:Nat):Int):=by rw [Int.toNat_of_nonneg h0];exact d3
      have hb:=run_sliceBound (P:=P) w kk ln hn.toNat .sliceB d2 hle2;simp [Instr.sliceBounds,v2,v3,run_sliceBound,hle,h0,hb,Result.andThen]
     ·cases h
    ·rename_i s h' m' q1 q2 q3 _;split at h
     ·rename_i hl1 hl2;obtain⟨rfl,k1,k2⟩:=XX kM h;refine⟨k1,hC,fun ρ w hO=>?_⟩;intro ev o ho hv;obtain⟨a,len,cap,d1,d6⟩:=k2 ρ w hO;obtain⟨kk,hk⟩:=Il hl1 ρ;obtain⟨kh,hkh⟩:=Il hl2 ρ;cases lo with
      | some _=>cases q1
      | none =>
      cases hi with
      | none=>cases q2
      | some hi =>
      cases mx with
      | none=>cases q3
      | some mx =>
      simp [Op.operands,SV.ay,V1.ay,d1] at hv;obtain⟨v1,v2,v3⟩:=hv;refine⟨v.ay ρ,w,.inl ?_,ρ,rfl,hO,lj.refl _ _ _ _⟩;rw [d6,<- e1];refine qn ho hu hii v1 ?_;have v2:ev hi=.int kk 0:=by rw [v2];exact hk
      have v3:ev mx=.int kh 0:=by rw [v3];exact hkh
      simp [Instr.sliceBounds,v2,v3,run_sliceBound]
     ·cases h
    ·cases h
  ·exact dy h
 ·exact dy h
end
section
variable {AV:Type} {P:Program} {N:eI AV}
def Cell.cV (π:Nat->Nat):Cell->Cell
 | .ptr n o=>.ptr (π n) o
 | .DN n i e o=>.DN (π n) i e o
 | .sl n o len cap=>.sl (π n) o len cap
 | .vs n o len es kn=>.vs (π n) o len es kn
 | .sf n o es z f h=>.sf (π n) o es z f h
 | .xP t c=>.xP t (c.cV π)
 | .mp r=>.mp (r.map π)
 | c=>c
def aK.cV (π:Nat->Nat):aK AV->aK AV
 | .cells l ty=>.cells (l.map (Cell.cV π)) ty
 | .oB l es ty=>.oB (l.map (Cell.cV π)) es ty
 | .kN=>.kN
 | .bN a=>.bN a
def V1.cV (π:Nat->Nat):V1->V1
 | .c x=>.c (x.cV π)
 | .agg l=>.agg (l.map (Cell.cV π))
def SV.cV (π:Nat->Nat):SV->SV
 | .v x=>.v (x.cV π)
 | .iW l=>.iW (l.map (V1.cV π))
 | .lU=>.lU
 | .xz f l=>.xz f (l.map (Cell.cV π))
def Nm.cV (ρ:Nm) (π:Nat->Nat):Nm:=⟨fun n=>ρ.L (π n),fun n=>ρ.S (π n)⟩
theorem lZ (ρ:Nm) (π:Nat->Nat):∀c:Cell,(c.cV π).ay ρ=c.ay (ρ.cV π)
 | .ptr _ _=>rfl
 | .DN _ _ _ _=>rfl
 | .sl _ _ _ _=>rfl
 | .vs _ _ _ _ _=>rfl
 | .sf _ _ _ _ _ _=>rfl
 | .xP t c=>by simp only [Cell.cV,Cell.ay];rw [lZ ρ π c]
 | .bl _=>rfl
 | .bt _=>rfl
 | .il _ _=>rfl
 | .it _ _=>rfl
 | .iv _ _ _ _=>rfl
 | .ir _ _ _ _ _=>rfl
 | .st _=>rfl
 | .sv _=>rfl
 | .jj=>rfl
 | .dP=>rfl
 | .sx _ _=>rfl
 | .fL=>rfl
 | .fn _=>rfl
 | .nfn=>rfl
 | .op _ _=>rfl
 | .mp none=>rfl
 | .mp (some _)=>rfl
theorem zx (π:Nat->Nat):∀c:Cell,(c.cV π).name=c.name.map π
 | .ptr _ _=>rfl
 | .DN _ _ _ _=>rfl
 | .sl _ _ _ _=>rfl
 | .vs _ _ _ _ _=>rfl
 | .sf _ _ _ _ _ _=>rfl
 | .xP t c=>by simp only [Cell.cV,Cell.name];rw [zx π c]
 | .bl _=>rfl
 | .bt _=>rfl
 | .il _ _=>rfl
 | .it _ _=>rfl
 | .iv _ _ _ _=>rfl
 | .ir _ _ _ _ _=>rfl
 | .st _=>rfl
 | .sv _=>rfl
 | .jj=>rfl
 | .dP=>rfl
 | .sx _ _=>rfl
 | .fL=>rfl
 | .fn _=>rfl
 | .nfn=>rfl
 | .op _ _=>rfl
 | .mp none=>rfl
 | .mp (some _)=>rfl
theorem vQ (ρ:Nm) (π:Nat->Nat) (l:List Cell):aF ρ (l.map (Cell.cV π))=aF (ρ.cV π) l:=by simp only [aF,List.map_map];exact adb fun c _=>lZ ρ π c
theorem V1.lZ (ρ:Nm) (π:Nat->Nat) (x:V1):(x.cV π).ay ρ=x.ay (ρ.cV π):=by
 cases x with
 | c x=>exact Sx.lZ ρ π x
 | agg l=>simp only [V1.cV,V1.ay,vQ]
theorem SV.lZ (ρ:Nm) (π:Nat->Nat) (x:SV):(x.cV π).ay ρ=x.ay (ρ.cV π):=by
 cases x with
 | v x=>exact V1.lZ ρ π x
 | iW l =>simp only [SV.cV,SV.ay,List.map_map];congr 2;exact adb fun y _=>V1.lZ ρ π y
 | lU=>rfl
 | xz f l=>simp only [SV.cV,SV.ay,vQ]
theorem Mg {ρ:Nm} {π:Nat->Nat} {n:Nat} {c:aK AV} {w:World}:(c.cV π).q N ρ (π n) w↔c.q N (ρ.cV π) n w:=by
 cases c with
 | cells l ty=>simp only [aK.cV,aK.q,vQ];rfl
 | oB l es ty=>simp only [aK.cV,aK.q,vQ];rfl
 | kN=>rfl
 | bN a=>rfl
theorem ph {ρ:Nm} {π:Nat->Nat} {n:Nat} {c:aK AV}:(c.cV π).fp ρ (π n)=c.fp (ρ.cV π) n:=by cases c<;>rfl
theorem Cy (π:Nat->Nat) (c:aK AV):(c.cV π).cellsOf=c.cellsOf.map (Cell.cV π):=by cases c<;>rfl
def fpH (ρ:Nm) (K:Hp AV) (k:Nat):Prop:=∃i c,af K i=some c /\ c.fp ρ i k
structure aaG (N:eI AV) (ρ:Nm) (H:Hp AV) (w:World):Prop where
 q:∀n c,af H n=some c->c.q N ρ n w
 qR:∀n m c d,n≠m->af H n=some c->af H m=some d->∀k,c.fp ρ n k->d.fp ρ m k->False
theorem gF.toL {ρ:Nm} {H:Hp AV} {w:World} (h:gF N ρ H w):aaG N ρ H w:=⟨h.q,h.qR⟩
theorem aaG.sub {ρ:Nm} {H:Hp AV} {w:World} (h:aaG N ρ H w) {K:Hp AV} {π:Nat->Nat} (hK:∀i c,af K i=some c->af H (π i)=some (c.cV π)) (inj:∀i j c d,af K i=some c->af K j=some d->π i=π j->i=j):aaG N (ρ.cV π) K w:=by refine⟨fun i c hc=>Mg.1 (h.q _ _ (hK i c hc)),fun i j c d hij hc hd k hk eh=>?_⟩;rw [<- ph] at hk eh;exact h.qR (π i) (π j) _ _ (fun e=>hij (inj i j c d hc hd e)) (hK i c hc) (hK j d hd) k hk eh
def oK (N:eI AV) (K:Hp AV) (l:m9) (S:Nat->Prop) (w:World):Prop:=∃ρ:Nm,ρ.L 0=l /\ aaG N ρ K w /\ ∀k,S k↔fpH ρ K k
def rT (P:Program) (N:eI AV) (f:FuncId) (args:List SV) (H:Hp AV) (v:SV) (H':Hp AV):Prop :=
 gf H' v /\ eX N H' /\ ∀(ρ:Nm) (w:World),gF N ρ H w ->
  Calls P f (args.map (SV.ay ρ)).toArray w fun e w'=>∃ρ',e=.returned (v.ay ρ') /\ gF N ρ' H' w' /\ lj N H.length ρ H w ρ' H' w'
theorem cE.ctr {f:FuncId} {g:List SV->Hp AV->T (SV×Hp AV)} (h:cE P N f g) {args:List SV} {H:Hp AV} {v:SV} {H':Hp AV} (hr:(g args H).val=some (v,H')) (ha:∀x∈args,gf H x) (hC:eX N H):rT P N f args H v H' :=
 h args H v H' hr ha hC
theorem cE.of {f:FuncId} {g:List SV->Hp AV->T (SV×Hp AV)} (h:∀args H v H',(g args H).val=some (v,H')->(∀x∈args,gf H x)->eX N H->rT P N f args H v H'):cE P N f g:=h
section ab9
def Mo (n L i:Nat):Nat:=match i with
 | 0=>n
 | i+1=>L+i
def TE (π:Nat->Nat):Option (aK AV)->Option (aK AV)
 | some c=>some (c.cV π)
 | none=>none
def p9 (H:Hp AV) (n:Nat):Hp AV->Hp AV
 | []=>H
 | k::r=>de H n (TE (Mo n H.length) k)++r.map (TE (Mo n H.length))
theorem Nr (π:Nat->Nat):∀(r:Hp AV) (i:Nat),af (r.map (TE π)) i=TE π (af r i)
 | [],i=>by cases i<;>rfl
 | x::r,0=>rfl
 | x::r,i+1=>Nr π r i
theorem bA:∀(A B:Hp AV) (i:Nat),af (A++B) i=if i < A.length then af A i else af B (i - A.length)
 | [],B,i=>by simp
 | x::r,B,0=>by simp [af]
 | x::r,B,i+1=>by simp only [acY,af,bA r B i,aaQ,Nat.add_lt_add_iff_right,Nat.add_sub_add_right]
theorem T5 (H:Hp AV) {n:Nat} (h:n < H.length) (x:Option (aK AV)):af (de H n x) n=x:=by
 cases x with
 | some c=>exact cG c h
 | none=>simp [hget_eq,lset_eq,h]
theorem Bt {H K:Hp AV} {n:Nat} (hn:n < H.length) (hK:K≠[]) (m:Nat):af (p9 H n K) m=if m=n then TE (Mo n H.length) (af K 0) else if m < H.length then af H m else TE (Mo n H.length) (af K (m - H.length+1)):=by
 cases K with
 | nil=>exact absurd rfl hK
 | cons k r =>
   simp only [p9];rw [bA,eB];by_cases h1:m=n
   ·subst h1;rw [if_pos hn,if_pos rfl,T5 H hn];rfl
   ·rw [if_neg h1];by_cases h2:m < H.length
    ·rw [if_pos h2,if_pos h2,bz _ (Ne.symm h1)]
    ·rw [if_neg h2,if_neg h2,Nr];rfl
theorem Mp {H K:Hp AV} {n:Nat} (hlt:n < H.length) (hKn:K≠[]):∀m c,af (p9 H n K) m=some c->(m≠n /\ m < H.length /\ af H m=some c) \/ ∃i d,m=Mo n H.length i /\ af K i=some d /\ c=d.cV (Mo n H.length):=fun m c h=>by
 rw [Bt hlt hKn] at h;by_cases h1:m=n
 ·rw [if_pos h1] at h;cases hk:af K 0 with
  | none=>rw [hk] at h;cases h
  | some d=>rw [hk] at h;cases h;exact .inr ⟨0,d,h1,hk,rfl⟩
 ·rw [if_neg h1] at h;by_cases h2:m < H.length
  ·rw [if_pos h2] at h;exact .inl ⟨h1,h2,h⟩
  ·rw [if_neg h2] at h;cases hk:af K (m - H.length+1) with
   | none=>rw [hk] at h;cases h
   | some d=>rw [hk] at h;cases h;exact .inr ⟨m - H.length+1,d,by show m=H.length+(m - H.length);omega,hk,rfl⟩
theorem XD {ρ:Nm} {H K:Hp AV} {w:World} (hO:gF N ρ H w) (hC:eX N H) {n:Nat} {a:AV} (hn:af H n=some (.bN a)) (R9:∃c,af K 0=some c) (hGn:N.G<=n) (hq:∀l S w,N.F.q a l S w->oK N K l S w) :
 ∃ρ',gF N ρ' (p9 H n K) w /\ (∀m,m < H.length->ρ'.L m=ρ.L m) /\ (∀m,m < H.length->m≠n->ρ'.S m=ρ.S m) /\ ∀k,ρ.S n k↔∃i d,af K i=some d /\ (d.cV (Mo n H.length)).fp ρ' (Mo n H.length i) k:=by
 have hlt:=b7 hn;have hKn:K≠[]:=by rintro rfl;obtain⟨c,hc⟩:=R9;cases hc
 obtain⟨ρ0,h0,hL,hS⟩:=hq _ _ _ (hO.q n _ hn);let ρ':Nm:=⟨fun m=>if m < H.length then ρ.L m else ρ0.L (m - H.length+1),fun m=>if m=n then ρ0.S 0 else if m < H.length then ρ.S m else ρ0.S (m - H.length+1)⟩;have eL:∀m,m < H.length->ρ'.L m=ρ.L m:=fun m hm=>if_pos hm;have eS:∀m,m < H.length->m≠n->ρ'.S m=ρ.S m:=fun m hm dE=>by show (if m=n then _ else _)=_;rw [if_neg dE,if_pos hm]
 have er:ρ'.cV (Mo n H.length)=ρ0:=by
  have e1:∀i,ρ'.L (Mo n H.length i)=ρ0.L i:=fun i=>by
   cases i with
   | zero=>rw [show Mo n H.length 0=n from rfl,eL n hlt,h0]
   | succ i =>show (if H.length+i < H.length then _ else ρ0.L (H.length+i - H.length+1))=_;rw [if_neg (by omega),adK]
  have e2:∀i,ρ'.S (Mo n H.length i)=ρ0.S i:=fun i=>by
   cases i with
   | zero=>exact if_pos rfl
   | succ i =>show (if H.length+i=n then _ else if H.length+i < H.length then _ else ρ0.S (H.length+i - H.length+1))=_;rw [if_neg (by omega),if_neg (by omega),adK]
  unfold Nm.cV;rw [show (fun i=>ρ'.L (Mo n H.length i))=ρ0.L from funext e1,show (fun i=>ρ'.S (Mo n H.length i))=ρ0.S from funext e2]
 have su:=Mp (H:=H) (K:=K) hlt hKn;have Zj:∀i (d:aK AV),(d.cV (Mo n H.length)).fp ρ' (Mo n H.length i)=d.fp ρ0 i:=fun i d=>by rw [ph,er]
 have fpm:∀m (c:aK AV),m < H.length->m≠n->c.fp ρ' m=c.fp ρ m:=fun m c hm dE=>cY (eL m hm) (eS m hm dE);have sub:∀m c k,af (p9 H n K) m=some c->c.fp ρ' m k->∃m' d,af H m'=some d /\ d.fp ρ m' k:=fun m c k hc hk=>by
  rcases su m c hc with⟨h1,h2,h3⟩ | ⟨i,d,rfl,h3,rfl⟩
  ·rw [fpm m c h2 h1] at hk;exact⟨m,c,h3,hk⟩
  ·rw [Zj] at hk;exact⟨n,_,hn,(hS k).2 ⟨i,d,h3,hk⟩⟩
 refine⟨ρ',hO.sub ⟨fun m c hc=>?_,fun m m' c d dE hc hd k hk eh=>?_,fun g hg=>?_⟩ sub,eL,eS,fun k=>?_⟩
 ·rcases su m c hc with⟨h1,h2,h3⟩ | ⟨i,d,rfl,h3,rfl⟩
  ·exact o7 (hO.q m c h3) (eL m h2) (eS m h2 h1) (eV (hC.1 m c h3) fun x y hy=>eL x (b7 hy)) (fun _ _=>rfl)
  ·rw [Mg,er];exact hL.q i d h3
 ·rcases su m c hc with⟨h1,h2,h3⟩ | ⟨i,d',rfl,h3,rfl⟩
  ·rcases su m' d hd with⟨g1,g2,g3⟩ | ⟨j,e',rfl,g3,rfl⟩
   ·rw [fpm m c h2 h1] at hk;rw [fpm m' d g2 g1] at eh;exact hO.qR m m' c d dE h3 g3 k hk eh
   ·rw [fpm m c h2 h1] at hk;rw [Zj] at eh;exact hO.qR m n c _ h1 h3 hn k hk ((hS k).2 ⟨j,e',g3,eh⟩)
  ·rcases su m' d hd with⟨g1,g2,g3⟩ | ⟨j,e',rfl,g3,rfl⟩
   ·rw [fpm m' d g2 g1] at eh;rw [Zj] at hk;exact hO.qR m' n d _ g1 g3 hn k eh ((hS k).2 ⟨i,d',h3,hk⟩)
   ·rw [Zj] at hk eh;exact hL.qR i j d' e' (fun e=>dE (by rw [e])) h3 g3 k hk eh
 ·have:ρ' g=ρ g:=by simp only [Nm.f,eL g (by omega)]
  rw [this];exact hO.rU g hg
 ·rw [hS k];constructor
  ·rintro ⟨i,d,h1,h2⟩;exact⟨i,d,h1,by rw [Zj];exact h2⟩
  ·rintro ⟨i,d,h1,h2⟩;exact⟨i,d,h1,by rw [Zj] at h2;exact h2⟩
end ab9
theorem oy.cV {H B:Hp AV} {π:Nat->Nat} (h:∀i c,af H i=some c->∃d,af B (π i)=some d) {l:List Cell} (hl:oy H l):oy B (l.map (Cell.cV π)):=by intro c hc n hn;obtain⟨d,hd,rfl⟩:=ac0.1 hc;rw [zx] at hn;obtain⟨m,hm,rfl⟩:=aaT.1 hn;obtain⟨x,hx⟩:=hl d hd m hm;exact h m x hx
theorem gf.cV {H B:Hp AV} {π:Nat->Nat} (h:∀i c,af H i=some c->∃d,af B (π i)=some d) {v:SV} (hl:gf H v):gf B (v.cV π):=by
 have one:∀x:V1,jY H x->jY B (x.cV π):=fun x hx=>by
  cases x with
  | c x =>have:=oy.cV h (l:=[x]) hx;simpa [jY,V1.cells,V1.cV] using this
  | agg l=>exact oy.cV h hx
 cases v with
 | v x=>exact one x hl
 | iW l =>intro x hx;obtain⟨y,hy,rfl⟩:=ac0.1 hx;exact one y (hl y hy)
 | lU=>trivial
 | xz f l=>exact oy.cV h (l:=l) hl
open Classical in
theorem I7 {f:FuncId} {args:List SV} {H:Hp AV} {v:SV} {H':Hp AV} (hc:rT P N f args H v H') {B B':Hp AV} {π:Nat->Nat} (hπ:∀i c,af H i=some c->af B (π i)=some (c.cV π))
 (inj:∀i j c d,af H' i=some c->af H' j=some d->π i=π j->i=j) (uu:∀i c,af H i=some c->∃d,af H' i=some d) (hg:∀g,g < N.G->π g=g) (hCB:eX N B)
 (yw:∀i c,af H' i=some c->af H i=none->B.length<=π i) (hGB:N.G<=B.length)
 (hB:∀m c,af B' m=some c->(∃i d,m=π i /\ af H' i=some d /\ c=d.cV π) \/ (af B m=some c /\ ∀i d,af H' i=some d->π i≠m))
 (hB2:∀i d,af H' i=some d->af B' (π i)=some (d.cV π)) (dC:∀m c,af B m=some c->∃c',af B' m=some c') (H6:∀m,m < B.length->af B m=none->af B' m=none) (len:B.length<=B'.length) :
 rT P N f (args.map (SV.cV π)) B (v.cV π) B':=by
 obtain⟨hv,hC',Nv⟩:=hc;have up:∀i c,af H' i=some c->∃d,af B' (π i)=some d:=fun i c h=>⟨_,hB2 i c h⟩;have auf:eX N B':=by
  refine⟨fun m c h=>?_,trivial⟩;rcases hB m c h with⟨i,d,rfl,h1,rfl⟩ | ⟨h1,_⟩
  ·rw [Cy];exact oy.cV up (hC'.1 i d h1)
  ·exact(hCB.1 m c h1).mono dC
 refine⟨hv.cV up,auf,fun ρ w hO=>?_⟩;have asY:∀i j c d,af H i=some c->af H j=some d->π i=π j->i=j:=fun i j c d h1 h2 e=>by obtain⟨c',oU⟩:=uu i c h1;obtain⟨d',Bw⟩:=uu j d h2;exact inj i j c' d' oU Bw e
 have hOc:gF N (ρ.cV π) H w:=by have:=hO.toL.sub hπ asY;refine⟨⟨this.q,this.qR,fun g hgG=>?_⟩,hO.ro.1,fun i c k h hk=>hO.ro.2 (π i) _ k (hπ i c h) (by rw [ph];exact hk)⟩;show (ρ.L (π g)).b=g;rw [hg g hgG];exact hO.rU g hgG
 have PV:(args.map (SV.cV π)).map (SV.ay ρ)=args.map (SV.ay (ρ.cV π)):=by rw [List.map_map];exact adb fun x _=>SV.lZ ρ π x
 rw [PV];refine(Nv _ w hOc).mono ?_;rintro e w' ⟨ρ',rfl,Ny,hE⟩;let ρ2:Nm:=⟨fun m=>if h:∃i d,m=π i /\ af H' i=some d then ρ'.L h.choose else ρ.L m,fun m=>if h:∃i d,m=π i /\ af H' i=some d then ρ'.S h.choose else ρ.S m⟩;have im:∀i d,af H' i=some d->ρ2.L (π i)=ρ'.L i /\ ρ2.S (π i)=ρ'.S i:=fun i d hd=>by
  have hex:∃j e,π i=π j /\ af H' j=some e:=⟨i,d,rfl,hd⟩;have hch:hex.choose=i:=by obtain⟨e,h1,h2⟩:=hex.choose_spec;exact(inj i _ d e hd h2 h1).symm
  constructor
  ·show (if h:∃j e,π i=π j /\ af H' j=some e then _ else _)=_;rw [dif_pos hex,hch]
  ·show (if h:∃j e,π i=π j /\ af H' j=some e then _ else _)=_;rw [dif_pos hex,hch]
 have out:∀m,(∀i d,af H' i=some d->π i≠m)->ρ2.L m=ρ.L m /\ ρ2.S m=ρ.S m:=fun m hm=>by
  have hex:¬∃j e,m=π j /\ af H' j=some e:=by rintro ⟨j,e,h1,h2⟩;exact hm j e h2 h1.symm
  exact⟨dif_neg hex,dif_neg hex⟩
 have dy:∀m c,af B m=some c->ρ2.L m=ρ.L m:=fun m c h=>by
  by_cases hex:∃i d,m=π i /\ af H' i=some d
  ·obtain⟨i,d,rfl,hd⟩:=hex;rw [(im i d hd).1];cases hh:af H i with
   | none=>have:=yw i d hd hh;have:=b7 h;omega
   | some x=>exact hE.kF i x hh
  ·exact(out m fun i d hd e=>hex ⟨i,d,e.symm,hd⟩).1
 have fpi:∀i d,af H' i=some d->(d.cV π).fp ρ2 (π i)=d.fp ρ' i:=fun i d hd=>by rw [ph];exact cY (im i d hd).1 (im i d hd).2
 have Zj:∀m (c:aK AV),(∀i d,af H' i=some d->π i≠m)->c.fp ρ2 m=c.fp ρ m:=fun m c hm=>cY (out m hm).1 (out m hm).2;have small:∀i d k,af H' i=some d->d.fp ρ' i k->w.heap.size<=k \/ ∃j e,af H j=some e /\ (e.cV π).fp ρ (π j) k:=fun i d k hd hk=>by
  rcases hE.new i d k hd hk with h1 | ⟨j,e,h1,h2⟩
  ·exact .inl h1
  ·exact .inr ⟨j,e,h1,by rw [ph];exact h2⟩
 have apart:∀m c i d k,af B m=some c->(∀i d,af H' i=some d->π i≠m)->af H' i=some d->c.fp ρ m k->d.fp ρ' i k->False:=fun m c i d k hc hm hd hk eh=>by
  rcases small i d k hd eh with h1 | ⟨j,e,h1,h2⟩
  ·have:=hO.lt hc hk;omega
  ·obtain⟨e',he'⟩:=uu j e h1;exact hO.qR m (π j) c _ (fun e=>hm j e' he' e.symm) hc (hπ j e h1) k hk h2
 refine⟨ρ2,?_,hO.up2 ⟨⟨fun m c h=>?_,fun m m' c d dE h h' k hk eh=>?_,fun g hgG=>?_⟩,⟨dC,dy,H6,len,fun k hk vD=>?_,fun m c k h hk=>?_,hE.os,hE.tape,hE.output,hE.size⟩⟩⟩
 ·congr 1;rw [SV.lZ];exact(SV.cg hv fun i c h=>(im i c h).1).symm
 ·rcases hB m c h with⟨i,d,rfl,h1,rfl⟩ | ⟨h1,h2⟩
  ·rw [Mg];exact o7 (Ny.q i d h1) (im i d h1).1 (im i d h1).2 (eV (hC'.1 i d h1) fun j x hx=>(im j x hx).1) (fun _ _=>rfl)
  ·refine o7 (hO.q m c h1) (out m h2).1 (out m h2).2 (eV (hCB.1 m c h1) dy) fun k hk=>?_;refine hE.mW k (hO.lt h1 hk) fun i d hd eh=>?_;obtain⟨d',Bw⟩:=uu i d hd;rw [<- ph] at eh;exact hO.qR m (π i) c _ (fun e=>h2 i d' Bw e.symm) h1 (hπ i d hd) k hk eh
 ·rcases hB m c h with⟨i,x,rfl,h1,rfl⟩ | ⟨h1,h2⟩
  ·rw [fpi i x h1] at hk;rcases hB m' d h' with⟨j,y,rfl,g1,rfl⟩ | ⟨g1,g2⟩
   ·rw [fpi j y g1] at eh;exact Ny.qR i j x y (fun e=>dE (by rw [e])) h1 g1 k hk eh
   ·rw [Zj m' d g2] at eh;exact apart m' d i x k g1 g2 h1 eh hk
  ·rw [Zj m c h2] at hk;rcases hB m' d h' with⟨j,y,rfl,g1,rfl⟩ | ⟨g1,g2⟩
   ·rw [fpi j y g1] at eh;exact apart m c j y k h1 h2 g1 hk eh
   ·rw [Zj m' d g2] at eh;exact hO.qR m m' c d dE h1 g1 k hk eh
 ·by_cases hex:∃d,af H' g=some d
  ·obtain⟨d,hd⟩:=hex;have:=(im g d hd).1;rw [hg g hgG] at this;show (ρ2.L g).b=g;rw [this];exact Ny.rU g hgG
  ·show (ρ2.L g).b=g;by_cases hi:∃i d,af H' i=some d /\ π i=g
   ·obtain⟨i,d,hd,e⟩:=hi;have h3:=(im i d hd).1;rw [e] at h3;cases hh:af H i with
    | none =>have h1:=yw i d hd hh;omega
    | some x =>rw [h3,hE.kF i x hh];show (ρ.L (π i)).b=g;rw [e];exact hO.rU g hgG
   ·rw [(out g fun i d hd e=>hi ⟨i,d,hd,e⟩).1];exact hO.rU g hgG
 ·refine hE.mW k hk fun i d hd eh=>?_;rw [<- ph] at eh;exact vD (π i) _ (hπ i d hd) eh
 ·rcases hB m c h with⟨i,d,rfl,h1,rfl⟩ | ⟨h1,h2⟩
  ·rw [fpi i d h1] at hk;rcases small i d k h1 hk with h2 | ⟨j,e,h2,h3⟩
   ·exact .inl h2
   ·exact .inr ⟨π j,_,hπ j e h2,h3⟩
  ·rw [Zj m c h2] at hk;exact .inr ⟨m,c,h1,hk⟩
