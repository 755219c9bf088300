import Derived.Test.YtadmfaohjnjajaaGreatDoorSxAr
set_option linter.unusedVariables false
set_option linter.unusedSimpArgs false
set_option maxHeartbeats 4000000
namespace Go.Sx
section
variable {AV:Type} {P:Program} {N:Env AV}
def Fl (N:Env AV) (H R:Hp AV):Prop:=∀(ρ:Nm) (w:World),Own N ρ H w->∃ρ1,Own N ρ1 R w /\ (∀m,ρ1.L m=ρ.L m) /\ ∀m d k,ab R m=some d->d.fp ρ1 m k->∃m' d',ab H m'=some d' /\ d'.fp ρ m' k
theorem Fl.refl (H:Hp AV):Fl N H H:=fun ρ _ h=>⟨ρ,h,fun _=>rfl,fun m d k h h'=>⟨m,d,h,h'⟩⟩
theorem Fl.trans {A B C:Hp AV} (h1:Fl N A B) (h2:Fl N B C):Fl N A C:=fun ρ w h=>by
 obtain⟨ρ1,o1,l1,f1⟩:=h1 ρ w h
 obtain⟨ρ2,o2,l2,f2⟩:=h2 ρ1 w o1
 refine⟨ρ2,o2,fun m=>(l2 m).trans (l1 m),fun m d k hd hk=>?_⟩
 obtain⟨m',d',hd',hk'⟩:=f2 m d k hd hk
 exact f1 m' d' k hd' hk'
theorem GX {H:Hp AV} {n:Nat} {ns:List Nat} {a:AV} (hq:∀(ρ:Nm) (w:World),Own N ρ H w->N.F.q a (ρ.L n) (eN ρ H n ns) w):Fl N H (nA n ns a 0 H):=fun ρ w hO=>by
 have hL:∀m,(ρ.set n (ρ.L n) (eN ρ H n ns)).L m=ρ.L m:=fun m=>by by_cases e:m=n<;>simp [Nm.set,e]
 have hSn:(ρ.set n (ρ.L n) (eN ρ H n ns)).S n=eN ρ H n ns:=by simp [Nm.set]
 have hSm:∀m,m≠n->(ρ.set n (ρ.L n) (eN ρ H n ns)).S m=ρ.S m:=fun m e=>by simp [Nm.set,e]
 have hd:∀l,ah (ρ.set n (ρ.L n) (eN ρ H n ns)) l=ah ρ l:=fun l=>by
  unfold ah
  exact List.map_congr_left fun c _=>den_congr c fun m _=>hL m
 have apart:∀m (c:Chunk AV) k,m≠n->m ∉ ns->ab H m=some c->c.fp ρ m k->eN ρ H n ns k->False:=by
  rintro m c k h1 h2 hc hk ⟨m',d,h3,hd,hk'⟩
  refine hO.dis m m' c d (fun e=>?_) hc hd k hk hk'
  subst e
  rcases h3 with h3 | h3
  ·exact h1 h3
  ·exact h2 h3
 have sub:∀m d k,ab (nA n ns a 0 H) m=some d->d.fp (ρ.set n (ρ.L n) (eN ρ H n ns)) m k->∃m' d',ab H m'=some d' /\ d'.fp ρ m' k:=fun m d k h hk=>by
  rcases oC h with⟨rfl,rfl⟩ | ⟨h1,h2,h3⟩
  ·have hk:(ρ.set m (ρ.L m) (eN ρ H m ns)).S m k:=hk
   rw [hSn] at hk
   obtain⟨m',d',_,h3,h4⟩:=hk
   exact⟨m',d',h3,h4⟩
  ·rw [bA (hL m) (hSm m h1)] at hk
   exact⟨m,d,h3,hk⟩
 refine⟨ρ.set n (ρ.L n) (eN ρ H n ns),hO.sub ⟨fun m c h=>?_,fun m m' c d hne h h' k hk hk'=>?_,fun g hg=>?_⟩ sub,hL,sub⟩
 ·rcases oC h with⟨rfl,rfl⟩ | ⟨h1,h2,h3⟩
  ·show N.F.q a _ _ _
   rw [hL,hSn];exact hq ρ w hO
  ·exact jK (hO.q m c h3) (hL m) (hSm m h1) (hd _) (fun _ _=>rfl)
 ·rcases oC h with⟨rfl,rfl⟩ | ⟨h1,h2,h3⟩
  ·have hk:(ρ.set m (ρ.L m) (eN ρ H m ns)).S m k:=hk
   rw [hSn] at hk
   rcases oC h' with⟨rfl,rfl⟩ | ⟨g1,g2,g3⟩
   ·exact hne rfl
   ·rw [bA (hL m') (hSm m' g1)] at hk'
    exact apart m' d k g1 g2 g3 hk' hk
  ·rw [bA (hL m) (hSm m h1)] at hk
   rcases oC h' with⟨rfl,rfl⟩ | ⟨g1,g2,g3⟩
   ·have hk':(ρ.set m' (ρ.L m') (eN ρ H m' ns)).S m' k:=hk'
    rw [hSn] at hk'
    exact apart m c k h1 h2 h3 hk hk'
   ·rw [bA (hL m') (hSm m' g1)] at hk'
    exact hO.dis m m' c d hne h3 g3 k hk hk'
 ·have:(ρ.set n (ρ.L n) (eN ρ H n ns)) g=ρ g:=by simp only [Nm.f,hL g]
  rw [this];exact hO.glb g hg
def pg (view:Hp AV->Nat->T (AV×List Nat)):List Nat->Hp AV->T (Hp AV)
 | [],H=>.leaf H
 | n::r,H=>match ab H n with
   | some (.cells _ _)=>(view H n).bind fun x=>pg view r (nA n x.2 x.1 0 H)
   | _=>pg view r H
def yG (N:Env AV) (view:Hp AV->Nat->T (AV×List Nat)):Prop:=∀(H:Hp AV) (n:Nat) (a:AV) (ns:List Nat),(view H n).val=some (a,ns)->∀(ρ:Nm) (w:World),Own N ρ H w->N.F.q a (ρ.L n) (eN ρ H n ns) w
theorem qA {view:Hp AV->Nat->T (AV×List Nat)} (hv:yG N view):∀{l:List Nat} {H R:Hp AV},(pg view l H).val=some R->Fl N H R
 | [],H,R,h=>by
   simp only [pg,T.val,Option.some.injEq] at h
   subst h
   exact Fl.refl H
 | n::r,H,R,h=>by
   simp only [pg] at h
   split at h
   ·obtain⟨⟨a,ns⟩,h1,h2⟩:=T.bind_some h
    exact(GX (hv H n a ns h1)).trans (qA hv h2)
   ·exact qA hv h
def fE:Hp AV->Option (List AV)
 | []=>some []
 | none::r=>fE r
 | some (.abs a)::r=>match fE r with | some l=>some (a::l) | none=>none
 | some _::_=>none
def u7:Hp AV->Nat->Nat
 | [],_=>0
 | _::_,0=>0
 | none::r,n+1=>u7 r n
 | some _::r,n+1=>u7 r n+1
def oa:Hp AV->Nat->Nat
 | [],_=>0
 | none::r,j=>oa r j+1
 | some _::_,0=>0
 | some _::r,j+1=>oa r j+1
theorem xb:∀{H:Hp AV} {l:List AV},fE H=some l->∀(j:Nat) (a:AV),l[j]?=some a->ab H (oa H j)=some (.abs a)
 | [],l,h,j,a,h'=>by simp only [fE,Option.some.injEq] at h;subst h;simp at h'
 | none::r,l,h,j,a,h'=>xb (H:=r) (by simpa [fE] using h) j a h'
 | some (.cells _ _)::r,l,h,j,a,h'=>by simp [fE] at h
 | some (.vec _ _ _)::r,l,h,j,a,h'=>by simp [fE] at h
 | some .dead::r,l,h,j,a,h'=>by simp [fE] at h
 | some (.abs b)::r,l,h,j,a,h'=>by
   simp only [fE] at h
   split at h
   ·rename_i q hq
    cases h
    cases j with
    | zero=>simp only [List.getElem?_cons_zero,Option.some.injEq] at h';subst h';rfl
    | succ j=>exact xb (H:=r) hq j a (by simpa using h')
   ·cases h
theorem yk:∀(H:Hp AV) (n:Nat) (c:Chunk AV),ab H n=some c->oa H (u7 H n)=n
 | [],n,c,h=>by cases n<;>simp [ab] at h
 | none::r,0,c,h=>by simp [ab] at h
 | some x::r,0,c,h=>rfl
 | none::r,n+1,c,h=>by
   simp only [u7,oa]
   rw [yk r n c h]
 | some x::r,n+1,c,h=>by
   simp only [u7,oa]
   rw [yk r n c h]
theorem Lu {H:Hp AV} {l:List AV} (h:fE H=some l):∀{i j:Nat},i < l.length->j < l.length->oa H i=oa H j->i=j:=by
 induction H generalizing l with
 | nil=>intro i j hi _ _;simp only [fE,Option.some.injEq] at h;subst h;simp at hi
 | cons x r ih =>
   intro i j hi hj e
   cases x with
   | none=>exact ih (l:=l) (by simpa [fE] using h) hi hj (by simpa [oa] using e)
   | some x =>
     cases x with
     | abs b =>
       simp only [fE] at h
       split at h
       ·rename_i q hq
        cases h
        cases i with
        | zero=>cases j with
          | zero=>rfl
          | succ j=>simp [oa] at e
        | succ i=>cases j with
          | zero=>simp [oa] at e
          | succ j=>exact congrArg (·+1) (ih hq (by simpa using hi) (by simpa using hj) (by simpa [oa] using e))
       ·cases h
     | cells _ _=>simp [fE] at h
     | vec _ _ _=>simp [fE] at h
     | dead=>simp [fE] at h
def zp (L:Nat) (rest:Hp AV) (n:Nat):Nat:=match Nat.blt n L with
 | true=>n
 | false=>L+u7 rest (n - L)
def lk (isS:AV->Nat->Bool):Nat->List Bool->Hp AV->Option (Hp AV)
 | _,[],H=>some H
 | i,true::m,some (.abs a)::r=>match isS a i with | true=>lk isS (i+1) m r | false=>none
 | i,false::m,none::r=>lk isS (i+1) m r
 | _,_,_=>none
theorem qg {isS:AV->Nat->Bool} {sn:Nat->AV} (hs:∀a i,isS a i=true->a=sn i):∀{M:List Bool} {i:Nat} {H R:Hp AV},lk isS i M H=some R->H=bB sn i M++R
 | [],i,H,R,h=>by simp only [lk,Option.some.injEq] at h;subst h;rfl
 | true::m,i,some (.abs a)::r,R,h=>by
   simp only [lk] at h
   split at h
   ·rename_i ha
    rw [qg hs h,hs a i ha];rfl
   ·cases h
 | false::m,i,none::r,R,h=>by
   simp only [lk] at h
   rw [qg hs h];rfl
 | true::m,i,[],R,h=>by simp [lk] at h
 | true::m,i,none::r,R,h=>by simp [lk] at h
 | true::m,i,some (.cells _ _)::r,R,h=>by simp [lk] at h
 | true::m,i,some (.vec _ _ _)::r,R,h=>by simp [lk] at h
 | true::m,i,some .dead::r,R,h=>by simp [lk] at h
 | false::m,i,[],R,h=>by simp [lk] at h
 | false::m,i,some _::r,R,h=>by simp [lk] at h
def lN:Nat->Hp AV->Option (List AV×Hp AV)
 | 0,H=>some ([],H)
 | n+1,some (.abs a)::r=>match lN n r with
   | some (l,q)=>some (a::l,q)
   | none=>none
 | _+1,_=>none
theorem uM:∀{k:Nat} {H:Hp AV} {l:List AV} {R:Hp AV},lN k H=some (l,R)->H=cr l++R /\ l.length=k
 | 0,H,l,R,h=>by simp only [lN,Option.some.injEq,Prod.mk.injEq] at h;obtain⟨rfl,rfl⟩:=h;exact⟨rfl,rfl⟩
 | n+1,[],l,R,h=>by simp [lN] at h
 | n+1,none::r,l,R,h=>by simp [lN] at h
 | n+1,some (.cells _ _)::r,l,R,h=>by simp [lN] at h
 | n+1,some (.vec _ _ _)::r,l,R,h=>by simp [lN] at h
 | n+1,some .dead::r,l,R,h=>by simp [lN] at h
 | n+1,some (.abs a)::r,l,R,h=>by
   simp only [lN] at h
   split at h
   ·rename_i l' q hq
    cases h
    obtain⟨rfl,h2⟩:=uM hq
    exact⟨rfl,by simp [h2]⟩
   ·cases h
def Rs (isS:AV->Nat->Bool) (M:List Bool) (k:Nat) (r:SV×Hp AV):T (SV×List AV×List AV):=match clV r.2 r.1 with
 | false=>.fail "pack: value"
 | true=>match lk isS 0 M r.2 with
   | none=>.fail "pack: variables"
   | some H=>match lN k H with
     | none=>.fail "pack: objects"
     | some (l,q)=>match fE q with
       | none=>.fail "pack: no object"
       | some nw=>.leaf (r.1.ren (zp (M.length+k) q),l,nw)
def p6:Hp AV->Hp AV
 | []=>[]
 | some .dead::r=>none::p6 r
 | x::r=>x::p6 r
theorem ff:∀{H:Hp AV} {n:Nat} {c:Chunk AV},ab (p6 H) n=some c->ab H n=some c
 | [],n,c,h=>by cases n<;>simp [p6,ab] at h
 | none::r,0,c,h=>by simp [p6,ab] at h
 | none::r,n+1,c,h=>ff (H:=r) h
 | some .dead::r,0,c,h=>by simp [p6,ab] at h
 | some .dead::r,n+1,c,h=>ff (H:=r) h
 | some (.cells _ _)::r,0,c,h=>h
 | some (.cells _ _)::r,n+1,c,h=>ff (H:=r) h
 | some (.vec _ _ _)::r,0,c,h=>h
 | some (.vec _ _ _)::r,n+1,c,h=>ff (H:=r) h
 | some (.abs _)::r,0,c,h=>h
 | some (.abs _)::r,n+1,c,h=>ff (H:=r) h
theorem PU (H:Hp AV):Fl N H (p6 H):=fun ρ w hO =>
 ⟨ρ,hO.sub ⟨fun n c h=>hO.q n c (ff h),fun n m c d hne h h' k hk hk'=>hO.dis n m c d hne (ff h) (ff h') k hk hk',hO.glb⟩ (fun n c k h hk=>⟨n,c,ff h,hk⟩),fun _=>rfl,fun m d k h hk=>⟨m,d,ff h,hk⟩⟩
def Aj (L:Nat) (ks:List Nat):Nat->Hp AV->Hp AV
 | _,[]=>[]
 | i,x::r=>(match Nat.blt i L with | true=>x | false=>match iU ks i with | true=>x | false=>none)::Aj L ks (i+1) r
theorem kt {L:Nat} {ks:List Nat}:∀{H:Hp AV} {i n:Nat} {c:Chunk AV},ab (Aj L ks i H) n=some c->ab H n=some c
 | [],i,n,c,h=>by cases n<;>simp [Aj,ab] at h
 | x::r,i,0,c,h=>by
   have h:(match Nat.blt i L with | true=>x | false=>match iU ks i with | true=>x | false=>none)=some c:=h
   show x=some c
   split at h
   ·exact h
   ·split at h
    ·exact h
    ·cases h
 | x::r,i,n+1,c,h=>kt (H:=r) (i:=i+1) (n:=n) h
theorem PV (L:Nat) (ks:List Nat) (H:Hp AV):Fl N H (Aj L ks 0 H):=fun ρ w hO =>
 ⟨ρ,hO.sub ⟨fun n c h=>hO.q n c (kt h),fun n m c d hne h h' k hk hk'=>hO.dis n m c d hne (kt h) (kt h') k hk hk',hO.glb⟩ (fun n c k h hk=>⟨n,c,kt h,hk⟩),fun _=>rfl,fun m d k h hk=>⟨m,d,kt h,hk⟩⟩
def uh (view:Hp AV->Nat->T (AV×List Nat)) (isS:AV->Nat->Bool) (M:List Bool) (k:Nat) (ns:List Nat) (r:SV×Hp AV):T (SV×List AV×List AV) :=
 (pg view (ns++ig r.1) r.2).bind fun H=>Rs isS M k (r.1,Aj (M.length+k) (ig r.1) 0 (p6 H))
theorem pz {view:Hp AV->Nat->T (AV×List Nat)} (hview:yG N view) {isS:AV->Nat->Bool} {sn:Nat->AV} (hs:∀a i,isS a i=true->a=sn i) {M:List Bool} (hGM:N.G=M.length) {l:List AV} {ns:List Nat} {f:FuncId} {args:List SV} {H1 H2:Hp AV} {v v':SV} {l' nw:List AV}
 (hargs:∀x∈args,ClV (bB sn 0 M++cr l) x) (ho:Opn N (bB sn 0 M++cr l) H1) (h01:∀m c,ab (bB sn 0 M++cr l) m=some c->∃c',ab H1 m=some c') (hc:Ctr P N f args H1 v H2)
 (hr:(uh view isS M l.length ns (v,H2)).val=some (v',l',nw)):Ctr P N f args (bB sn 0 M++cr l) v' (bB sn 0 M++cr (l'++nw)) /\ l'.length=l.length:=by
 unfold uh at hr
 obtain⟨H30,h3,hr⟩:=T.bind_some hr
 have hfl:=((qA hview h3).trans (PU H30)).trans (PV (M.length+l.length) (ig v) (p6 H30))
 generalize Aj (M.length+l.length) (ig v) 0 (p6 H30)=H3 at hr hfl
 unfold Rs at hr
 split at hr
 ·simp [T.val] at hr
 rename_i hcl
 have hcl:ClV H3 v:=pB.1 hcl
 split at hr
 ·simp [T.val] at hr
 rename_i H4 h4
 have e4:H3=bB sn 0 M++H4:=qg hs h4
 split at hr
 ·simp [T.val] at hr
 rename_i lq q h5
 obtain⟨e5,hl5⟩:=uM h5
 split at hr
 ·simp [T.val] at hr
 rename_i nq h6
 simp only [T.val,Option.some.injEq,Prod.mk.injEq] at hr
 obtain⟨rfl,rfl,rfl⟩:=hr
 subst e5
 refine⟨?_,hl5⟩
 let L:=M.length+l.length
 let π:=zp L q
 have pO:(bB sn 0 M).length=M.length:=dv sn M 0
 have lenA:(bB sn 0 M++cr lq).length=L:=by rw [List.length_append,pO,oM,hl5]
 have g3:∀n,ab H3 n=if n < L then ab (bB sn 0 M++cr lq) n else ab q (n - L):=fun n=>by
  rw [e4,<- List.append_assoc,aH,lenA]
 have gR:∀n,ab (bB sn 0 M++cr (lq++nq)) n=if n < L then ab (bB sn 0 M++cr lq) n else ab (cr nq) (n - L):=fun n=>by
  rw [show cr (lq++nq)=cr lq++cr nq by simp [cr],<- List.append_assoc,aH,lenA]
 have isA:∀n c,ab (bB sn 0 M++cr lq) n=some c->∃a,c=.abs a:=fun n c h=>by
  rw [aH] at h
  split at h
  ·exact⟨_,((iM sn M 0 n c).1 h).2⟩
  ·obtain⟨a,_,h⟩:=(bL _ _ _).1 h;exact⟨a,h⟩
 have πlt:∀n,n < L->π n=n:=fun n h=>by
  show zp L q n=n
  unfold zp
  have e:Nat.blt n L=true:=by simpa [Nat.blt_eq] using h
  rw [e]
 have πge:∀n,¬n < L->π n=L+u7 q (n - L):=fun n h=>by
  show zp L q n=_
  unfold zp
  have e:Nat.blt n L=false:=by
   cases e:Nat.blt n L with
   | false=>rfl
   | true=>rw [Nat.blt_eq] at e;omega
  rw [e]
 let σ:Nat->Nat:=fun n=>if n < L then n else L+oa q (n - L)
 have src:∀n c,ab (bB sn 0 M++cr (lq++nq)) n=some c->ab H3 (σ n)=some c /\ ∃a,c=.abs a:=fun n c h=>by
  rw [gR] at h
  show ab H3 (if n < L then n else L+oa q (n - L))=some c /\ _
  split at h
  ·rename_i hn
   rw [if_pos hn,g3,if_pos hn];exact⟨h,isA n c h⟩
  ·rename_i hn
   obtain⟨a,h1,rfl⟩:=(bL _ _ _).1 h
   rw [if_neg hn,g3,if_neg (by omega),Nat.add_sub_cancel_left]
   exact⟨xb h6 _ a h1,a,rfl⟩
 have σinj:∀n m c d,ab (bB sn 0 M++cr (lq++nq)) n=some c->ab (bB sn 0 M++cr (lq++nq)) m=some d->σ n=σ m->n=m:=fun n m c d hn hm e=>by
  have e:(if n < L then n else L+oa q (n - L))=(if m < L then m else L+oa q (m - L)):=e
  have ln:∀n c,¬n < L->ab (bB sn 0 M++cr (lq++nq)) n=some c->n - L < nq.length:=fun n c hn h=>by
   rw [gR,if_neg hn] at h
   obtain⟨a,h1,_⟩:=(bL _ _ _).1 h
   exact(List.getElem?_eq_some_iff.1 h1).1
  by_cases h1:n < L<;>by_cases h2:m < L
  ·rw [if_pos h1,if_pos h2] at e;exact e
  ·rw [if_pos h1,if_neg h2] at e;omega
  ·rw [if_neg h1,if_pos h2] at e;omega
  ·rw [if_neg h1,if_neg h2] at e
   have:=Lu h6 (ln n c h1 hn) (ln m d h2 hm) (by omega)
   omega
 have σπ:∀n c,ab H3 n=some c->σ (π n)=n:=fun n c h=>by
  by_cases hn:n < L
  ·rw [πlt n hn];exact if_pos hn
  ·rw [πge n hn]
   show (if L+u7 q (n - L) < L then _ else L+oa q (L+u7 q (n - L) - L))=n
   rw [if_neg (by omega),Nat.add_sub_cancel_left]
   rw [g3,if_neg hn] at h
   rw [yk q _ c h];omega
 have up:∀n c,ab H3 n=some c->∃d,ab (bB sn 0 M++cr (lq++nq)) (π n)=some d:=fun n c h=>by
  by_cases hn:n < L
  ·rw [πlt n hn,gR,if_pos hn]
   rw [g3,if_pos hn] at h
   exact⟨c,h⟩
  ·rw [πge n hn,gR,if_neg (by omega),Nat.add_sub_cancel_left]
   rw [g3,if_neg hn] at h
   have:∀(H:Hp AV) (l:List AV),fE H=some l->∀n c,ab H n=some c->u7 H n < l.length:=by
    intro H
    induction H with
    | nil=>intro l _ n c h;cases n<;>simp [ab] at h
    | cons x r ih =>
      intro l hl n c h
      cases x with
      | none =>
        cases n with
        | zero=>simp [ab] at h
        | succ n=>exact ih l (by simpa [fE] using hl) n c h
      | some x =>
        cases x with
        | abs b =>
          simp only [fE] at hl
          split at hl
          ·rename_i p hp
           cases hl
           cases n with
           | zero=>simp [u7]
           | succ n=>simpa [u7] using ih p hp n c h
          ·cases hl
        | cells _ _=>simp [fE] at hl
        | vec _ _ _=>simp [fE] at hl
        | dead=>simp [fE] at hl
   have hlt:=this q nq h6 _ c h
   exact⟨_,(bL _ _ _).2 ⟨_,List.getElem?_eq_getElem hlt,rfl⟩⟩
 obtain⟨hv2,_,hcall⟩:=hc
 have clR:bU N (bB sn 0 M++cr (lq++nq)):=by
  refine⟨fun n c h=>?_,trivial⟩
  obtain⟨_,a,rfl⟩:=src n c h
  intro c hc;cases hc
 have clv:ClV (bB sn 0 M++cr (lq++nq)) (v.ren π):=hcl.ren up
 have dom0:∀m c,ab (bB sn 0 M++cr l) m=some c->m < L /\ ∃d,ab (bB sn 0 M++cr (lq++nq)) m=some d:=fun m c h=>by
  have hm:m < L:=by
   have:=aX h
   rw [List.length_append,pO,oM] at this
   exact this
  refine⟨hm,?_⟩
  rw [gR,if_pos hm]
  rw [aH,pO] at h ⊢
  split at h
  ·rename_i hm'
   rw [if_pos hm'];exact⟨c,h⟩
  ·rename_i hm'
   rw [if_neg hm']
   obtain⟨a,h1,_⟩:=(bL _ _ _).1 h
   have:m - M.length < lq.length:=by rw [hl5];exact(List.getElem?_eq_some_iff.1 h1).1
   exact⟨_,(bL _ _ _).2 ⟨_,List.getElem?_eq_getElem this,rfl⟩⟩
 refine⟨clv,clR,fun ρ w hO=>?_⟩
 obtain⟨ρ1,o1,l1,f1⟩:=ho ρ w hO
 have hmap:args.map (SV.den ρ1)=args.map (SV.den ρ):=List.map_congr_left fun x hx=>SV.den_congr (hargs x hx) fun m c h=>l1 m (aX h)
 rw [<- hmap]
 refine(hcall ρ1 w o1).mono ?_
 rintro e w' ⟨ρ2,rfl,o2,hE⟩
 obtain⟨ρ3,o3,l3,f3⟩:=hfl ρ2 w' o2
 let ρ4:Nm:=⟨fun n=>ρ3.L (σ n),fun n=>ρ3.S (σ n)⟩
 have L4:∀n,n < L->ρ4.L n=ρ3.L n:=fun n h=>by
  show ρ3.L (if n < L then n else _)=_
  rw [if_pos h]
 have fp4:∀n (c:Chunk AV),(∃a,c=.abs a)->c.fp ρ4 n=c.fp ρ3 (σ n):=fun n c ⟨a,e⟩=>by subst e;rfl
 refine⟨ρ4,?_,hO.up2 ⟨⟨fun n c h=>?_,fun n m c d hne h h' k hk hk'=>?_,fun g hg=>?_⟩,⟨fun m c h=>(dom0 m c h).2,fun m c h=>?_,fun m hm h=>?_,?_,fun k hk hno=>?_,fun m c k h hk=>?_,hE.os,hE.tape,hE.output,hE.size⟩⟩⟩
 ·congr 1
  rw [SV.den_ren]
  have e1:v.den (ρ4.ren π)=v.den ρ3:=SV.den_congr hcl fun n c h=>by
   show ρ3.L (σ (π n))=_
   rw [σπ n c h]
  have e2:v.den ρ3=v.den ρ2:=SV.den_congr hv2 fun n c _=>l3 n
  rw [e1,e2]
 ·obtain⟨h1,a,rfl⟩:=src n c h
  exact o3.q (σ n) _ h1
 ·obtain⟨h1,ha⟩:=src n c h
  obtain⟨h2,hb⟩:=src m d h'
  rw [fp4 n c ha] at hk
  rw [fp4 m d hb] at hk'
  exact o3.dis (σ n) (σ m) c d (fun e=>hne (σinj n m c d h h' e)) h1 h2 k hk hk'
 ·have:ρ4 g=ρ3 g:=by
   show (ρ4.L g).b=(ρ3.L g).b
   rw [L4 g (by omega)]
  rw [this];exact o3.glb g hg
 ·obtain⟨hm,_⟩:=dom0 m c h
  obtain⟨c1,h1⟩:=h01 m c h
  rw [L4 m hm,l3,hE.agree m c1 h1,l1 m (aX h)]
 ·have hm':m < L:=by
   rw [List.length_append,pO,oM] at hm
   exact hm
  rw [gR,if_pos hm']
  rw [aH,pO] at h ⊢
  split
  ·rename_i h1;rw [if_pos h1] at h;exact h
  ·rename_i h1
   rw [if_neg h1] at h
   exfalso
   have:m - M.length < l.length:=by omega
   have h2:=(bL l (m - M.length) _).2 ⟨_,List.getElem?_eq_getElem this,rfl⟩
   rw [h] at h2;cases h2
 ·rw [List.length_append,List.length_append,oM,oM,List.length_append];omega
 ·refine hE.frame k hk fun m d hd hk'=>?_
  obtain⟨m',d',h1,h2⟩:=f1 m d k hd hk'
  exact hno m' d' h1 h2
 ·obtain⟨h1,ha⟩:=src m c h
  rw [fp4 m c ha] at hk
  obtain⟨m',d',h2,h3⟩:=f3 (σ m) c k h1 hk
  rcases hE.new m' d' k h2 h3 with h4 | ⟨m'',d'',h4,h5⟩
  ·exact .inl h4
  ·exact .inr (f1 m'' d'' k h4 h5)
end
section
variable {AV:Type} {P:Program} {N:Env AV}
def kC (ρ:Nm) (H:Hp AV) (nm:Option Nat) (S:Nat->Prop):Prop:=match nm with
 | some m=>∃d,ab H m=some d /\ ∀k,S k↔d.fp ρ m k
 | none=>∀k,¬S k
def di:List (Option Nat)->List Nat
 | []=>[]
 | some n::r=>n::di r
 | none::r=>di r
theorem kH {n:Nat}:∀{l:List (Option Nat)},n∈di l↔some n∈l
 | []=>by simp [di]
 | some m::r=>by simp [di,kH (l:=r)]
 | none::r=>by simp [di,kH (l:=r)]
theorem xm:∀{l:List (Option Nat)},(di l).Nodup->∀{i j m:Nat},l[i]?=some (some m)->l[j]?=some (some m)->i=j
 | [],_,i,j,m,h,_=>by simp at h
 | x::r,hd,i,j,m,h1,h2=>by
   have hr:(di r).Nodup:=by
    cases x with
    | none=>exact hd
    | some y=>exact(List.nodup_cons.1 hd).2
   have no:∀k,x=some m->r[k]?=some (some m)->False:=fun k e h=>by
    subst e
    exact(List.nodup_cons.1 hd).1 (kH.2 (List.mem_of_getElem? h))
   cases i with
   | zero =>
     simp only [List.getElem?_cons_zero,Option.some.injEq] at h1
     cases j with
     | zero=>rfl
     | succ j=>exact(no j h1 (by simpa using h2)).elim
   | succ i =>
     simp only [List.getElem?_cons_succ] at h1
     cases j with
     | zero =>
       simp only [List.getElem?_cons_zero,Option.some.injEq] at h2
       exact(no i h2 h1).elim
     | succ j=>exact congrArg (·+1) (xm hr h1 (by simpa using h2))
theorem tg {ρ:Nm} {H:Hp AV} {w:World} (hO:Own N ρ H w) {K:Hp AV} (ρ0:Nm) {n:Nat} {ps:List (Option Nat)} (hnd:(n::di ps).Nodup)
 (hK:∀i m,(some n::ps)[i]?=some (some m)->∃c,ab K i=some c)
 (h:∀i c,ab K i=some c->c.q N ρ0 i w /\ ∃x,(some n::ps)[i]?=some x /\ kC ρ H x (c.fp ρ0 i)):iT N K (ρ0.L 0) (eN ρ H n (di ps)) w:=by
 have hnd:(di (some n::ps)).Nodup:=hnd
 refine⟨ρ0,rfl,⟨fun i c hc=>(h i c hc).1,fun i j c d hij hc hd k hk hk'=>?_⟩,fun k=>?_⟩
 ·obtain⟨x,e1,p1⟩:=(h i c hc).2
  obtain⟨y,e2,p2⟩:=(h j d hd).2
  unfold kC at p1 p2
  cases x with
  | none=>exact p1 k hk
  | some m =>
    cases y with
    | none=>exact p2 k hk'
    | some m' =>
      obtain⟨c',g1,g2⟩:=p1
      obtain⟨d',g3,g4⟩:=p2
      refine hO.dis m m' c' d' (fun e=>hij ?_) g1 g3 k ((g2 k).1 hk) ((g4 k).1 hk')
      subst e
      exact xm hnd e1 e2
 ·constructor
  ·rintro ⟨m,d,h1,h2,h3⟩
   have hm:some m∈some n::ps:=by
    rcases h1 with rfl | h1
    ·exact List.mem_cons_self
    ·exact List.mem_cons_of_mem _ (kH.1 h1)
   obtain⟨i,hi⟩:=List.mem_iff_getElem?.1 hm
   obtain⟨c,hc⟩:=hK i m hi
   obtain⟨x,e1,p1⟩:=(h i c hc).2
   rw [hi] at e1
   cases e1
   obtain⟨d',g1,g2⟩:=p1
   rw [h2] at g1
   cases g1
   exact⟨i,c,hc,(g2 k).2 h3⟩
  ·rintro ⟨i,c,h1,h2⟩
   obtain⟨x,e1,p1⟩:=(h i c h1).2
   unfold kC at p1
   cases x with
   | none=>exact absurd h2 (p1 k)
   | some m =>
     obtain⟨d',g1,g2⟩:=p1
     refine⟨m,d',?_,g1,(g2 k).1 h2⟩
     rcases List.mem_cons.1 (List.mem_of_getElem? e1) with e | e
     ·cases e;exact .inl rfl
     ·exact .inr (kH.2 e)
def AF {α:Type} (K:AK α) (ex:AV->Option (List α)) (H:Hp AV):Cell->Option (List α×Nat×Option Nat)
 | .snil=>some ([],0,none)
 | .vs n (o+1) len es _=>match Nat.beq es K.es with
   | false=>none
   | true=>match ab H n with
     | some (.abs a)=>match ex a with
       | some l=>some (l.drop (o+1),(match Nat.ble (o+1) l.length with | true=>len | false=>(l.drop (o+1)).length+1),some n)
       | none=>none
     | _=>none
 | .vs n 0 len es _=>match Nat.beq es K.es with
   | false=>none
   | true=>match ab H n with
     | some (.abs a)=>match ex a with
       | some l=>some (l,len,some n)
       | none=>none
     | some (.vec cs ve ty)=>match Nat.beq ve K.es,Nat.beq ty K.ty with
       | true,true=>match K.decs (cs.length / K.es) cs with
         | some l=>some (l,len,some n)
         | none=>none
       | _,_=>none
     | _=>none
 | _=>none
theorem gH {ρ:Nm} {cs:List Cell} (h:∀c∈cs,c.name=none):ah ρ cs=ah Nm.id cs:=by
 unfold ah
 exact List.map_congr_left fun c hc=>den_congr c fun m hm=>by rw [h c hc] at hm;cases hm
theorem yY {α:Type} (K:AK α):∀(k:Nat) (l:List α),K.vals (l.drop k)=(K.vals l).drop (k * K.es)
 | 0,l=>by simp
 | k+1,[]=>by simp [AK.vals]
 | k+1,a::r=>by
   have e:K.vals (a::r)=ah Nm.id (K.enc a)++K.vals r:=rfl
   have h:(ah Nm.id (K.enc a)).length=K.es:=by simp [ah,K.len a]
   rw [List.drop_succ_cons,yY K k r,e,List.drop_append]
   have h1:(ah Nm.id (K.enc a)).drop ((k+1) * K.es)=[]:=List.drop_eq_nil_of_le (by rw [h,Nat.succ_mul];omega)
   rw [h1,h,List.nil_append]
   congr 1
   rw [Nat.succ_mul];omega
theorem DI {α:Type} {K:AK α} {l:List α} {o n:Nat} {ρ:Nm} {H:Hp AV} {w:World} {a:AV} {kn:Bool} (hle:o+1<=l.length) (hq:K.q l (ρ.L n) (ρ.S n) w) (ha:ab H n=some (.abs a)) :
 ∃lc S,(Cell.vs n (o+1) (l.drop (o+1)).length K.es kn).den ρ=aW lc 0 (l.drop (o+1)).length K.es /\ K.q (l.drop (o+1)) lc S w /\ kC ρ H (some n) S:=by
 have hvl:=K.vals_len l
 have hp:=K.pos
 rcases hq with⟨_,h2,_⟩ | ⟨h1,h2,row,h3,h4,h5,h6⟩
 ·exfalso
  rw [h2] at hvl
  have:0 < l.length * K.es:=Nat.mul_pos (by omega) hp
  simp only [List.length_nil] at hvl
  omega
 ·rw [hvl] at h5
  have hc:l.length<=(ρ.L n).c - 1:=Nat.le_of_mul_le_mul_right h5 hp
  have em:(ρ.L n).c - 1=(o+1)+((ρ.L n).c - (o+1) - 1):=by omega
  refine⟨⟨(ρ.L n).b,(ρ.L n).o+(o+1) * K.es,(ρ.L n).c - (o+1)⟩,ρ.S n,?_,.inr ⟨by show 0 < (ρ.L n).c - (o+1);omega,h2,row,h3,?_,?_,fun j v hj=>?_⟩,_,ha,fun k=>Iff.rfl⟩
  ·show aW (ρ.L n) (o+1) _ _=_
   unfold aW
   rw [if_neg (fun h=>by omega),if_neg (fun h=>by have:=h.2;simp only at this;omega)]
   simp only [Nat.zero_mul,Nat.add_zero]
   congr 1
   omega
  ·show (ρ.L n).o+(o+1) * K.es+((ρ.L n).c - (o+1) - 1) * K.es<=row.length
   rw [em,Nat.add_mul] at h4
   omega
  ·show (K.vals (l.drop (o+1))).length<=((ρ.L n).c - (o+1) - 1) * K.es
   rw [K.vals_len,List.length_drop]
   exact Nat.mul_le_mul_right _ (by omega)
  ·rw [yY,List.getElem?_drop] at hj
   have:=h6 _ _ hj
   show row[(ρ.L n).o+(o+1) * K.es+j]?=some v
   rw [<- this,Nat.add_assoc]
theorem sA {α:Type} {K:AK α} {ex:AV->Option (List α)} (hex:∀a l,ex a=some l->∀lc S w,N.F.q a lc S w->K.q l lc S w) {H:Hp AV} {c:Cell} {l:List α} {len:Nat} {nm:Option Nat} (h:AF K ex H c=some (l,len,nm)) (hlen:len=l.length)
 {ρ:Nm} {w:World} (hO:Own N ρ H w):∃lc S,c.den ρ=aW lc 0 l.length K.es /\ K.q l lc S w /\ kC ρ H nm S:=by
 unfold AF at h
 split at h
 ·cases h
  refine⟨⟨0,0,0⟩,fun _=>False,?_,.inl ⟨by decide,rfl,fun k hk=>hk⟩,fun k hk=>hk⟩
  simp [Cell.den,aW]
 ·rename_i n o len' es kn
  cases he:Nat.beq es K.es with
  | false=>rw [he] at h;cases h
  | true =>
  rw [he] at h
  have he:=(ai _ _).1 he
  subst he
  dsimp only at h
  split at h
  ·rename_i a ha
   split at h
   ·rename_i l' hl
    simp only [Option.some.injEq,Prod.mk.injEq] at h
    obtain⟨rfl,hln,rfl⟩:=h
    have hle:o+1<=l'.length:=by
     cases hb:Nat.ble (o+1) l'.length with
     | true=>exact Nat.le_of_ble_eq_true hb
     | false=>rw [hb] at hln;dsimp only at hln;omega
    rw [Nat.ble_eq_true_of_le hle] at hln
    dsimp only at hln
    rw [hln,hlen]
    exact DI hle (hex a _ hl _ _ _ (hO.q n _ ha)) ha
   ·cases h
  ·cases h
 ·rename_i n len' es kn
  cases he:Nat.beq es K.es with
  | false=>rw [he] at h;cases h
  | true =>
  rw [he] at h
  have he:=(ai _ _).1 he
  subst he
  dsimp only at h
  split at h
  ·rename_i a ha
   split at h
   ·rename_i l' hl
    simp only [Option.some.injEq,Prod.mk.injEq] at h
    obtain⟨rfl,rfl,rfl⟩:=h
    refine⟨ρ.L n,ρ.S n,?_,hex a _ hl _ _ _ (hO.q n _ ha),_,ha,fun k=>Iff.rfl⟩
    rw [<- hlen];rfl
   ·cases h
  ·rename_i cs ve ty ha
   split at h
   ·rename_i h1 h2
    have h1:=(ai _ _).1 h1
    have h2:=(ai _ _).1 h2
    subst h1 h2
    split at h
    ·rename_i l' hl
     simp only [Option.some.injEq,Prod.mk.injEq] at h
     obtain⟨rfl,rfl,rfl⟩:=h
     obtain⟨v1,v2⟩:=K.decs_ok hl
     have hq:iC (ρ.L n) (ρ.S n) (ah ρ cs) K.es K.ty w:=hO.q n _ ha
     rw [gH v2,<- v1] at hq
     refine⟨ρ.L n,ρ.S n,?_,hq,_,ha,fun k=>Iff.rfl⟩
     rw [<- hlen];rfl
    ·cases h
   ·cases h
  ·cases h
 ·cases h
end
section
variable {AV:Type} {P:Program} {N:Env AV}
def xf:Cell->Cell
 | .bl b=>.bt b
 | .il k n=>.it k n
 | .iv k n _ _=>.it k n
 | .ir k n _ _ _=>.it k n
 | .st s=>.sv s
 | c=>c
theorem rF (ρ:Nm) (c:Cell):(xf c).den ρ=c.den ρ:=by cases c<;>rfl
theorem tj (c:Cell):(xf c).name=c.name:=by cases c<;>rfl
def u0:List Cell->List Cell
 | []=>[]
 | c::r=>xf c::u0 r
theorem xe (l:List Cell):u0 l=l.map xf:=by induction l<;>simp [u0, *]
theorem oc (ρ:Nm) (l:List Cell):ah ρ (u0 l)=ah ρ l:=by
 rw [xe];unfold ah;rw [List.map_map]
 exact List.map_congr_left fun c _=>rF ρ c
def Io:V1->V1
 | .c x=>.c (xf x)
 | .agg l=>.agg (u0 l)
theorem CL (ρ:Nm) (x:V1):(Io x).den ρ=x.den ρ:=by
 cases x with
 | c x=>exact rF ρ x
 | agg l=>show Value.agg _=_;rw [oc];rfl
def CK:List V1->List V1
 | []=>[]
 | x::r=>Io x::CK r
theorem zu (l:List V1):CK l=l.map Io:=by induction l<;>simp [CK, *]
def Lw:SV->SV
 | .v x=>.v (Io x)
 | .tup l=>.tup (CK l)
 | x=>x
theorem Lv (ρ:Nm) (x:SV):(Lw x).den ρ=x.den ρ:=by
 cases x with
 | v x=>exact CL ρ x
 | tup l =>
   show Value.tuple _=Value.tuple _
   rw [zu,List.map_map]
   have e:l.map (V1.den ρ ∘ Io)=l.map (V1.den ρ):=List.map_congr_left fun x _=>CL ρ x
   rw [e]
 | _=>rfl
theorem GB {H:Hp AV} {x:V1} (h:ClV1 H x):ClV1 H (Io x):=by
 intro c hc n hn
 cases x with
 | c x =>
   have hc:c∈[xf x]:=hc
   rw [List.mem_singleton.1 hc,tj] at hn
   exact h x (List.mem_singleton.2 rfl) n hn
 | agg l =>
   have hc:c∈u0 l:=hc
   rw [xe] at hc
   obtain⟨d,hd,rfl⟩:=List.mem_map.1 hc
   rw [tj] at hn
   exact h d hd n hn
theorem Pk {H:Hp AV} {x:SV} (h:ClV H x):ClV H (Lw x):=by
 cases x with
 | v x=>exact GB h
 | tup l =>
   intro y hy
   have hy:y∈CK l:=hy
   rw [zu] at hy
   obtain⟨z,hz,rfl⟩:=List.mem_map.1 hy
   exact GB (h z hz)
 | unk=>exact h
 | clo f l=>exact h
def Lx {β:Type}:SV×β->SV×β
 | (v,r)=>(Lw v,r)
theorem vC {f:FuncId} {args:List SV} {H R:Hp AV} {v:SV} (hc:Ctr P N f args H v R):Ctr P N f args H (Lw v) R :=
 mZ hc (Pk hc.1) fun ρ=>Lv ρ v
end
section
variable {AV:Type} {P:Program} {N:Env AV}
inductive GC (AV:Type) where
 | p (c:Cell) | s (a:AV) (es:Nat) | r (a:AV) | i (t:TypeId) (a:AV)
def dE (ln:AV->Nat):Nat->List (GC AV)->List Cell
 | _,[]=>[]
 | k,.p c::r=>c::dE ln k r
 | k,.s a es::r=>.vs k 0 (ln a) es false::dE ln (k+1) r
 | k,.r _::r=>.ptr k 0::dE ln (k+1) r
 | k,.i t _::r=>.ifc t (.ptr k 0)::dE ln (k+1) r
def cd:List (GC AV)->List AV
 | []=>[]
 | .p _::r=>cd r
 | .s a _::r=>a::cd r
 | .r a::r=>a::cd r
 | .i _ a::r=>a::cd r
def dw (ln:AV->Nat) (ty:TypeId) (cs:List (GC AV)):Hp AV:=some (.cells (dE ln 1 cs) ty)::cr (cd cs)
abbrev Rd (AV:Type):=Hp AV->Cell->Option (AV×Nat×Option Nat)
def MV (F:Intf AV) (H:Hp AV):Option (Rd AV×Nat)->Cell->Option (GC AV×Bool×List (Option Nat))
 | some (rd,es),c=>match rd H c with
   | some (a,len,nm)=>some (.s a es,decide (len=F.len a),[nm])
   | none=>none
 | none,.ptr m 0=>match ab H m with
   | some (.abs a)=>some (.r a,true,[some m])
   | _=>none
 | none,.ifc t (.ptr m 0)=>match ab H m with
   | some (.abs a)=>some (.i t a,true,[some m])
   | _=>none
 | none,c=>match c.name with
   | none=>some (.p (xf c),true,[])
   | some _=>none
def jh (F:Intf AV) (H:Hp AV):List (Option (Rd AV×Nat))->List Cell->Option (List (GC AV)×Bool×List (Option Nat))
 | [],[]=>some ([],true,[])
 | k::ks,c::cs=>match MV F H k c with
   | some (g,b,ns)=>match jh F H ks cs with
     | some (gs,b',ns')=>some (g::gs,(match b with | true=>b' | false=>false),ns++ns')
     | none=>none
   | none=>none
 | _,_=>none
def FD (N:Env AV) (rd:Rd AV) (es:Nat):Prop:=∀H c a len nm,rd H c=some (a,len,nm)->len=N.F.len a->∀ρ w,Own N ρ H w->∃lc S,c.den ρ=aW lc 0 (N.F.len a) es /\ N.F.q a lc S w /\ kC ρ H nm S
def qu (N:Env AV):List (Option (Rd AV×Nat))->Prop
 | []=>True
 | none::r=>qu N r
 | some (rd,es)::r=>FD N rd es /\ qu N r
theorem qB {H:Hp AV}:∀{ks:List (Option (Rd AV×Nat))} {cs:List Cell} {gs:List (GC AV)} {b:Bool} {ns:List (Option Nat)},qu N ks->jh N.F H ks cs=some (gs,b,ns)->b=true->∀{ρ:Nm} {w:World},Own N ρ H w ->
 ∃Ls:List (Loc×(Nat->Prop)),Ls.length=(cd gs).length /\ ns.length=Ls.length /\ (∀(k:Nat) (ρ0:Nm),(∀j x,Ls[j]?=some x->ρ0.L (k+j)=x.1)->ah ρ0 (dE N.F.len k gs)=ah ρ cs) /\
   ∀(j:Nat) x,Ls[j]?=some x->∃a nm,(cd gs)[j]?=some a /\ ns[j]?=some nm /\ N.F.q a x.1 x.2 w /\ kC ρ H nm x.2
 | [],[],gs,b,ns,hk,h,hb,ρ,w,hO=>by
   simp only [jh,Option.some.injEq,Prod.mk.injEq] at h
   obtain⟨rfl,_,rfl⟩:=h
   exact⟨[],rfl,rfl,fun _ _ _=>rfl,fun j x hx=>by simp at hx⟩
 | [],_::_,gs,b,ns,hk,h,hb,ρ,w,hO=>by simp [jh] at h
 | _::_,[],gs,b,ns,hk,h,hb,ρ,w,hO=>by simp [jh] at h
 | k::ks,c::cs,gs,b,ns,hk,h,hb,ρ,w,hO=>by
   simp only [jh] at h
   split at h
   ·rename_i g b1 ns1 h1
    split at h
    ·rename_i gs' b2 ns2 h2
     simp only [Option.some.injEq,Prod.mk.injEq] at h
     obtain⟨rfl,hbb,rfl⟩:=h
     obtain⟨rfl,rfl⟩:b1=true /\ b2=true:=by cases b1<;>cases b2<;>simp_all
     have hk':qu N ks:=by
      cases k with
      | none=>exact hk
      | some x=>exact hk.2
     obtain⟨Ls,i1,i2,i3,i4⟩:=qB hk' h2 rfl hO
     have one:∀(a:AV) (lc:Loc) (S:Nat->Prop) (nm:Option Nat),cd (g::gs')=a::cd gs'->ns1=[nm]->N.F.q a lc S w->kC ρ H nm S ->
      (∀(k:Nat) (ρ0:Nm),ρ0.L k=lc->∃d,dE N.F.len k (g::gs')=d::dE N.F.len (k+1) gs' /\ d.den ρ0=c.den ρ) ->
      ∃Ls:List (Loc×(Nat->Prop)),Ls.length=(cd (g::gs')).length /\ (ns1++ns2).length=Ls.length /\ (∀(k:Nat) (ρ0:Nm),(∀j x,Ls[j]?=some x->ρ0.L (k+j)=x.1)->ah ρ0 (dE N.F.len k (g::gs'))=ah ρ (c::cs)) /\
        ∀(j:Nat) x,Ls[j]?=some x->∃a nm,(cd (g::gs'))[j]?=some a /\ (ns1++ns2)[j]?=some nm /\ N.F.q a x.1 x.2 w /\ kC ρ H nm x.2:=by
      rintro a lc S nm hp rfl hq hpi hcell
      refine⟨(lc,S)::Ls,by rw [hp];simp [i1],by simp [i2],fun k ρ0 hL=>?_,fun j x hx=>?_⟩
      ·obtain⟨d,e1,e2⟩:=hcell k ρ0 (by have:=hL 0 (lc,S) rfl;simpa using this)
       rw [e1]
       simp only [ah,List.map_cons] at i3 ⊢
       rw [e2,i3 (k+1) ρ0 fun j x hx=>by have:=hL (j+1) x (by simpa using hx);rwa [show k+(j+1)=k+1+j by omega] at this]
      ·rw [hp]
       cases j with
       | zero =>
         simp only [List.getElem?_cons_zero,Option.some.injEq] at hx
         subst hx
         exact⟨a,nm,rfl,rfl,hq,hpi⟩
       | succ j =>
         obtain⟨a',nm',j1,j2,j3,j4⟩:=i4 j x (by simpa using hx)
         exact⟨a',nm',by simpa using j1,by simpa using j2,j3,j4⟩
     unfold MV at h1
     split at h1
     ·rename_i rd es
      split at h1
      ·rename_i a len nm hrd
       simp only [Option.some.injEq,Prod.mk.injEq] at h1
       obtain⟨rfl,hlen,rfl⟩:=h1
       obtain⟨lc,S,q1,q2,q3⟩:=hk.1 H c a len nm hrd (of_decide_eq_true hlen) ρ w hO
       exact one a lc S nm rfl rfl q2 q3 fun k ρ0 e=>⟨_,rfl,by rw [q1,<- e];rfl⟩
      ·cases h1
     ·rename_i m
      split at h1
      ·rename_i a hm
       simp only [Option.some.injEq,Prod.mk.injEq] at h1
       obtain⟨rfl,_,rfl⟩:=h1
       exact one a (ρ.L m) (ρ.S m) (some m) rfl rfl (hO.q m _ hm) ⟨_,hm,fun k=>Iff.rfl⟩ fun k ρ0 e=>⟨_,rfl,by simp only [Cell.den,Nm.f,e]⟩
      ·cases h1
     ·rename_i t m
      split at h1
      ·rename_i a hm
       simp only [Option.some.injEq,Prod.mk.injEq] at h1
       obtain⟨rfl,_,rfl⟩:=h1
       exact one a (ρ.L m) (ρ.S m) (some m) rfl rfl (hO.q m _ hm) ⟨_,hm,fun k=>Iff.rfl⟩ fun k ρ0 e=>⟨_,rfl,by simp only [Cell.den,Nm.f,e]⟩
      ·cases h1
     ·split at h1
      ·rename_i hn
       simp only [Option.some.injEq,Prod.mk.injEq] at h1
       obtain⟨rfl,_,rfl⟩:=h1
       refine⟨Ls,i1,i2,fun k ρ0 hL=>?_,fun j x hx=>i4 j x hx⟩
       simp only [dE,ah,List.map_cons] at i3 ⊢
       have hd:(xf c).den ρ0=c.den ρ:=(rF ρ0 c).trans (den_congr c fun m hm=>by rw [hn] at hm;cases hm)
       rw [i3 k ρ0 hL,hd]
      ·cases h1
    ·cases h
   ·cases h
def Pu (ln:AV->Nat) (es:Nat) (ty:TypeId) (cs:List (GC AV)):Hp AV:=some (.vec (dE ln 1 cs) es ty)::cr (cd cs)
theorem Gy {H:Hp AV} {n:Nat} {ks:List (Option (Rd AV×Nat))} (hks:qu N ks) {l:List Cell} {ty:TypeId} (hH:ab H n=some (.cells l ty)) {gs:List (GC AV)} {ns:List (Option Nat)} (h:jh N.F H ks l=some (gs,true,ns)) (hnd:(n::di ns).Nodup)
 {ρ:Nm} {w:World} (hO:Own N ρ H w):iT N (dw N.F.len ty gs) (ρ.L n) (eN ρ H n (di ns)) w:=by
 obtain⟨Ls,i1,i2,i3,i4⟩:=qB hks h rfl hO
 let ρ0:Nm:=⟨fun i=>match i with | 0=>ρ.L n | j+1=>(Ls.getD j (⟨0,0,0⟩,fun _=>False)).1,fun i=>match i with | 0=>fun _=>False | j+1=>(Ls.getD j (⟨0,0,0⟩,fun _=>False)).2⟩
 have e0:∀j x,Ls[j]?=some x->ρ0.L (1+j)=x.1 /\ ρ0.S (1+j)=x.2:=fun j x hx=>by
  rw [Nat.add_comm]
  show (Ls.getD j _).1=_ /\ (Ls.getD j _).2=_
  rw [List.getD_eq_getElem?_getD,hx]
  exact⟨rfl,rfl⟩
 refine tg hO ρ0 hnd (fun i m hi=>?_) (fun i c hc=>?_)
 ·cases i with
  | zero=>exact⟨_,rfl⟩
  | succ j =>
    have hj:ns[j]?=some (some m):=by simpa using hi
    have:j < (cd gs).length:=by rw [<- i1,<- i2];exact(List.getElem?_eq_some_iff.1 hj).1
    exact⟨_,(bL _ _ _).2 ⟨_,List.getElem?_eq_getElem this,rfl⟩⟩
 ·cases i with
  | zero =>
    simp only [dw,ab,Option.some.injEq] at hc
    subst hc
    refine⟨?_,some n,rfl,_,hH,fun k=>Iff.rfl⟩
    have hq:w.heap[ρ n]?=some (.cells (ah ρ l).toArray ty (0,0)):=hO.q n _ hH
    show w.heap[ρ n]?=some (.cells (ah ρ0 (dE N.F.len 1 gs)).toArray ty (0,0))
    rw [i3 1 ρ0 fun j x hx=>(e0 j x hx).1]
    exact hq
  | succ j =>
    obtain⟨a,ha,rfl⟩:=(bL _ _ _).1 (show ab (cr (cd gs)) j=some c from hc)
    have hj:j < Ls.length:=by rw [i1];exact(List.getElem?_eq_some_iff.1 ha).1
    obtain⟨a',nm,j1,j2,j3,j4⟩:=i4 j _ (List.getElem?_eq_getElem hj)
    rw [ha] at j1
    cases j1
    obtain⟨e1,e2⟩:=e0 j _ (List.getElem?_eq_getElem hj)
    rw [Nat.add_comm] at e1 e2
    refine⟨?_,nm,by simpa using j2,?_⟩
    ·show N.F.q a (ρ0.L (j+1)) (ρ0.S (j+1)) w
     rw [e1,e2];exact j3
    ·show kC ρ H nm (ρ0.S (j+1))
     rw [e2];exact j4
theorem Ph {H:Hp AV} {n:Nat} {ks:List (Option (Rd AV×Nat))} (hks:qu N ks) {l:List Cell} {es:Nat} {ty:TypeId} (hH:ab H n=some (.vec l es ty)) {gs:List (GC AV)} {ns:List (Option Nat)} (h:jh N.F H ks l=some (gs,true,ns)) (hnd:(n::di ns).Nodup)
 {ρ:Nm} {w:World} (hO:Own N ρ H w):iT N (Pu N.F.len es ty gs) (ρ.L n) (eN ρ H n (di ns)) w:=by
 obtain⟨Ls,i1,i2,i3,i4⟩:=qB hks h rfl hO
 let ρ0:Nm:=⟨fun i=>match i with | 0=>ρ.L n | j+1=>(Ls.getD j (⟨0,0,0⟩,fun _=>False)).1,fun i=>match i with | 0=>ρ.S n | j+1=>(Ls.getD j (⟨0,0,0⟩,fun _=>False)).2⟩
 have e0:∀j x,Ls[j]?=some x->ρ0.L (1+j)=x.1 /\ ρ0.S (1+j)=x.2:=fun j x hx=>by
  rw [Nat.add_comm]
  show (Ls.getD j _).1=_ /\ (Ls.getD j _).2=_
  rw [List.getD_eq_getElem?_getD,hx]
  exact⟨rfl,rfl⟩
 refine tg hO ρ0 hnd (fun i m hi=>?_) (fun i c hc=>?_)
 ·cases i with
  | zero=>exact⟨_,rfl⟩
  | succ j =>
    have hj:ns[j]?=some (some m):=by simpa using hi
    have:j < (cd gs).length:=by rw [<- i1,<- i2];exact(List.getElem?_eq_some_iff.1 hj).1
    exact⟨_,(bL _ _ _).2 ⟨_,List.getElem?_eq_getElem this,rfl⟩⟩
 ·cases i with
  | zero =>
    simp only [Pu,ab,Option.some.injEq] at hc
    subst hc
    refine⟨?_,some n,rfl,_,hH,fun k=>Iff.rfl⟩
    have hq:iC (ρ.L n) (ρ.S n) (ah ρ l) es ty w:=hO.q n _ hH
    show iC (ρ.L n) (ρ.S n) (ah ρ0 (dE N.F.len 1 gs)) es ty w
    rw [i3 1 ρ0 fun j x hx=>(e0 j x hx).1]
    exact hq
  | succ j =>
    obtain⟨a,ha,rfl⟩:=(bL _ _ _).1 (show ab (cr (cd gs)) j=some c from hc)
    have hj:j < Ls.length:=by rw [i1];exact(List.getElem?_eq_some_iff.1 ha).1
    obtain⟨a',nm,j1,j2,j3,j4⟩:=i4 j _ (List.getElem?_eq_getElem hj)
    rw [ha] at j1
    cases j1
    obtain⟨e1,e2⟩:=e0 j _ (List.getElem?_eq_getElem hj)
    rw [Nat.add_comm] at e1 e2
    refine⟨?_,nm,by simpa using j2,?_⟩
    ·show N.F.q a (ρ0.L (j+1)) (ρ0.S (j+1)) w
     rw [e1,e2];exact j3
    ·show kC ρ H nm (ρ0.S (j+1))
     rw [e2];exact j4
end
end Go.Sx
