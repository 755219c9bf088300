import Derived.Test.YtcpdipfepeccgaaGreatDoorSxAr
set_option linter.unusedVariables false
set_option linter.unusedSimpArgs false
set_option maxHeartbeats 4000000
namespace Go.Sx
variable {AV:Type} {P:Program} {N:Env AV}
def Fl (N:Env AV) (H R:Hp AV):Prop:=∀(ρ:Nm) (w:World),Own N ρ H w->∃ρ1,Own N ρ1 R w /\ (∀m,ρ1.L m=ρ.L m) /\ ∀m d k,hget R m=some d->d.fp ρ1 m k->∃m' d',hget H m'=some d' /\ d'.fp ρ m' k
theorem Fl.refl (H:Hp AV):Fl N H H:=fun ρ _ h=>⟨ρ,h,fun _=>rfl,fun m d k h h'=>⟨m,d,h,h'⟩⟩
theorem Fl.trans {A B C:Hp AV} (h1:Fl N A B) (h2:Fl N B C):Fl N A C:=fun ρ w h=>by
 obtain⟨ρ1,o1,l1,f1⟩:=h1 ρ w h
 obtain⟨ρ2,o2,l2,f2⟩:=h2 ρ1 w o1
 refine⟨ρ2,o2,fun m=>(l2 m).trans (l1 m),fun m d k hd hk=>?_⟩
 obtain⟨m',d',hd',hk'⟩:=f2 m d k hd hk
 exact f1 m' d' k hd' hk'
theorem rV {H:Hp AV} {n:Nat} {ns:List Nat} {a:AV} (hq:∀(ρ:Nm) (w:World),Own N ρ H w->N.F.q a (ρ.L n) (dy ρ H n ns) w):Fl N H (gP n ns a 0 H):=fun ρ w hO=>by
 have hL:∀m,(ρ.set n (ρ.L n) (dy ρ H n ns)).L m=ρ.L m:=fun m=>by by_cases e:m=n<;>simp [Nm.set,e]
 have hSn:(ρ.set n (ρ.L n) (dy ρ H n ns)).S n=dy ρ H n ns:=by simp [Nm.set]
 have hSm:∀m,m≠n->(ρ.set n (ρ.L n) (dy ρ H n ns)).S m=ρ.S m:=fun m e=>by simp [Nm.set,e]
 have hd:∀l,ae (ρ.set n (ρ.L n) (dy ρ H n ns)) l=ae ρ l:=fun l=>by
  unfold ae
  exact List.map_congr_left fun c _=>den_congr c fun m _=>hL m
 have apart:∀m (c:Chunk AV) k,m≠n->m ∉ ns->hget H m=some c->c.fp ρ m k->dy ρ H n ns k->False:=by
  rintro m c k h1 h2 hc hk ⟨m',d,h3,hd,hk'⟩
  refine hO.dis m m' c d (fun e=>?_) hc hd k hk hk'
  subst e
  rcases h3 with h3 | h3
  ·exact h1 h3
  ·exact h2 h3
 have sub:∀m d k,hget (gP n ns a 0 H) m=some d->d.fp (ρ.set n (ρ.L n) (dy ρ H n ns)) m k->∃m' d',hget H m'=some d' /\ d'.fp ρ m' k:=fun m d k h hk=>by
  rcases lU h with⟨rfl,rfl⟩ | ⟨h1,h2,h3⟩
  ·have hk:(ρ.set m (ρ.L m) (dy ρ H m ns)).S m k:=hk
   rw [hSn] at hk
   obtain⟨m',d',_,h3,h4⟩:=hk
   exact⟨m',d',h3,h4⟩
  ·rw [aU (hL m) (hSm m h1)] at hk
   exact⟨m,d,h3,hk⟩
 refine⟨ρ.set n (ρ.L n) (dy ρ H n ns),hO.sub ⟨fun m c h=>?_,fun m m' c d hne h h' k hk hk'=>?_,fun g hg=>?_⟩ sub,hL,sub⟩
 ·rcases lU h with⟨rfl,rfl⟩ | ⟨h1,h2,h3⟩
  ·show N.F.q a _ _ _
   rw [hL,hSn];exact hq ρ w hO
  ·exact gi (hO.q m c h3) (hL m) (hSm m h1) (hd _) (fun _ _=>rfl)
 ·rcases lU h with⟨rfl,rfl⟩ | ⟨h1,h2,h3⟩
  ·have hk:(ρ.set m (ρ.L m) (dy ρ H m ns)).S m k:=hk
   rw [hSn] at hk
   rcases lU h' with⟨rfl,rfl⟩ | ⟨g1,g2,g3⟩
   ·exact hne rfl
   ·rw [aU (hL m') (hSm m' g1)] at hk'
    exact apart m' d k g1 g2 g3 hk' hk
  ·rw [aU (hL m) (hSm m h1)] at hk
   rcases lU h' with⟨rfl,rfl⟩ | ⟨g1,g2,g3⟩
   ·have hk':(ρ.set m' (ρ.L m') (dy ρ H m' ns)).S m' k:=hk'
    rw [hSn] at hk'
    exact apart m c k h1 h2 h3 hk hk'
   ·rw [aU (hL m') (hSm m' g1)] at hk'
    exact hO.dis m m' c d hne h3 g3 k hk hk'
 ·have:(ρ.set n (ρ.L n) (dy ρ H n ns)) g=ρ g:=by simp only [Nm.f,hL g]
  rw [this];exact hO.glb g hg
def mz (view:Hp AV->Nat->T (AV×List Nat)):List Nat->Hp AV->T (Hp AV)
 | [],H=>.leaf H
 | n::r,H=>match hget H n with
   | some (.cells _ _)=>(view H n).bind fun x=>mz view r (gP n x.2 x.1 0 H)
   | _=>mz view r H
def uZ (N:Env AV) (view:Hp AV->Nat->T (AV×List Nat)):Prop:=∀(H:Hp AV) (n:Nat) (a:AV) (ns:List Nat),(view H n).val=some (a,ns)->∀(ρ:Nm) (w:World),Own N ρ H w->N.F.q a (ρ.L n) (dy ρ H n ns) w
theorem n8 {view:Hp AV->Nat->T (AV×List Nat)} (hv:uZ N view):∀{l:List Nat} {H R:Hp AV},(mz view l H).val=some R->Fl N H R
 | [],H,R,h=>by
   simp only [mz,T.val,Option.some.injEq] at h
   subst h
   exact Fl.refl H
 | n::r,H,R,h=>by
   simp only [mz] at h
   split at h
   ·obtain⟨⟨a,ns⟩,h1,h2⟩:=T.bind_some h
    exact(rV (hv H n a ns h1)).trans (n8 hv h2)
   ·exact n8 hv h
def dX:Hp AV->Option (List AV)
 | []=>some []
 | none::r=>dX r
 | some (.abs a)::r=>match dX r with | some l=>some (a::l) | none=>none
 | some _::_=>none
def rE:Hp AV->Nat->Nat
 | [],_=>0
 | _::_,0=>0
 | none::r,n+1=>rE r n
 | some _::r,n+1=>rE r n+1
def lJ:Hp AV->Nat->Nat
 | [],_=>0
 | none::r,j=>lJ r j+1
 | some _::_,0=>0
 | some _::r,j+1=>lJ r j+1
theorem tx:∀{H:Hp AV} {l:List AV},dX H=some l->∀(j:Nat) (a:AV),l[j]?=some a->hget H (lJ H j)=some (.abs a)
 | [],l,h,j,a,h'=>by simp only [dX,Option.some.injEq] at h;subst h;simp at h'
 | none::r,l,h,j,a,h'=>tx (H:=r) (by simpa [dX] using h) j a h'
 | some (.cells _ _)::r,l,h,j,a,h'=>by simp [dX] at h
 | some (.vec _ _ _)::r,l,h,j,a,h'=>by simp [dX] at h
 | some .dead::r,l,h,j,a,h'=>by simp [dX] at h
 | some (.abs b)::r,l,h,j,a,h'=>by
   simp only [dX] at h
   split at h
   ·rename_i q hq
    cases h
    cases j with
    | zero=>simp only [List.getElem?_cons_zero,Option.some.injEq] at h';subst h';rfl
    | succ j=>exact tx (H:=r) hq j a (by simpa using h')
   ·cases h
theorem uD:∀(H:Hp AV) (n:Nat) (c:Chunk AV),hget H n=some c->lJ H (rE H n)=n
 | [],n,c,h=>by cases n<;>simp [hget] at h
 | none::r,0,c,h=>by simp [hget] at h
 | some x::r,0,c,h=>rfl
 | none::r,n+1,c,h=>by
   simp only [rE,lJ]
   rw [uD r n c h]
 | some x::r,n+1,c,h=>by
   simp only [rE,lJ]
   rw [uD r n c h]
theorem Ic {H:Hp AV} {l:List AV} (h:dX H=some l):∀{i j:Nat},i < l.length->j < l.length->lJ H i=lJ H j->i=j:=by
 induction H generalizing l with
 | nil=>intro i j hi _ _;simp only [dX,Option.some.injEq] at h;subst h;simp at hi
 | cons x r ih =>
   intro i j hi hj e
   cases x with
   | none=>exact ih (l:=l) (by simpa [dX] using h) hi hj (by simpa [lJ] using e)
   | some x =>
     cases x with
     | abs b =>
       simp only [dX] at h
       split at h
       ·rename_i q hq
        cases h
        cases i with
        | zero=>cases j with
          | zero=>rfl
          | succ j=>simp [lJ] at e
        | succ i=>cases j with
          | zero=>simp [lJ] at e
          | succ j=>exact congrArg (·+1) (ih hq (by simpa using hi) (by simpa using hj) (by simpa [lJ] using e))
       ·cases h
     | cells _ _=>simp [dX] at h
     | vec _ _ _=>simp [dX] at h
     | dead=>simp [dX] at h
def vY (L:Nat) (rest:Hp AV) (n:Nat):Nat:=match Nat.blt n L with
 | true=>n
 | false=>L+rE rest (n - L)
def jm (isS:AV->Nat->Bool):Nat->List Bool->Hp AV->Option (Hp AV)
 | _,[],H=>some H
 | i,true::m,some (.abs a)::r=>match isS a i with | true=>jm isS (i+1) m r | false=>none
 | i,false::m,none::r=>jm isS (i+1) m r
 | _,_,_=>none
theorem nF {isS:AV->Nat->Bool} {sn:Nat->AV} (hs:∀a i,isS a i=true->a=sn i):∀{M:List Bool} {i:Nat} {H R:Hp AV},jm isS i M H=some R->H=aX sn i M++R
 | [],i,H,R,h=>by simp only [jm,Option.some.injEq] at h;subst h;rfl
 | true::m,i,some (.abs a)::r,R,h=>by
   simp only [jm] at h
   split at h
   ·rename_i ha
    rw [nF hs h,hs a i ha];rfl
   ·cases h
 | false::m,i,none::r,R,h=>by
   simp only [jm] at h
   rw [nF hs h];rfl
 | true::m,i,[],R,h=>by simp [jm] at h
 | true::m,i,none::r,R,h=>by simp [jm] at h
 | true::m,i,some (.cells _ _)::r,R,h=>by simp [jm] at h
 | true::m,i,some (.vec _ _ _)::r,R,h=>by simp [jm] at h
 | true::m,i,some .dead::r,R,h=>by simp [jm] at h
 | false::m,i,[],R,h=>by simp [jm] at h
 | false::m,i,some _::r,R,h=>by simp [jm] at h
def jF:Nat->Hp AV->Option (List AV×Hp AV)
 | 0,H=>some ([],H)
 | n+1,some (.abs a)::r=>match jF n r with
   | some (l,q)=>some (a::l,q)
   | none=>none
 | _+1,_=>none
theorem re:∀{k:Nat} {H:Hp AV} {l:List AV} {R:Hp AV},jF k H=some (l,R)->H=bq l++R /\ l.length=k
 | 0,H,l,R,h=>by simp only [jF,Option.some.injEq,Prod.mk.injEq] at h;obtain⟨rfl,rfl⟩:=h;exact⟨rfl,rfl⟩
 | n+1,[],l,R,h=>by simp [jF] at h
 | n+1,none::r,l,R,h=>by simp [jF] at h
 | n+1,some (.cells _ _)::r,l,R,h=>by simp [jF] at h
 | n+1,some (.vec _ _ _)::r,l,R,h=>by simp [jF] at h
 | n+1,some .dead::r,l,R,h=>by simp [jF] at h
 | n+1,some (.abs a)::r,l,R,h=>by
   simp only [jF] at h
   split at h
   ·rename_i l' q hq
    cases h
    obtain⟨rfl,h2⟩:=re hq
    exact⟨rfl,by simp [h2]⟩
   ·cases h
def NL (isS:AV->Nat->Bool) (M:List Bool) (k:Nat) (r:SV×Hp AV):T (SV×List AV×List AV):=match clV r.2 r.1 with
 | false=>.fail "pack: value"
 | true=>match jm isS 0 M r.2 with
   | none=>.fail "pack: variables"
   | some H=>match jF k H with
     | none=>.fail "pack: objects"
     | some (l,q)=>match dX q with
       | none=>.fail "pack: no object"
       | some nw=>.leaf (r.1.ren (vY (M.length+k) q),l,nw)
def na:Hp AV->Hp AV
 | []=>[]
 | some .dead::r=>none::na r
 | x::r=>x::na r
theorem dL:∀{H:Hp AV} {n:Nat} {c:Chunk AV},hget (na H) n=some c->hget H n=some c
 | [],n,c,h=>by cases n<;>simp [na,hget] at h
 | none::r,0,c,h=>by simp [na,hget] at h
 | none::r,n+1,c,h=>dL (H:=r) h
 | some .dead::r,0,c,h=>by simp [na,hget] at h
 | some .dead::r,n+1,c,h=>dL (H:=r) h
 | some (.cells _ _)::r,0,c,h=>h
 | some (.cells _ _)::r,n+1,c,h=>dL (H:=r) h
 | some (.vec _ _ _)::r,0,c,h=>h
 | some (.vec _ _ _)::r,n+1,c,h=>dL (H:=r) h
 | some (.abs _)::r,0,c,h=>h
 | some (.abs _)::r,n+1,c,h=>dL (H:=r) h
theorem L8 (H:Hp AV):Fl N H (na H):=fun ρ w hO =>
 ⟨ρ,hO.sub ⟨fun n c h=>hO.q n c (dL h),fun n m c d hne h h' k hk hk'=>hO.dis n m c d hne (dL h) (dL h') k hk hk',hO.glb⟩ (fun n c k h hk=>⟨n,c,dL h,hk⟩),fun _=>rfl,fun m d k h hk=>⟨m,d,dL h,hk⟩⟩
def xe (L:Nat) (ks:List Nat):Nat->Hp AV->Hp AV
 | _,[]=>[]
 | i,x::r=>(match Nat.blt i L with | true=>x | false=>match hasN ks i with | true=>x | false=>none)::xe L ks (i+1) r
theorem iy {L:Nat} {ks:List Nat}:∀{H:Hp AV} {i n:Nat} {c:Chunk AV},hget (xe L ks i H) n=some c->hget H n=some c
 | [],i,n,c,h=>by cases n<;>simp [xe,hget] at h
 | x::r,i,0,c,h=>by
   have h:(match Nat.blt i L with | true=>x | false=>match hasN ks i with | true=>x | false=>none)=some c:=h
   show x=some c
   split at h
   ·exact h
   ·split at h
    ·exact h
    ·cases h
 | x::r,i,n+1,c,h=>iy (H:=r) (i:=i+1) (n:=n) h
theorem L9 (L:Nat) (ks:List Nat) (H:Hp AV):Fl N H (xe L ks 0 H):=fun ρ w hO =>
 ⟨ρ,hO.sub ⟨fun n c h=>hO.q n c (iy h),fun n m c d hne h h' k hk hk'=>hO.dis n m c d hne (iy h) (iy h') k hk hk',hO.glb⟩ (fun n c k h hk=>⟨n,c,iy h,hk⟩),fun _=>rfl,fun m d k h hk=>⟨m,d,iy h,hk⟩⟩
def ou (view:Hp AV->Nat->T (AV×List Nat)) (isS:AV->Nat->Bool) (M:List Bool) (k:Nat) (ns:List Nat) (r:SV×Hp AV):T (SV×List AV×List AV) :=
 (mz view (ns++namesV r.1) r.2).bind fun H=>NL isS M k (r.1,xe (M.length+k) (namesV r.1) 0 (na H))
theorem iz {view:Hp AV->Nat->T (AV×List Nat)} (hview:uZ N view) {isS:AV->Nat->Bool} {sn:Nat->AV} (hs:∀a i,isS a i=true->a=sn i) {M:List Bool} (hGM:N.G=M.length) {l:List AV} {ns:List Nat} {f:FuncId} {args:List SV} {H1 H2:Hp AV} {v v':SV} {l' nw:List AV}
 (hargs:∀x∈args,ClV (aX sn 0 M++bq l) x) (ho:Opn N (aX sn 0 M++bq l) H1) (h01:∀m c,hget (aX sn 0 M++bq l) m=some c->∃c',hget H1 m=some c') (hc:Ctr P N f args H1 v H2)
 (hr:(ou view isS M l.length ns (v,H2)).val=some (v',l',nw)):Ctr P N f args (aX sn 0 M++bq l) v' (aX sn 0 M++bq (l'++nw)) /\ l'.length=l.length:=by
 unfold ou at hr
 obtain⟨H30,h3,hr⟩:=T.bind_some hr
 have hfl:=((n8 hview h3).trans (L8 H30)).trans (L9 (M.length+l.length) (namesV v) (na H30))
 generalize xe (M.length+l.length) (namesV v) 0 (na H30)=H3 at hr hfl
 unfold NL at hr
 split at hr
 ·simp [T.val] at hr
 rename_i hcl
 have hcl:ClV H3 v:=mJ.1 hcl
 split at hr
 ·simp [T.val] at hr
 rename_i H4 h4
 have e4:H3=aX sn 0 M++H4:=nF hs h4
 split at hr
 ·simp [T.val] at hr
 rename_i lq q h5
 obtain⟨e5,hl5⟩:=re h5
 split at hr
 ·simp [T.val] at hr
 rename_i nq h6
 simp only [T.val,Option.some.injEq,Prod.mk.injEq] at hr
 obtain⟨rfl,rfl,rfl⟩:=hr
 subst e5
 refine⟨?_,hl5⟩
 let L:=M.length+l.length
 let π:=vY L q
 have mS:(aX sn 0 M).length=M.length:=cC sn M 0
 have lenA:(aX sn 0 M++bq lq).length=L:=by rw [List.length_append,mS,l7,hl5]
 have g3:∀n,hget H3 n=if n < L then hget (aX sn 0 M++bq lq) n else hget q (n - L):=fun n=>by
  rw [e4,<- List.append_assoc,ax,lenA]
 have gR:∀n,hget (aX sn 0 M++bq (lq++nq)) n=if n < L then hget (aX sn 0 M++bq lq) n else hget (bq nq) (n - L):=fun n=>by
  rw [show bq (lq++nq)=bq lq++bq nq by simp [bq],<- List.append_assoc,ax,lenA]
 have isA:∀n c,hget (aX sn 0 M++bq lq) n=some c->∃a,c=.abs a:=fun n c h=>by
  rw [ax] at h
  split at h
  ·exact⟨_,((ga sn M 0 n c).1 h).2⟩
  ·obtain⟨a,_,h⟩:=(aW _ _ _).1 h;exact⟨a,h⟩
 have πlt:∀n,n < L->π n=n:=fun n h=>by
  show vY L q n=n
  unfold vY
  have e:Nat.blt n L=true:=by simpa [Nat.blt_eq] using h
  rw [e]
 have πge:∀n,¬n < L->π n=L+rE q (n - L):=fun n h=>by
  show vY L q n=_
  unfold vY
  have e:Nat.blt n L=false:=by
   cases e:Nat.blt n L with
   | false=>rfl
   | true=>rw [Nat.blt_eq] at e;omega
  rw [e]
 let σ:Nat->Nat:=fun n=>if n < L then n else L+lJ q (n - L)
 have src:∀n c,hget (aX sn 0 M++bq (lq++nq)) n=some c->hget H3 (σ n)=some c /\ ∃a,c=.abs a:=fun n c h=>by
  rw [gR] at h
  show hget H3 (if n < L then n else L+lJ q (n - L))=some c /\ _
  split at h
  ·rename_i hn
   rw [if_pos hn,g3,if_pos hn];exact⟨h,isA n c h⟩
  ·rename_i hn
   obtain⟨a,h1,rfl⟩:=(aW _ _ _).1 h
   rw [if_neg hn,g3,if_neg (by omega),Nat.add_sub_cancel_left]
   exact⟨tx h6 _ a h1,a,rfl⟩
 have σinj:∀n m c d,hget (aX sn 0 M++bq (lq++nq)) n=some c->hget (aX sn 0 M++bq (lq++nq)) m=some d->σ n=σ m->n=m:=fun n m c d hn hm e=>by
  have e:(if n < L then n else L+lJ q (n - L))=(if m < L then m else L+lJ q (m - L)):=e
  have ln:∀n c,¬n < L->hget (aX sn 0 M++bq (lq++nq)) n=some c->n - L < nq.length:=fun n c hn h=>by
   rw [gR,if_neg hn] at h
   obtain⟨a,h1,_⟩:=(aW _ _ _).1 h
   exact(List.getElem?_eq_some_iff.1 h1).1
  by_cases h1:n < L<;>by_cases h2:m < L
  ·rw [if_pos h1,if_pos h2] at e;exact e
  ·rw [if_pos h1,if_neg h2] at e;omega
  ·rw [if_neg h1,if_pos h2] at e;omega
  ·rw [if_neg h1,if_neg h2] at e
   have:=Ic h6 (ln n c h1 hn) (ln m d h2 hm) (by omega)
   omega
 have σπ:∀n c,hget H3 n=some c->σ (π n)=n:=fun n c h=>by
  by_cases hn:n < L
  ·rw [πlt n hn];exact if_pos hn
  ·rw [πge n hn]
   show (if L+rE q (n - L) < L then _ else L+lJ q (L+rE q (n - L) - L))=n
   rw [if_neg (by omega),Nat.add_sub_cancel_left]
   rw [g3,if_neg hn] at h
   rw [uD q _ c h];omega
 have up:∀n c,hget H3 n=some c->∃d,hget (aX sn 0 M++bq (lq++nq)) (π n)=some d:=fun n c h=>by
  by_cases hn:n < L
  ·rw [πlt n hn,gR,if_pos hn]
   rw [g3,if_pos hn] at h
   exact⟨c,h⟩
  ·rw [πge n hn,gR,if_neg (by omega),Nat.add_sub_cancel_left]
   rw [g3,if_neg hn] at h
   have:∀(H:Hp AV) (l:List AV),dX H=some l->∀n c,hget H n=some c->rE H n < l.length:=by
    intro H
    induction H with
    | nil=>intro l _ n c h;cases n<;>simp [hget] at h
    | cons x r ih =>
      intro l hl n c h
      cases x with
      | none =>
        cases n with
        | zero=>simp [hget] at h
        | succ n=>exact ih l (by simpa [dX] using hl) n c h
      | some x =>
        cases x with
        | abs b =>
          simp only [dX] at hl
          split at hl
          ·rename_i p hp
           cases hl
           cases n with
           | zero=>simp [rE]
           | succ n=>simpa [rE] using ih p hp n c h
          ·cases hl
        | cells _ _=>simp [dX] at hl
        | vec _ _ _=>simp [dX] at hl
        | dead=>simp [dX] at hl
   have hlt:=this q nq h6 _ c h
   exact⟨_,(aW _ _ _).2 ⟨_,List.getElem?_eq_getElem hlt,rfl⟩⟩
 obtain⟨hv2,_,hcall⟩:=hc
 have clR:bB N (aX sn 0 M++bq (lq++nq)):=by
  refine⟨fun n c h=>?_,trivial⟩
  obtain⟨_,a,rfl⟩:=src n c h
  intro c hc;cases hc
 have clv:ClV (aX sn 0 M++bq (lq++nq)) (v.ren π):=hcl.ren up
 have dom0:∀m c,hget (aX sn 0 M++bq l) m=some c->m < L /\ ∃d,hget (aX sn 0 M++bq (lq++nq)) m=some d:=fun m c h=>by
  have hm:m < L:=by
   have:=aH h
   rw [List.length_append,mS,l7] at this
   exact this
  refine⟨hm,?_⟩
  rw [gR,if_pos hm]
  rw [ax,mS] at h ⊢
  split at h
  ·rename_i hm'
   rw [if_pos hm'];exact⟨c,h⟩
  ·rename_i hm'
   rw [if_neg hm']
   obtain⟨a,h1,_⟩:=(aW _ _ _).1 h
   have:m - M.length < lq.length:=by rw [hl5];exact(List.getElem?_eq_some_iff.1 h1).1
   exact⟨_,(aW _ _ _).2 ⟨_,List.getElem?_eq_getElem this,rfl⟩⟩
 refine⟨clv,clR,fun ρ w hO=>?_⟩
 obtain⟨ρ1,o1,l1,f1⟩:=ho ρ w hO
 have hmap:args.map (SV.den ρ1)=args.map (SV.den ρ):=List.map_congr_left fun x hx=>SV.den_congr (hargs x hx) fun m c h=>l1 m (aH h)
 rw [<- hmap]
 refine(hcall ρ1 w o1).mono ?_
 rintro e w' ⟨ρ2,rfl,o2,hE⟩
 obtain⟨ρ3,o3,l3,f3⟩:=hfl ρ2 w' o2
 let ρ4:Nm:=⟨fun n=>ρ3.L (σ n),fun n=>ρ3.S (σ n)⟩
 have L4:∀n,n < L->ρ4.L n=ρ3.L n:=fun n h=>by
  show ρ3.L (if n < L then n else _)=_
  rw [if_pos h]
 have fp4:∀n (c:Chunk AV),(∃a,c=.abs a)->c.fp ρ4 n=c.fp ρ3 (σ n):=fun n c ⟨a,e⟩=>by subst e;rfl
 refine⟨ρ4,?_,hO.up2 ⟨⟨fun n c h=>?_,fun n m c d hne h h' k hk hk'=>?_,fun g hg=>?_⟩,⟨fun m c h=>(dom0 m c h).2,fun m c h=>?_,fun m hm h=>?_,?_,fun k hk hno=>?_,fun m c k h hk=>?_,hE.os,hE.tape,hE.output,hE.size⟩⟩⟩
 ·congr 1
  rw [SV.den_ren]
  have e1:v.den (ρ4.ren π)=v.den ρ3:=SV.den_congr hcl fun n c h=>by
   show ρ3.L (σ (π n))=_
   rw [σπ n c h]
  have e2:v.den ρ3=v.den ρ2:=SV.den_congr hv2 fun n c _=>l3 n
  rw [e1,e2]
 ·obtain⟨h1,a,rfl⟩:=src n c h
  exact o3.q (σ n) _ h1
 ·obtain⟨h1,ha⟩:=src n c h
  obtain⟨h2,hb⟩:=src m d h'
  rw [fp4 n c ha] at hk
  rw [fp4 m d hb] at hk'
  exact o3.dis (σ n) (σ m) c d (fun e=>hne (σinj n m c d h h' e)) h1 h2 k hk hk'
 ·have:ρ4 g=ρ3 g:=by
   show (ρ4.L g).b=(ρ3.L g).b
   rw [L4 g (by omega)]
  rw [this];exact o3.glb g hg
 ·obtain⟨hm,_⟩:=dom0 m c h
  obtain⟨c1,h1⟩:=h01 m c h
  rw [L4 m hm,l3,hE.agree m c1 h1,l1 m (aH h)]
 ·have hm':m < L:=by
   rw [List.length_append,mS,l7] at hm
   exact hm
  rw [gR,if_pos hm']
  rw [ax,mS] at h ⊢
  split
  ·rename_i h1;rw [if_pos h1] at h;exact h
  ·rename_i h1
   rw [if_neg h1] at h
   exfalso
   have:m - M.length < l.length:=by omega
   have h2:=(aW l (m - M.length) _).2 ⟨_,List.getElem?_eq_getElem this,rfl⟩
   rw [h] at h2;cases h2
 ·rw [List.length_append,List.length_append,l7,l7,List.length_append];omega
 ·refine hE.frame k hk fun m d hd hk'=>?_
  obtain⟨m',d',h1,h2⟩:=f1 m d k hd hk'
  exact hno m' d' h1 h2
 ·obtain⟨h1,ha⟩:=src m c h
  rw [fp4 m c ha] at hk
  obtain⟨m',d',h2,h3⟩:=f3 (σ m) c k h1 hk
  rcases hE.new m' d' k h2 h3 with h4 | ⟨m'',d'',h4,h5⟩
  ·exact .inl h4
  ·exact .inr (f1 m'' d'' k h4 h5)
end Go.Sx

namespace Go.Sx
variable {AV:Type} {P:Program} {N:Env AV}
def iI (ρ:Nm) (H:Hp AV) (nm:Option Nat) (S:Nat->Prop):Prop:=match nm with
 | some m=>∃d,hget H m=some d /\ ∀k,S k↔d.fp ρ m k
 | none=>∀k,¬S k
def cr:List (Option Nat)->List Nat
 | []=>[]
 | some n::r=>n::cr r
 | none::r=>cr r
theorem iM {n:Nat}:∀{l:List (Option Nat)},n∈cr l↔some n∈l
 | []=>by simp [cr]
 | some m::r=>by simp [cr,iM (l:=r)]
 | none::r=>by simp [cr,iM (l:=r)]
theorem tM:∀{l:List (Option Nat)},(cr l).Nodup->∀{i j m:Nat},l[i]?=some (some m)->l[j]?=some (some m)->i=j
 | [],_,i,j,m,h,_=>by simp at h
 | x::r,hd,i,j,m,h1,h2=>by
   have hr:(cr r).Nodup:=by
    cases x with
    | none=>exact hd
    | some y=>exact(List.nodup_cons.1 hd).2
   have no:∀k,x=some m->r[k]?=some (some m)->False:=fun k e h=>by
    subst e
    exact(List.nodup_cons.1 hd).1 (iM.2 (List.mem_of_getElem? h))
   cases i with
   | zero =>
     simp only [List.getElem?_cons_zero,Option.some.injEq] at h1
     cases j with
     | zero=>rfl
     | succ j=>exact(no j h1 (by simpa using h2)).elim
   | succ i =>
     simp only [List.getElem?_cons_succ] at h1
     cases j with
     | zero =>
       simp only [List.getElem?_cons_zero,Option.some.injEq] at h2
       exact(no i h2 h1).elim
     | succ j=>exact congrArg (·+1) (tM hr h1 (by simpa using h2))
theorem p9 {ρ:Nm} {H:Hp AV} {w:World} (hO:Own N ρ H w) {K:Hp AV} (ρ0:Nm) {n:Nat} {ps:List (Option Nat)} (hnd:(n::cr ps).Nodup)
 (hK:∀i m,(some n::ps)[i]?=some (some m)->∃c,hget K i=some c)
 (h:∀i c,hget K i=some c->c.q N ρ0 i w /\ ∃x,(some n::ps)[i]?=some x /\ iI ρ H x (c.fp ρ0 i)):fI N K (ρ0.L 0) (dy ρ H n (cr ps)) w:=by
 have hnd:(cr (some n::ps)).Nodup:=hnd
 refine⟨ρ0,rfl,⟨fun i c hc=>(h i c hc).1,fun i j c d hij hc hd k hk hk'=>?_⟩,fun k=>?_⟩
 ·obtain⟨x,e1,p1⟩:=(h i c hc).2
  obtain⟨y,e2,p2⟩:=(h j d hd).2
  unfold iI at p1 p2
  cases x with
  | none=>exact p1 k hk
  | some m =>
    cases y with
    | none=>exact p2 k hk'
    | some m' =>
      obtain⟨c',g1,g2⟩:=p1
      obtain⟨d',g3,g4⟩:=p2
      refine hO.dis m m' c' d' (fun e=>hij ?_) g1 g3 k ((g2 k).1 hk) ((g4 k).1 hk')
      subst e
      exact tM hnd e1 e2
 ·constructor
  ·rintro ⟨m,d,h1,h2,h3⟩
   have hm:some m∈some n::ps:=by
    rcases h1 with rfl | h1
    ·exact List.mem_cons_self
    ·exact List.mem_cons_of_mem _ (iM.1 h1)
   obtain⟨i,hi⟩:=List.mem_iff_getElem?.1 hm
   obtain⟨c,hc⟩:=hK i m hi
   obtain⟨x,e1,p1⟩:=(h i c hc).2
   rw [hi] at e1
   cases e1
   obtain⟨d',g1,g2⟩:=p1
   rw [h2] at g1
   cases g1
   exact⟨i,c,hc,(g2 k).2 h3⟩
  ·rintro ⟨i,c,h1,h2⟩
   obtain⟨x,e1,p1⟩:=(h i c h1).2
   unfold iI at p1
   cases x with
   | none=>exact absurd h2 (p1 k)
   | some m =>
     obtain⟨d',g1,g2⟩:=p1
     refine⟨m,d',?_,g1,(g2 k).1 h2⟩
     rcases List.mem_cons.1 (List.mem_of_getElem? e1) with e | e
     ·cases e;exact .inl rfl
     ·exact .inr (iM.2 e)
def xx {α:Type} (K:AK α) (ex:AV->Option (List α)) (H:Hp AV):Cell->Option (List α×Nat×Option Nat)
 | .snil=>some ([],0,none)
 | .vs n (o+1) len es _=>match Nat.beq es K.es with
   | false=>none
   | true=>match hget H n with
     | some (.abs a)=>match ex a with
       | some l=>some (l.drop (o+1),(match Nat.ble (o+1) l.length with | true=>len | false=>(l.drop (o+1)).length+1),some n)
       | none=>none
     | _=>none
 | .vs n 0 len es _=>match Nat.beq es K.es with
   | false=>none
   | true=>match hget H n with
     | some (.abs a)=>match ex a with
       | some l=>some (l,len,some n)
       | none=>none
     | some (.vec cs ve ty)=>match Nat.beq ve K.es,Nat.beq ty K.ty with
       | true,true=>match K.decs (cs.length / K.es) cs with
         | some l=>some (l,len,some n)
         | none=>none
       | _,_=>none
     | _=>none
 | _=>none
theorem fb {ρ:Nm} {cs:List Cell} (h:∀c∈cs,c.name=none):ae ρ cs=ae Nm.id cs:=by
 unfold ae
 exact List.map_congr_left fun c hc=>den_congr c fun m hm=>by rw [h c hc] at hm;cases hm
theorem vr {α:Type} (K:AK α):∀(k:Nat) (l:List α),K.vals (l.drop k)=(K.vals l).drop (k * K.es)
 | 0,l=>by simp
 | k+1,[]=>by simp [AK.vals]
 | k+1,a::r=>by
   have e:K.vals (a::r)=ae Nm.id (K.enc a)++K.vals r:=rfl
   have h:(ae Nm.id (K.enc a)).length=K.es:=by simp [ae,K.len a]
   rw [List.drop_succ_cons,vr K k r,e,List.drop_append]
   have h1:(ae Nm.id (K.enc a)).drop ((k+1) * K.es)=[]:=List.drop_eq_nil_of_le (by rw [h,Nat.succ_mul];omega)
   rw [h1,h,List.nil_append]
   congr 1
   rw [Nat.succ_mul];omega
theorem A3 {α:Type} {K:AK α} {l:List α} {o n:Nat} {ρ:Nm} {H:Hp AV} {w:World} {a:AV} {kn:Bool} (hle:o+1<=l.length) (hq:K.q l (ρ.L n) (ρ.S n) w) (ha:hget H n=some (.abs a)) :
 ∃lc S,(Cell.vs n (o+1) (l.drop (o+1)).length K.es kn).den ρ=aG lc 0 (l.drop (o+1)).length K.es /\ K.q (l.drop (o+1)) lc S w /\ iI ρ H (some n) S:=by
 have hvl:=K.vals_len l
 have hp:=K.pos
 rcases hq with⟨_,h2,_⟩ | ⟨h1,h2,row,h3,h4,h5,h6⟩
 ·exfalso
  rw [h2] at hvl
  have:0 < l.length * K.es:=Nat.mul_pos (by omega) hp
  simp only [List.length_nil] at hvl
  omega
 ·rw [hvl] at h5
  have hc:l.length<=(ρ.L n).c - 1:=Nat.le_of_mul_le_mul_right h5 hp
  have em:(ρ.L n).c - 1=(o+1)+((ρ.L n).c - (o+1) - 1):=by omega
  refine⟨⟨(ρ.L n).b,(ρ.L n).o+(o+1) * K.es,(ρ.L n).c - (o+1)⟩,ρ.S n,?_,.inr ⟨by show 0 < (ρ.L n).c - (o+1);omega,h2,row,h3,?_,?_,fun j v hj=>?_⟩,_,ha,fun k=>Iff.rfl⟩
  ·show aG (ρ.L n) (o+1) _ _=_
   unfold aG
   rw [if_neg (fun h=>by omega),if_neg (fun h=>by have:=h.2;simp only at this;omega)]
   simp only [Nat.zero_mul,Nat.add_zero]
   congr 1
   omega
  ·show (ρ.L n).o+(o+1) * K.es+((ρ.L n).c - (o+1) - 1) * K.es<=row.length
   rw [em,Nat.add_mul] at h4
   omega
  ·show (K.vals (l.drop (o+1))).length<=((ρ.L n).c - (o+1) - 1) * K.es
   rw [K.vals_len,List.length_drop]
   exact Nat.mul_le_mul_right _ (by omega)
  ·rw [vr,List.getElem?_drop] at hj
   have:=h6 _ _ hj
   show row[(ρ.L n).o+(o+1) * K.es+j]?=some v
   rw [<- this,Nat.add_assoc]
theorem pK {α:Type} {K:AK α} {ex:AV->Option (List α)} (hex:∀a l,ex a=some l->∀lc S w,N.F.q a lc S w->K.q l lc S w) {H:Hp AV} {c:Cell} {l:List α} {len:Nat} {nm:Option Nat} (h:xx K ex H c=some (l,len,nm)) (hlen:len=l.length)
 {ρ:Nm} {w:World} (hO:Own N ρ H w):∃lc S,c.den ρ=aG lc 0 l.length K.es /\ K.q l lc S w /\ iI ρ H nm S:=by
 unfold xx at h
 split at h
 ·cases h
  refine⟨⟨0,0,0⟩,fun _=>False,?_,.inl ⟨by decide,rfl,fun k hk=>hk⟩,fun k hk=>hk⟩
  simp [Cell.den,aG]
 ·rename_i n o len' es kn
  cases he:Nat.beq es K.es with
  | false=>rw [he] at h;cases h
  | true =>
  rw [he] at h
  have he:=(af _ _).1 he
  subst he
  dsimp only at h
  split at h
  ·rename_i a ha
   split at h
   ·rename_i l' hl
    simp only [Option.some.injEq,Prod.mk.injEq] at h
    obtain⟨rfl,hln,rfl⟩:=h
    have hle:o+1<=l'.length:=by
     cases hb:Nat.ble (o+1) l'.length with
     | true=>exact Nat.le_of_ble_eq_true hb
     | false=>rw [hb] at hln;dsimp only at hln;omega
    rw [Nat.ble_eq_true_of_le hle] at hln
    dsimp only at hln
    rw [hln,hlen]
    exact A3 hle (hex a _ hl _ _ _ (hO.q n _ ha)) ha
   ·cases h
  ·cases h
 ·rename_i n len' es kn
  cases he:Nat.beq es K.es with
  | false=>rw [he] at h;cases h
  | true =>
  rw [he] at h
  have he:=(af _ _).1 he
  subst he
  dsimp only at h
  split at h
  ·rename_i a ha
   split at h
   ·rename_i l' hl
    simp only [Option.some.injEq,Prod.mk.injEq] at h
    obtain⟨rfl,rfl,rfl⟩:=h
    refine⟨ρ.L n,ρ.S n,?_,hex a _ hl _ _ _ (hO.q n _ ha),_,ha,fun k=>Iff.rfl⟩
    rw [<- hlen];rfl
   ·cases h
  ·rename_i cs ve ty ha
   split at h
   ·rename_i h1 h2
    have h1:=(af _ _).1 h1
    have h2:=(af _ _).1 h2
    subst h1 h2
    split at h
    ·rename_i l' hl
     simp only [Option.some.injEq,Prod.mk.injEq] at h
     obtain⟨rfl,rfl,rfl⟩:=h
     obtain⟨v1,v2⟩:=K.decs_ok hl
     have hq:fQ (ρ.L n) (ρ.S n) (ae ρ cs) K.es K.ty w:=hO.q n _ ha
     rw [fb v2,<- v1] at hq
     refine⟨ρ.L n,ρ.S n,?_,hq,_,ha,fun k=>Iff.rfl⟩
     rw [<- hlen];rfl
    ·cases h
   ·cases h
  ·cases h
 ·cases h
end Go.Sx

namespace Go.Sx
variable {AV:Type} {P:Program} {N:Env AV}
def tC:Cell->Cell
 | .bl b=>.bt b
 | .il k n=>.it k n
 | .iv k n _ _=>.it k n
 | .ir k n _ _ _=>.it k n
 | .st s=>.sv s
 | c=>c
theorem pa (ρ:Nm) (c:Cell):(tC c).den ρ=c.den ρ:=by cases c<;>rfl
theorem qa (c:Cell):(tC c).name=c.name:=by cases c<;>rfl
def rD:List Cell->List Cell
 | []=>[]
 | c::r=>tC c::rD r
theorem tA (l:List Cell):rD l=l.map tC:=by induction l<;>simp [rD, *]
theorem lK (ρ:Nm) (l:List Cell):ae ρ (rD l)=ae ρ l:=by
 rw [tA];unfold ae;rw [List.map_map]
 exact List.map_congr_left fun c _=>pa ρ c
def ET:V1->V1
 | .c x=>.c (tC x)
 | .agg l=>.agg (rD l)
theorem zK (ρ:Nm) (x:V1):(ET x).den ρ=x.den ρ:=by
 cases x with
 | c x=>exact pa ρ x
 | agg l=>show Value.agg _=_;rw [lK];rfl
def zJ:List V1->List V1
 | []=>[]
 | x::r=>ET x::zJ r
theorem wm (l:List V1):zJ l=l.map ET:=by induction l<;>simp [zJ, *]
def Ig:SV->SV
 | .v x=>.v (ET x)
 | .tup l=>.tup (zJ l)
 | x=>x
theorem Ie (ρ:Nm) (x:SV):(Ig x).den ρ=x.den ρ:=by
 cases x with
 | v x=>exact zK ρ x
 | tup l =>
   show Value.tuple _=Value.tuple _
   rw [wm,List.map_map]
   have e:l.map (V1.den ρ ∘ ET)=l.map (V1.den ρ):=List.map_congr_left fun x _=>zK ρ x
   rw [e]
 | _=>rfl
theorem Du {H:Hp AV} {x:V1} (h:ClV1 H x):ClV1 H (ET x):=by
 intro c hc n hn
 cases x with
 | c x =>
   have hc:c∈[tC x]:=hc
   rw [List.mem_singleton.1 hc,qa] at hn
   exact h x (List.mem_singleton.2 rfl) n hn
 | agg l =>
   have hc:c∈rD l:=hc
   rw [tA] at hc
   obtain⟨d,hd,rfl⟩:=List.mem_map.1 hc
   rw [qa] at hn
   exact h d hd n hn
theorem Lh {H:Hp AV} {x:SV} (h:ClV H x):ClV H (Ig x):=by
 cases x with
 | v x=>exact Du h
 | tup l =>
   intro y hy
   have hy:y∈zJ l:=hy
   rw [wm] at hy
   obtain⟨z,hz,rfl⟩:=List.mem_map.1 hy
   exact Du (h z hz)
 | unk=>exact h
 | clo f l=>exact h
def B4 {β:Type}:SV×β->SV×β
 | (v,r)=>(Ig v,r)
theorem mH {f:FuncId} {args:List SV} {H R:Hp AV} {v:SV} (hc:Ctr P N f args H v R):Ctr P N f args H (Ig v) R :=
 kJ hc (Lh hc.1) fun ρ=>Ie ρ v
end Go.Sx

namespace Go.Sx
variable {AV:Type} {P:Program} {N:Env AV}
inductive GC (AV:Type) where
 | p (c:Cell) | s (a:AV) (es:Nat) | r (a:AV) | i (t:TypeId) (a:AV)
def cI (ln:AV->Nat):Nat->List (GC AV)->List Cell
 | _,[]=>[]
 | k,.p c::r=>c::cI ln k r
 | k,.s a es::r=>.vs k 0 (ln a) es false::cI ln (k+1) r
 | k,.r _::r=>.ptr k 0::cI ln (k+1) r
 | k,.i t _::r=>.ifc t (.ptr k 0)::cI ln (k+1) r
def bP:List (GC AV)->List AV
 | []=>[]
 | .p _::r=>bP r
 | .s a _::r=>a::bP r
 | .r a::r=>a::bP r
 | .i _ a::r=>a::bP r
def cD (ln:AV->Nat) (ty:TypeId) (cs:List (GC AV)):Hp AV:=some (.cells (cI ln 1 cs) ty)::bq (bP cs)
abbrev Rd (AV:Type):=Hp AV->Cell->Option (AV×Nat×Option Nat)
def Je (F:Intf AV) (H:Hp AV):Option (Rd AV×Nat)->Cell->Option (GC AV×Bool×List (Option Nat))
 | some (rd,es),c=>match rd H c with
   | some (a,len,nm)=>some (.s a es,decide (len=F.len a),[nm])
   | none=>none
 | none,.ptr m 0=>match hget H m with
   | some (.abs a)=>some (.r a,true,[some m])
   | _=>none
 | none,.ifc t (.ptr m 0)=>match hget H m with
   | some (.abs a)=>some (.i t a,true,[some m])
   | _=>none
 | none,c=>match c.name with
   | none=>some (.p (tC c),true,[])
   | some _=>none
def gx (F:Intf AV) (H:Hp AV):List (Option (Rd AV×Nat))->List Cell->Option (List (GC AV)×Bool×List (Option Nat))
 | [],[]=>some ([],true,[])
 | k::ks,c::cs=>match Je F H k c with
   | some (g,b,ns)=>match gx F H ks cs with
     | some (gs,b',ns')=>some (g::gs,(match b with | true=>b' | false=>false),ns++ns')
     | none=>none
   | none=>none
 | _,_=>none
def CJ (N:Env AV) (rd:Rd AV) (es:Nat):Prop:=∀H c a len nm,rd H c=some (a,len,nm)->len=N.F.len a->∀ρ w,Own N ρ H w->∃lc S,c.den ρ=aG lc 0 (N.F.len a) es /\ N.F.q a lc S w /\ iI ρ H nm S
def nY (N:Env AV):List (Option (Rd AV×Nat))->Prop
 | []=>True
 | none::r=>nY N r
 | some (rd,es)::r=>CJ N rd es /\ nY N r
theorem oa {H:Hp AV}:∀{ks:List (Option (Rd AV×Nat))} {cs:List Cell} {gs:List (GC AV)} {b:Bool} {ns:List (Option Nat)},nY N ks->gx N.F H ks cs=some (gs,b,ns)->b=true->∀{ρ:Nm} {w:World},Own N ρ H w ->
 ∃Ls:List (Loc×(Nat->Prop)),Ls.length=(bP gs).length /\ ns.length=Ls.length /\ (∀(k:Nat) (ρ0:Nm),(∀j x,Ls[j]?=some x->ρ0.L (k+j)=x.1)->ae ρ0 (cI N.F.len k gs)=ae ρ cs) /\
   ∀(j:Nat) x,Ls[j]?=some x->∃a nm,(bP gs)[j]?=some a /\ ns[j]?=some nm /\ N.F.q a x.1 x.2 w /\ iI ρ H nm x.2
 | [],[],gs,b,ns,hk,h,hb,ρ,w,hO=>by
   simp only [gx,Option.some.injEq,Prod.mk.injEq] at h
   obtain⟨rfl,_,rfl⟩:=h
   exact⟨[],rfl,rfl,fun _ _ _=>rfl,fun j x hx=>by simp at hx⟩
 | [],_::_,gs,b,ns,hk,h,hb,ρ,w,hO=>by simp [gx] at h
 | _::_,[],gs,b,ns,hk,h,hb,ρ,w,hO=>by simp [gx] at h
 | k::ks,c::cs,gs,b,ns,hk,h,hb,ρ,w,hO=>by
   simp only [gx] at h
   split at h
   ·rename_i g b1 ns1 h1
    split at h
    ·rename_i gs' b2 ns2 h2
     simp only [Option.some.injEq,Prod.mk.injEq] at h
     obtain⟨rfl,hbb,rfl⟩:=h
     obtain⟨rfl,rfl⟩:b1=true /\ b2=true:=by cases b1<;>cases b2<;>simp_all
     have hk':nY N ks:=by
      cases k with
      | none=>exact hk
      | some x=>exact hk.2
     obtain⟨Ls,i1,i2,i3,i4⟩:=oa hk' h2 rfl hO
     have one:∀(a:AV) (lc:Loc) (S:Nat->Prop) (nm:Option Nat),bP (g::gs')=a::bP gs'->ns1=[nm]->N.F.q a lc S w->iI ρ H nm S ->
      (∀(k:Nat) (ρ0:Nm),ρ0.L k=lc->∃d,cI N.F.len k (g::gs')=d::cI N.F.len (k+1) gs' /\ d.den ρ0=c.den ρ) ->
      ∃Ls:List (Loc×(Nat->Prop)),Ls.length=(bP (g::gs')).length /\ (ns1++ns2).length=Ls.length /\ (∀(k:Nat) (ρ0:Nm),(∀j x,Ls[j]?=some x->ρ0.L (k+j)=x.1)->ae ρ0 (cI N.F.len k (g::gs'))=ae ρ (c::cs)) /\
        ∀(j:Nat) x,Ls[j]?=some x->∃a nm,(bP (g::gs'))[j]?=some a /\ (ns1++ns2)[j]?=some nm /\ N.F.q a x.1 x.2 w /\ iI ρ H nm x.2:=by
      rintro a lc S nm hp rfl hq hpi hcell
      refine⟨(lc,S)::Ls,by rw [hp];simp [i1],by simp [i2],fun k ρ0 hL=>?_,fun j x hx=>?_⟩
      ·obtain⟨d,e1,e2⟩:=hcell k ρ0 (by have:=hL 0 (lc,S) rfl;simpa using this)
       rw [e1]
       simp only [ae,List.map_cons] at i3 ⊢
       rw [e2,i3 (k+1) ρ0 fun j x hx=>by have:=hL (j+1) x (by simpa using hx);rwa [show k+(j+1)=k+1+j by omega] at this]
      ·rw [hp]
       cases j with
       | zero =>
         simp only [List.getElem?_cons_zero,Option.some.injEq] at hx
         subst hx
         exact⟨a,nm,rfl,rfl,hq,hpi⟩
       | succ j =>
         obtain⟨a',nm',j1,j2,j3,j4⟩:=i4 j x (by simpa using hx)
         exact⟨a',nm',by simpa using j1,by simpa using j2,j3,j4⟩
     unfold Je at h1
     split at h1
     ·rename_i rd es
      split at h1
      ·rename_i a len nm hrd
       simp only [Option.some.injEq,Prod.mk.injEq] at h1
       obtain⟨rfl,hlen,rfl⟩:=h1
       obtain⟨lc,S,q1,q2,q3⟩:=hk.1 H c a len nm hrd (of_decide_eq_true hlen) ρ w hO
       exact one a lc S nm rfl rfl q2 q3 fun k ρ0 e=>⟨_,rfl,by rw [q1,<- e];rfl⟩
      ·cases h1
     ·rename_i m
      split at h1
      ·rename_i a hm
       simp only [Option.some.injEq,Prod.mk.injEq] at h1
       obtain⟨rfl,_,rfl⟩:=h1
       exact one a (ρ.L m) (ρ.S m) (some m) rfl rfl (hO.q m _ hm) ⟨_,hm,fun k=>Iff.rfl⟩ fun k ρ0 e=>⟨_,rfl,by simp only [Cell.den,Nm.f,e]⟩
      ·cases h1
     ·rename_i t m
      split at h1
      ·rename_i a hm
       simp only [Option.some.injEq,Prod.mk.injEq] at h1
       obtain⟨rfl,_,rfl⟩:=h1
       exact one a (ρ.L m) (ρ.S m) (some m) rfl rfl (hO.q m _ hm) ⟨_,hm,fun k=>Iff.rfl⟩ fun k ρ0 e=>⟨_,rfl,by simp only [Cell.den,Nm.f,e]⟩
      ·cases h1
     ·split at h1
      ·rename_i hn
       simp only [Option.some.injEq,Prod.mk.injEq] at h1
       obtain⟨rfl,_,rfl⟩:=h1
       refine⟨Ls,i1,i2,fun k ρ0 hL=>?_,fun j x hx=>i4 j x hx⟩
       simp only [cI,ae,List.map_cons] at i3 ⊢
       have hd:(tC c).den ρ0=c.den ρ:=(pa ρ0 c).trans (den_congr c fun m hm=>by rw [hn] at hm;cases hm)
       rw [i3 k ρ0 hL,hd]
      ·cases h1
    ·cases h
   ·cases h
def Ln (ln:AV->Nat) (es:Nat) (ty:TypeId) (cs:List (GC AV)):Hp AV:=some (.vec (cI ln 1 cs) es ty)::bq (bP cs)
theorem Dt {H:Hp AV} {n:Nat} {ks:List (Option (Rd AV×Nat))} (hks:nY N ks) {l:List Cell} {ty:TypeId} (hH:hget H n=some (.cells l ty)) {gs:List (GC AV)} {ns:List (Option Nat)} (h:gx N.F H ks l=some (gs,true,ns)) (hnd:(n::cr ns).Nodup)
 {ρ:Nm} {w:World} (hO:Own N ρ H w):fI N (cD N.F.len ty gs) (ρ.L n) (dy ρ H n (cr ns)) w:=by
 obtain⟨Ls,i1,i2,i3,i4⟩:=oa hks h rfl hO
 let ρ0:Nm:=⟨fun i=>match i with | 0=>ρ.L n | j+1=>(Ls.getD j (⟨0,0,0⟩,fun _=>False)).1,fun i=>match i with | 0=>fun _=>False | j+1=>(Ls.getD j (⟨0,0,0⟩,fun _=>False)).2⟩
 have e0:∀j x,Ls[j]?=some x->ρ0.L (1+j)=x.1 /\ ρ0.S (1+j)=x.2:=fun j x hx=>by
  rw [Nat.add_comm]
  show (Ls.getD j _).1=_ /\ (Ls.getD j _).2=_
  rw [List.getD_eq_getElem?_getD,hx]
  exact⟨rfl,rfl⟩
 refine p9 hO ρ0 hnd (fun i m hi=>?_) (fun i c hc=>?_)
 ·cases i with
  | zero=>exact⟨_,rfl⟩
  | succ j =>
    have hj:ns[j]?=some (some m):=by simpa using hi
    have:j < (bP gs).length:=by rw [<- i1,<- i2];exact(List.getElem?_eq_some_iff.1 hj).1
    exact⟨_,(aW _ _ _).2 ⟨_,List.getElem?_eq_getElem this,rfl⟩⟩
 ·cases i with
  | zero =>
    simp only [cD,hget,Option.some.injEq] at hc
    subst hc
    refine⟨?_,some n,rfl,_,hH,fun k=>Iff.rfl⟩
    have hq:w.heap[ρ n]?=some (.cells (ae ρ l).toArray ty (0,0)):=hO.q n _ hH
    show w.heap[ρ n]?=some (.cells (ae ρ0 (cI N.F.len 1 gs)).toArray ty (0,0))
    rw [i3 1 ρ0 fun j x hx=>(e0 j x hx).1]
    exact hq
  | succ j =>
    obtain⟨a,ha,rfl⟩:=(aW _ _ _).1 (show hget (bq (bP gs)) j=some c from hc)
    have hj:j < Ls.length:=by rw [i1];exact(List.getElem?_eq_some_iff.1 ha).1
    obtain⟨a',nm,j1,j2,j3,j4⟩:=i4 j _ (List.getElem?_eq_getElem hj)
    rw [ha] at j1
    cases j1
    obtain⟨e1,e2⟩:=e0 j _ (List.getElem?_eq_getElem hj)
    rw [Nat.add_comm] at e1 e2
    refine⟨?_,nm,by simpa using j2,?_⟩
    ·show N.F.q a (ρ0.L (j+1)) (ρ0.S (j+1)) w
     rw [e1,e2];exact j3
    ·show iI ρ H nm (ρ0.S (j+1))
     rw [e2];exact j4
theorem Lf {H:Hp AV} {n:Nat} {ks:List (Option (Rd AV×Nat))} (hks:nY N ks) {l:List Cell} {es:Nat} {ty:TypeId} (hH:hget H n=some (.vec l es ty)) {gs:List (GC AV)} {ns:List (Option Nat)} (h:gx N.F H ks l=some (gs,true,ns)) (hnd:(n::cr ns).Nodup)
 {ρ:Nm} {w:World} (hO:Own N ρ H w):fI N (Ln N.F.len es ty gs) (ρ.L n) (dy ρ H n (cr ns)) w:=by
 obtain⟨Ls,i1,i2,i3,i4⟩:=oa hks h rfl hO
 let ρ0:Nm:=⟨fun i=>match i with | 0=>ρ.L n | j+1=>(Ls.getD j (⟨0,0,0⟩,fun _=>False)).1,fun i=>match i with | 0=>ρ.S n | j+1=>(Ls.getD j (⟨0,0,0⟩,fun _=>False)).2⟩
 have e0:∀j x,Ls[j]?=some x->ρ0.L (1+j)=x.1 /\ ρ0.S (1+j)=x.2:=fun j x hx=>by
  rw [Nat.add_comm]
  show (Ls.getD j _).1=_ /\ (Ls.getD j _).2=_
  rw [List.getD_eq_getElem?_getD,hx]
  exact⟨rfl,rfl⟩
 refine p9 hO ρ0 hnd (fun i m hi=>?_) (fun i c hc=>?_)
 ·cases i with
  | zero=>exact⟨_,rfl⟩
  | succ j =>
    have hj:ns[j]?=some (some m):=by simpa using hi
    have:j < (bP gs).length:=by rw [<- i1,<- i2];exact(List.getElem?_eq_some_iff.1 hj).1
    exact⟨_,(aW _ _ _).2 ⟨_,List.getElem?_eq_getElem this,rfl⟩⟩
 ·cases i with
  | zero =>
    simp only [Ln,hget,Option.some.injEq] at hc
    subst hc
    refine⟨?_,some n,rfl,_,hH,fun k=>Iff.rfl⟩
    have hq:fQ (ρ.L n) (ρ.S n) (ae ρ l) es ty w:=hO.q n _ hH
    show fQ (ρ.L n) (ρ.S n) (ae ρ0 (cI N.F.len 1 gs)) es ty w
    rw [i3 1 ρ0 fun j x hx=>(e0 j x hx).1]
    exact hq
  | succ j =>
    obtain⟨a,ha,rfl⟩:=(aW _ _ _).1 (show hget (bq (bP gs)) j=some c from hc)
    have hj:j < Ls.length:=by rw [i1];exact(List.getElem?_eq_some_iff.1 ha).1
    obtain⟨a',nm,j1,j2,j3,j4⟩:=i4 j _ (List.getElem?_eq_getElem hj)
    rw [ha] at j1
    cases j1
    obtain⟨e1,e2⟩:=e0 j _ (List.getElem?_eq_getElem hj)
    rw [Nat.add_comm] at e1 e2
    refine⟨?_,nm,by simpa using j2,?_⟩
    ·show N.F.q a (ρ0.L (j+1)) (ρ0.S (j+1)) w
     rw [e1,e2];exact j3
    ·show iI ρ H nm (ρ0.S (j+1))
     rw [e2];exact j4
end Go.Sx
