import Derived.Test.YtadmfaohjnjajaaGreatDoorSxAr
set_option linter.unusedVariables false
set_option linter.unusedSimpArgs false
set_option maxHeartbeats 0
set_option maxRecDepth 100000
namespace Go.Sx
section
variable {AV:Type} {P:Program} {N:dV AV}
def Fl (N:dV AV) (H R:Hp AV):Prop:=∀(ρ:Nm) (w:World),eZ N ρ H w->∃ρ1,eZ N ρ1 R w /\ (∀m,ρ1.L m=ρ.L m) /\ ∀m d k,ae R m=some d->d.fp ρ1 m k->∃m' d',ae H m'=some d' /\ d'.fp ρ m' k
theorem Fl.refl (H:Hp AV):Fl N H H:=fun ρ _ h=>⟨ρ,h,fun _=>rfl,fun m d k h h'=>⟨m,d,h,h'⟩⟩
theorem Fl.trans {A B C:Hp AV} (h1:Fl N A B) (h2:Fl N B C):Fl N A C:=fun ρ w h=>by
 obtain⟨ρ1,o1,l1,f1⟩:=h1 ρ w h
 obtain⟨ρ2,o2,l2,f2⟩:=h2 ρ1 w o1
 refine⟨ρ2,o2,fun m=>(l2 m).trans (l1 m),fun m d k hd hk=>?_⟩
 obtain⟨m',d',AR,dW⟩:=f2 m d k hd hk
 exact f1 m' d' k AR dW
theorem Qu {H:Hp AV} {n:Nat} {ns:List Nat} {a:AV} (hq:∀(ρ:Nm) (w:World),eZ N ρ H w->N.F.q a (ρ.L n) (iP ρ H n ns) w):Fl N H (td n ns a 0 H):=fun ρ w hO=>by
 have hL:∀m,(ρ.set n (ρ.L n) (iP ρ H n ns)).L m=ρ.L m:=fun m=>by by_cases e:m=n<;>simp [Nm.set,e]
 have hSn:(ρ.set n (ρ.L n) (iP ρ H n ns)).S n=iP ρ H n ns:=by simp [Nm.set]
 have hSm:∀m,m≠n->(ρ.set n (ρ.L n) (iP ρ H n ns)).S m=ρ.S m:=fun m e=>by simp [Nm.set,e]
 have hd:∀l,aA (ρ.set n (ρ.L n) (iP ρ H n ns)) l=aA ρ l:=fun l=>by
  unfold aA
  exact ad7 fun c _=>b4 c fun m _=>hL m
 have apart:∀m (c:aG AV) k,m≠n->m ∉ ns->ae H m=some c->c.fp ρ m k->iP ρ H n ns k->False:=by
  rintro m c k h1 h2 hc hk ⟨m',d,h3,hd,dW⟩
  refine hO.qz m m' c d (fun e=>?_) hc hd k hk dW
  subst e
  rcases h3 with h3 | h3
  ·exact h1 h3
  ·exact h2 h3
 have sub:∀m d k,ae (td n ns a 0 H) m=some d->d.fp (ρ.set n (ρ.L n) (iP ρ H n ns)) m k->∃m' d',ae H m'=some d' /\ d'.fp ρ m' k:=fun m d k h hk=>by
  rcases uR h with⟨rfl,rfl⟩ | ⟨h1,h2,h3⟩
  ·have hk:(ρ.set m (ρ.L m) (iP ρ H m ns)).S m k:=hk
   rw [hSn] at hk
   obtain⟨m',d',_,h3,h4⟩:=hk
   exact⟨m',d',h3,h4⟩
  ·rw [cQ (hL m) (hSm m h1)] at hk
   exact⟨m,d,h3,hk⟩
 refine⟨ρ.set n (ρ.L n) (iP ρ H n ns),hO.sub ⟨fun m c h=>?_,fun m m' c d dA h h' k hk dW=>?_,fun g hg=>?_⟩ sub,hL,sub⟩
 ·rcases uR h with⟨rfl,rfl⟩ | ⟨h1,h2,h3⟩
  ·show N.F.q a _ _ _
   rw [hL,hSn];exact hq ρ w hO
  ·exact oF (hO.q m c h3) (hL m) (hSm m h1) (hd _) (fun _ _=>rfl)
 ·rcases uR h with⟨rfl,rfl⟩ | ⟨h1,h2,h3⟩
  ·have hk:(ρ.set m (ρ.L m) (iP ρ H m ns)).S m k:=hk
   rw [hSn] at hk
   rcases uR h' with⟨rfl,rfl⟩ | ⟨g1,g2,g3⟩
   ·exact dA rfl
   ·rw [cQ (hL m') (hSm m' g1)] at dW
    exact apart m' d k g1 g2 g3 dW hk
  ·rw [cQ (hL m) (hSm m h1)] at hk
   rcases uR h' with⟨rfl,rfl⟩ | ⟨g1,g2,g3⟩
   ·have dW:(ρ.set m' (ρ.L m') (iP ρ H m' ns)).S m' k:=dW
    rw [hSn] at dW
    exact apart m c k h1 h2 h3 hk dW
   ·rw [cQ (hL m') (hSm m' g1)] at dW
    exact hO.qz m m' c d dA h3 g3 k hk dW
 ·have:(ρ.set n (ρ.L n) (iP ρ H n ns)) g=ρ g:=by simp only [Nm.f,hL g]
  rw [this];exact hO.qW g hg
def vT (view:Hp AV->Nat->T (AV×List Nat)):List Nat->Hp AV->T (Hp AV)
 | [],H=>.aE H
 | n::r,H=>match ae H n with
   | some (.cells _ _)=>(view H n).bind fun x=>vT view r (td n x.2 x.1 0 H)
   | _=>vT view r H
def Fz (N:dV AV) (view:Hp AV->Nat->T (AV×List Nat)):Prop:=∀(H:Hp AV) (n:Nat) (a:AV) (ns:List Nat),(view H n).val=some (a,ns)->∀(ρ:Nm) (w:World),eZ N ρ H w->N.F.q a (ρ.L n) (iP ρ H n ns) w
theorem xM {view:Hp AV->Nat->T (AV×List Nat)} (hv:Fz N view):∀{l:List Nat} {H R:Hp AV},(vT view l H).val=some R->Fl N H R
 | [],H,R,h=>by
   simp only [vT,T.val,aaC] at h
   subst h
   exact Fl.refl H
 | n::r,H,R,h=>by
   simp only [vT] at h
   split at h
   ·obtain⟨⟨a,ns⟩,h1,h2⟩:=T.bf h
    exact(Qu (hv H n a ns h1)).trans (xM hv h2)
   ·exact xM hv h
def jI:Hp AV->Option (List AV)
 | []=>some []
 | none::r=>jI r
 | some (.bI a)::r=>match jI r with | some l=>some (a::l) | none=>none
 | some _::_=>none
def Ce:Hp AV->Nat->Nat
 | [],_=>0
 | _::_,0=>0
 | none::r,n+1=>Ce r n
 | some _::r,n+1=>Ce r n+1
def uy:Hp AV->Nat->Nat
 | [],_=>0
 | none::r,j=>uy r j+1
 | some _::_,0=>0
 | some _::r,j+1=>uy r j+1
theorem DN:∀{H:Hp AV} {l:List AV},jI H=some l->∀(j:Nat) (a:AV),l[j]?=some a->ae H (uy H j)=some (.bI a)
 | [],l,h,j,a,h'=>by simp only [jI,aaC] at h;subst h;simp at h'
 | none::r,l,h,j,a,h'=>DN (H:=r) (by simpa [jI] using h) j a h'
 | some (.cells _ _)::r,l,h,j,a,h'=>by simp [jI] at h
 | some (.kD _ _ _)::r,l,h,j,a,h'=>by simp [jI] at h
 | some .j8::r,l,h,j,a,h'=>by simp [jI] at h
 | some (.bI b)::r,l,h,j,a,h'=>by
   simp only [jI] at h
   split at h
   ·rename_i q hq
    cases h
    cases j with
    | zero=>simp only [aeC,aaC] at h';subst h';rfl
    | succ j=>exact DN (H:=r) hq j a (by simpa using h')
   ·cases h
theorem EW:∀(H:Hp AV) (n:Nat) (c:aG AV),ae H n=some c->uy H (Ce H n)=n
 | [],n,c,h=>by cases n<;>simp [ae] at h
 | none::r,0,c,h=>by simp [ae] at h
 | some x::r,0,c,h=>rfl
 | none::r,n+1,c,h=>by
   simp only [Ce,uy]
   rw [EW r n c h]
 | some x::r,n+1,c,h=>by
   simp only [Ce,uy]
   rw [EW r n c h]
theorem V6 {H:Hp AV} {l:List AV} (h:jI H=some l):∀{i j:Nat},i < l.length->j < l.length->uy H i=uy H j->i=j:=by
 induction H generalizing l with
 | nil=>intro i j hi _ _;simp only [jI,aaC] at h;subst h;simp at hi
 | cons x r ih =>
   intro i j hi hj e
   cases x with
   | none=>exact ih (l:=l) (by simpa [jI] using h) hi hj (by simpa [uy] using e)
   | some x =>
     cases x with
     | bI b =>
       simp only [jI] at h
       split at h
       ·rename_i q hq
        cases h
        cases i with
        | zero=>cases j with
          | zero=>rfl
          | succ j=>simp [uy] at e
        | succ i=>cases j with
          | zero=>simp [uy] at e
          | succ j=>exact congrArg (·+1) (ih hq (by simpa using hi) (by simpa using hj) (by simpa [uy] using e))
       ·cases h
     | cells _ _=>simp [jI] at h
     | kD _ _ _=>simp [jI] at h
     | j8=>simp [jI] at h
def GN (L:Nat) (ml:Hp AV) (n:Nat):Nat:=match Nat.blt n L with
 | true=>n
 | false=>L+Ce ml (n - L)
def qo (cJ:AV->Nat->Bool):Nat->List Bool->Hp AV->Option (Hp AV)
 | _,[],H=>some H
 | i,true::m,some (.bI a)::r=>match cJ a i with | true=>qo cJ (i+1) m r | false=>none
 | i,false::m,none::r=>qo cJ (i+1) m r
 | _,_,_=>none
theorem xt {cJ:AV->Nat->Bool} {sn:Nat->AV} (hs:∀a i,cJ a i=true->a=sn i):∀{M:List Bool} {i:Nat} {H R:Hp AV},qo cJ i M H=some R->H=cS sn i M++R
 | [],i,H,R,h=>by simp only [qo,aaC] at h;subst h;rfl
 | true::m,i,some (.bI a)::r,R,h=>by
   simp only [qo] at h
   split at h
   ·rename_i ha
    rw [xt hs h,hs a i ha];rfl
   ·cases h
 | false::m,i,none::r,R,h=>by
   simp only [qo] at h
   rw [xt hs h];rfl
 | true::m,i,[],R,h=>by simp [qo] at h
 | true::m,i,none::r,R,h=>by simp [qo] at h
 | true::m,i,some (.cells _ _)::r,R,h=>by simp [qo] at h
 | true::m,i,some (.kD _ _ _)::r,R,h=>by simp [qo] at h
 | true::m,i,some .j8::r,R,h=>by simp [qo] at h
 | false::m,i,[],R,h=>by simp [qo] at h
 | false::m,i,some _::r,R,h=>by simp [qo] at h
def qO:Nat->Hp AV->Option (List AV×Hp AV)
 | 0,H=>some ([],H)
 | n+1,some (.bI a)::r=>match qO n r with
   | some (l,q)=>some (a::l,q)
   | none=>none
 | _+1,_=>none
theorem BJ:∀{k:Nat} {H:Hp AV} {l:List AV} {R:Hp AV},qO k H=some (l,R)->H=eN l++R /\ l.length=k
 | 0,H,l,R,h=>by simp only [qO,aaC,aaF] at h;obtain⟨rfl,rfl⟩:=h;exact⟨rfl,rfl⟩
 | n+1,[],l,R,h=>by simp [qO] at h
 | n+1,none::r,l,R,h=>by simp [qO] at h
 | n+1,some (.cells _ _)::r,l,R,h=>by simp [qO] at h
 | n+1,some (.kD _ _ _)::r,l,R,h=>by simp [qO] at h
 | n+1,some .j8::r,l,R,h=>by simp [qO] at h
 | n+1,some (.bI a)::r,l,R,h=>by
   simp only [qO] at h
   split at h
   ·rename_i l' q hq
    cases h
    obtain⟨rfl,h2⟩:=BJ hq
    exact⟨rfl,by simp [h2]⟩
   ·cases h
def adO (cJ:AV->Nat->Bool) (M:List Bool) (k:Nat) (r:SV×Hp AV):T (SV×List AV×List AV):=match QN r.2 r.1 with
 | false=>.fail "pack: value"
 | true=>match qo cJ 0 M r.2 with
   | none=>.fail "pack: variables"
   | some H=>match qO k H with
     | none=>.fail "pack: objects"
     | some (l,q)=>match jI q with
       | none=>.fail "pack: no object"
       | some nw=>.aE (r.1.cN (GN (M.length+k) q),l,nw)
def wY:Hp AV->Hp AV
 | []=>[]
 | some .j8::r=>none::wY r
 | x::r=>x::wY r
theorem jm:∀{H:Hp AV} {n:Nat} {c:aG AV},ae (wY H) n=some c->ae H n=some c
 | [],n,c,h=>by cases n<;>simp [wY,ae] at h
 | none::r,0,c,h=>by simp [wY,ae] at h
 | none::r,n+1,c,h=>jm (H:=r) h
 | some .j8::r,0,c,h=>by simp [wY,ae] at h
 | some .j8::r,n+1,c,h=>jm (H:=r) h
 | some (.cells _ _)::r,0,c,h=>h
 | some (.cells _ _)::r,n+1,c,h=>jm (H:=r) h
 | some (.kD _ _ _)::r,0,c,h=>h
 | some (.kD _ _ _)::r,n+1,c,h=>jm (H:=r) h
 | some (.bI _)::r,0,c,h=>h
 | some (.bI _)::r,n+1,c,h=>jm (H:=r) h
theorem abO (H:Hp AV):Fl N H (wY H):=fun ρ w hO =>
 ⟨ρ,hO.sub ⟨fun n c h=>hO.q n c (jm h),fun n m c d dA h h' k hk dW=>hO.qz n m c d dA (jm h) (jm h') k hk dW,hO.qW⟩ (fun n c k h hk=>⟨n,c,jm h,hk⟩),fun _=>rfl,fun m d k h hk=>⟨m,d,jm h,hk⟩⟩
def HU (L:Nat) (ks:List Nat):Nat->Hp AV->Hp AV
 | _,[]=>[]
 | i,x::r=>(match Nat.blt i L with | true=>x | false=>match nD ks i with | true=>x | false=>none)::HU L ks (i+1) r
theorem pt {L:Nat} {ks:List Nat}:∀{H:Hp AV} {i n:Nat} {c:aG AV},ae (HU L ks i H) n=some c->ae H n=some c
 | [],i,n,c,h=>by cases n<;>simp [HU,ae] at h
 | x::r,i,0,c,h=>by
   have h:(match Nat.blt i L with | true=>x | false=>match nD ks i with | true=>x | false=>none)=some c:=h
   show x=some c
   split at h
   ·exact h
   ·split at h
    ·exact h
    ·cases h
 | x::r,i,n+1,c,h=>pt (H:=r) (i:=i+1) (n:=n) h
theorem abP (L:Nat) (ks:List Nat) (H:Hp AV):Fl N H (HU L ks 0 H):=fun ρ w hO =>
 ⟨ρ,hO.sub ⟨fun n c h=>hO.q n c (pt h),fun n m c d dA h h' k hk dW=>hO.qz n m c d dA (pt h) (pt h') k hk dW,hO.qW⟩ (fun n c k h hk=>⟨n,c,pt h,hk⟩),fun _=>rfl,fun m d k h hk=>⟨m,d,pt h,hk⟩⟩
def Bb (view:Hp AV->Nat->T (AV×List Nat)) (cJ:AV->Nat->Bool) (M:List Bool) (k:Nat) (ns:List Nat) (r:SV×Hp AV):T (SV×List AV×List AV) :=
 (vT view (ns++mu r.1) r.2).bind fun H=>adO cJ M k (r.1,HU (M.length+k) (mu r.1) 0 (wY H))
theorem wg {view:Hp AV->Nat->T (AV×List Nat)} (Xg:Fz N view) {cJ:AV->Nat->Bool} {sn:Nat->AV} (hs:∀a i,cJ a i=true->a=sn i) {M:List Bool} (hGM:N.G=M.length) {l:List AV} {ns:List Nat} {f:FuncId} {args:List SV} {H1 H2:Hp AV} {v v':SV} {l' nw:List AV}
 (bM:∀x∈args,fh (cS sn 0 M++eN l) x) (ho:MU N (cS sn 0 M++eN l) H1) (h01:∀m c,ae (cS sn 0 M++eN l) m=some c->∃c',ae H1 m=some c') (hc:qT P N f args H1 v H2)
 (hr:(Bb view cJ M l.length ns (v,H2)).val=some (v',l',nw)):qT P N f args (cS sn 0 M++eN l) v' (cS sn 0 M++eN (l'++nw)) /\ l'.length=l.length:=by
 unfold Bb at hr
 obtain⟨H30,h3,hr⟩:=T.bf hr
 have hfl:=((xM Xg h3).trans (abO H30)).trans (abP (M.length+l.length) (mu v) (wY H30))
 generalize HU (M.length+l.length) (mu v) 0 (wY H30)=H3 at hr hfl
 unfold adO at hr
 split at hr
 ·cases hr
 rename_i hcl
 have hcl:fh H3 v:=wm.1 hcl
 split at hr
 ·cases hr
 rename_i H4 h4
 have e4:H3=cS sn 0 M++H4:=xt hs h4
 split at hr
 ·cases hr
 rename_i lq q h5
 obtain⟨e5,hl5⟩:=BJ h5
 split at hr
 ·cases hr
 rename_i nq h6
 simp only [T.val,aaC,aaF] at hr
 obtain⟨rfl,rfl,rfl⟩:=hr
 subst e5
 refine⟨?_,hl5⟩
 let L:=M.length+l.length
 let π:=GN L q
 have wF:(cS sn 0 M).length=M.length:=gg sn M 0
 have alA:(cS sn 0 M++eN lq).length=L:=by rw [abl,wF,vd,hl5]
 have g3:∀n,ae H3 n=if n < L then ae (cS sn 0 M++eN lq) n else ae q (n - L):=fun n=>by
  rw [e4,<- acC,bo,alA]
 have gR:∀n,ae (cS sn 0 M++eN (lq++nq)) n=if n < L then ae (cS sn 0 M++eN lq) n else ae (eN nq) (n - L):=fun n=>by
  rw [show eN (lq++nq)=eN lq++eN nq by simp [eN],<- acC,bo,alA]
 have isA:∀n c,ae (cS sn 0 M++eN lq) n=some c->∃a,c=.bI a:=fun n c h=>by
  rw [bo] at h
  split at h
  ·exact⟨_,((m5 sn M 0 n c).1 h).2⟩
  ·obtain⟨a,_,h⟩:=(dx _ _ _).1 h;exact⟨a,h⟩
 have qf:∀n,n < L->π n=n:=fun n h=>by
  show GN L q n=n
  unfold GN
  have e:Nat.blt n L=true:=by simpa [Nat.blt_eq] using h
  rw [e]
 have aiS:∀n,¬n < L->π n=L+Ce q (n - L):=fun n h=>by
  show GN L q n=_
  unfold GN
  have e:Nat.blt n L=false:=by
   cases e:Nat.blt n L with
   | false=>rfl
   | true=>rw [Nat.blt_eq] at e;omega
  rw [e]
 let σ:Nat->Nat:=fun n=>if n < L then n else L+uy q (n - L)
 have rq:∀n c,ae (cS sn 0 M++eN (lq++nq)) n=some c->ae H3 (σ n)=some c /\ ∃a,c=.bI a:=fun n c h=>by
  rw [gR] at h
  show ae H3 (if n < L then n else L+uy q (n - L))=some c /\ _
  split at h
  ·rename_i hn
   rw [if_pos hn,g3,if_pos hn];exact⟨h,isA n c h⟩
  ·rename_i hn
   obtain⟨a,h1,rfl⟩:=(dx _ _ _).1 h
   rw [if_neg hn,g3,if_neg (by omega),aeu]
   exact⟨DN h6 _ a h1,a,rfl⟩
 have aiR:∀n m c d,ae (cS sn 0 M++eN (lq++nq)) n=some c->ae (cS sn 0 M++eN (lq++nq)) m=some d->σ n=σ m->n=m:=fun n m c d hn hm e=>by
  have e:(if n < L then n else L+uy q (n - L))=(if m < L then m else L+uy q (m - L)):=e
  have ln:∀n c,¬n < L->ae (cS sn 0 M++eN (lq++nq)) n=some c->n - L < nq.length:=fun n c hn h=>by
   rw [gR,if_neg hn] at h
   obtain⟨a,h1,_⟩:=(dx _ _ _).1 h
   exact(abt.1 h1).1
  by_cases h1:n < L<;>by_cases h2:m < L
  ·rw [if_pos h1,if_pos h2] at e;exact e
  ·rw [if_pos h1,if_neg h2] at e;omega
  ·rw [if_neg h1,if_pos h2] at e;omega
  ·rw [if_neg h1,if_neg h2] at e
   have:=V6 h6 (ln n c h1 hn) (ln m d h2 hm) (by omega)
   omega
 have σπ:∀n c,ae H3 n=some c->σ (π n)=n:=fun n c h=>by
  by_cases hn:n < L
  ·rw [qf n hn];exact if_pos hn
  ·rw [aiS n hn]
   show (if L+Ce q (n - L) < L then _ else L+uy q (L+Ce q (n - L) - L))=n
   rw [if_neg (by omega),aeu]
   rw [g3,if_neg hn] at h
   rw [EW q _ c h];omega
 have up:∀n c,ae H3 n=some c->∃d,ae (cS sn 0 M++eN (lq++nq)) (π n)=some d:=fun n c h=>by
  by_cases hn:n < L
  ·rw [qf n hn,gR,if_pos hn]
   rw [g3,if_pos hn] at h
   exact⟨c,h⟩
  ·rw [aiS n hn,gR,if_neg (by omega),aeu]
   rw [g3,if_neg hn] at h
   have:∀(H:Hp AV) (l:List AV),jI H=some l->∀n c,ae H n=some c->Ce H n < l.length:=by
    intro H
    induction H with
    | nil=>intro l _ n c h;cases n<;>simp [ae] at h
    | cons x r ih =>
      intro l hl n c h
      cases x with
      | none =>
        cases n with
        | zero=>simp [ae] at h
        | succ n=>exact ih l (by simpa [jI] using hl) n c h
      | some x =>
        cases x with
        | bI b =>
          simp only [jI] at hl
          split at hl
          ·rename_i p hp
           cases hl
           cases n with
           | zero=>simp [Ce]
           | succ n=>simpa [Ce] using ih p hp n c h
          ·cases hl
        | cells _ _=>simp [jI] at hl
        | kD _ _ _=>simp [jI] at hl
        | j8=>simp [jI] at hl
   have du:=this q nq h6 _ c h
   exact⟨_,(dx _ _ _).2 ⟨_,abj du,rfl⟩⟩
 obtain⟨hv2,_,LW⟩:=hc
 have clR:dM N (cS sn 0 M++eN (lq++nq)):=by
  refine⟨fun n c h=>?_,trivial⟩
  obtain⟨_,a,rfl⟩:=rq n c h
  intro c hc;cases hc
 have Yq:fh (cS sn 0 M++eN (lq++nq)) (v.cN π):=hcl.cN up
 have anq:∀m c,ae (cS sn 0 M++eN l) m=some c->m < L /\ ∃d,ae (cS sn 0 M++eN (lq++nq)) m=some d:=fun m c h=>by
  have hm:m < L:=by
   have:=bQ h
   rw [abl,wF,vd] at this
   exact this
  refine⟨hm,?_⟩
  rw [gR,if_pos hm]
  rw [bo,wF] at h ⊢
  split at h
  ·rename_i hm'
   rw [if_pos hm'];exact⟨c,h⟩
  ·rename_i hm'
   rw [if_neg hm']
   obtain⟨a,h1,_⟩:=(dx _ _ _).1 h
   have:m - M.length < lq.length:=by rw [hl5];exact(abt.1 h1).1
   exact⟨_,(dx _ _ _).2 ⟨_,abj this,rfl⟩⟩
 refine⟨Yq,clR,fun ρ w hO=>?_⟩
 obtain⟨ρ1,o1,l1,f1⟩:=ho ρ w hO
 have On:args.map (SV.aq ρ1)=args.map (SV.aq ρ):=ad7 fun x hx=>SV.b4 (bM x hx) fun m c h=>l1 m (bQ h)
 rw [<- On]
 refine(LW ρ1 w o1).mono ?_
 rintro e w' ⟨ρ2,rfl,o2,hE⟩
 obtain⟨ρ3,o3,l3,f3⟩:=hfl ρ2 w' o2
 let ρ4:Nm:=⟨fun n=>ρ3.L (σ n),fun n=>ρ3.S (σ n)⟩
 have L4:∀n,n < L->ρ4.L n=ρ3.L n:=fun n h=>by
  show ρ3.L (if n < L then n else _)=_
  rw [if_pos h]
 have fp4:∀n (c:aG AV),(∃a,c=.bI a)->c.fp ρ4 n=c.fp ρ3 (σ n):=fun n c ⟨a,e⟩=>by subst e;rfl
 refine⟨ρ4,?_,hO.up2 ⟨⟨fun n c h=>?_,fun n m c d dA h h' k hk dW=>?_,fun g hg=>?_⟩,⟨fun m c h=>(anq m c h).2,fun m c h=>?_,fun m hm h=>?_,?_,fun k hk tC=>?_,fun m c k h hk=>?_,hE.os,hE.tape,hE.output,hE.size⟩⟩⟩
 ·congr 1
  rw [SV.lA]
  have e1:v.aq (ρ4.cN π)=v.aq ρ3:=SV.b4 hcl fun n c h=>by
   show ρ3.L (σ (π n))=_
   rw [σπ n c h]
  have e2:v.aq ρ3=v.aq ρ2:=SV.b4 hv2 fun n c _=>l3 n
  rw [e1,e2]
 ·obtain⟨h1,a,rfl⟩:=rq n c h
  exact o3.q (σ n) _ h1
 ·obtain⟨h1,ha⟩:=rq n c h
  obtain⟨h2,hb⟩:=rq m d h'
  rw [fp4 n c ha] at hk
  rw [fp4 m d hb] at dW
  exact o3.qz (σ n) (σ m) c d (fun e=>dA (aiR n m c d h h' e)) h1 h2 k hk dW
 ·have:ρ4 g=ρ3 g:=by
   show (ρ4.L g).b=(ρ3.L g).b
   rw [L4 g (by omega)]
  rw [this];exact o3.qW g hg
 ·obtain⟨hm,_⟩:=anq m c h
  obtain⟨c1,h1⟩:=h01 m c h
  rw [L4 m hm,l3,hE.jV m c1 h1,l1 m (bQ h)]
 ·have hm':m < L:=by
   rw [abl,wF,vd] at hm
   exact hm
  rw [gR,if_pos hm']
  rw [bo,wF] at h ⊢
  split
  ·rename_i h1;rw [if_pos h1] at h;exact h
  ·rename_i h1
   rw [if_neg h1] at h
   exfalso
   have:m - M.length < l.length:=by omega
   have h2:=(dx l (m - M.length) _).2 ⟨_,abj this,rfl⟩
   rw [h] at h2;cases h2
 ·rw [abl,abl,vd,vd,abl];omega
 ·refine hE.mE k hk fun m d hd dW=>?_
  obtain⟨m',d',h1,h2⟩:=f1 m d k hd dW
  exact tC m' d' h1 h2
 ·obtain⟨h1,ha⟩:=rq m c h
  rw [fp4 m c ha] at hk
  obtain⟨m',d',h2,h3⟩:=f3 (σ m) c k h1 hk
  rcases hE.new m' d' k h2 h3 with h4 | ⟨m'',d'',h4,h5⟩
  ·exact .inl h4
  ·exact .inr (f1 m'' d'' k h4 h5)
end
section
variable {AV:Type} {P:Program} {N:dV AV}
def pF (ρ:Nm) (H:Hp AV) (nm:Option Nat) (S:Nat->Prop):Prop:=match nm with
 | some m=>∃d,ae H m=some d /\ ∀k,S k↔d.fp ρ m k
 | none=>∀k,¬S k
def fS:List (Option Nat)->List Nat
 | []=>[]
 | some n::r=>n::fS r
 | none::r=>fS r
theorem pK {n:Nat}:∀{l:List (Option Nat)},n∈fS l↔some n∈l
 | []=>by simp [fS]
 | some m::r=>by simp [fS,pK (l:=r)]
 | none::r=>by simp [fS,pK (l:=r)]
theorem DW:∀{l:List (Option Nat)},(fS l).Nodup->∀{i j m:Nat},l[i]?=some (some m)->l[j]?=some (some m)->i=j
 | [],_,i,j,m,h,_=>by simp at h
 | x::r,hd,i,j,m,h1,h2=>by
   have hr:(fS r).Nodup:=by
    cases x with
    | none=>exact hd
    | some y=>exact(aem.1 hd).2
   have no:∀k,x=some m->r[k]?=some (some m)->False:=fun k e h=>by
    subst e
    exact(aem.1 hd).1 (pK.2 (ab8 h))
   cases i with
   | zero =>
     simp only [aeC,aaC] at h1
     cases j with
     | zero=>rfl
     | succ j=>exact(no j h1 (by simpa using h2)).elim
   | succ i =>
     simp only [aex] at h1
     cases j with
     | zero =>
       simp only [aeC,aaC] at h2
       exact(no i h2 h1).elim
     | succ j=>exact congrArg (·+1) (DW hr h1 (by simpa using h2))
theorem Ah {ρ:Nm} {H:Hp AV} {w:World} (hO:eZ N ρ H w) {K:Hp AV} (ρ0:Nm) {n:Nat} {ps:List (Option Nat)} (iS:(n::fS ps).Nodup)
 (hK:∀i m,(some n::ps)[i]?=some (some m)->∃c,ae K i=some c)
 (h:∀i c,ae K i=some c->c.q N ρ0 i w /\ ∃x,(some n::ps)[i]?=some x /\ pF ρ H x (c.fp ρ0 i)):nu N K (ρ0.L 0) (iP ρ H n (fS ps)) w:=by
 have iS:(fS (some n::ps)).Nodup:=iS
 refine⟨ρ0,rfl,⟨fun i c hc=>(h i c hc).1,fun i j c d hij hc hd k hk dW=>?_⟩,fun k=>?_⟩
 ·obtain⟨x,e1,p1⟩:=(h i c hc).2
  obtain⟨y,e2,p2⟩:=(h j d hd).2
  unfold pF at p1 p2
  cases x with
  | none=>exact p1 k hk
  | some m =>
    cases y with
    | none=>exact p2 k dW
    | some m' =>
      obtain⟨c',g1,g2⟩:=p1
      obtain⟨d',g3,g4⟩:=p2
      refine hO.qz m m' c' d' (fun e=>hij ?_) g1 g3 k ((g2 k).1 hk) ((g4 k).1 dW)
      subst e
      exact DW iS e1 e2
 ·constructor
  ·rintro ⟨m,d,h1,h2,h3⟩
   have hm:some m∈some n::ps:=by
    rcases h1 with rfl | h1
    ·exact abw
    ·exact aby _ (pK.1 h1)
   obtain⟨i,hi⟩:=aew.1 hm
   obtain⟨c,hc⟩:=hK i m hi
   obtain⟨x,e1,p1⟩:=(h i c hc).2
   rw [hi] at e1
   cases e1
   obtain⟨d',g1,g2⟩:=p1
   rw [h2] at g1
   cases g1
   exact⟨i,c,hc,(g2 k).2 h3⟩
  ·rintro ⟨i,c,h1,h2⟩
   obtain⟨x,e1,p1⟩:=(h i c h1).2
   unfold pF at p1
   cases x with
   | none=>exact absurd h2 (p1 k)
   | some m =>
     obtain⟨d',g1,g2⟩:=p1
     refine⟨m,d',?_,g1,(g2 k).1 h2⟩
     rcases abk.1 (ab8 e1) with e | e
     ·cases e;exact .inl rfl
     ·exact .inr (pK.2 e)
def Io {α:Type} (K:AK α) (ex:AV->Option (List α)) (H:Hp AV):Cell->Option (List α×Nat×Option Nat)
 | .dq=>some ([],0,none)
 | .vs n (o+1) len es _=>match Nat.beq es K.es with
   | false=>none
   | true=>match ae H n with
     | some (.bI a)=>match ex a with
       | some l=>some (l.drop (o+1),(match Nat.ble (o+1) l.length with | true=>len | false=>(l.drop (o+1)).length+1),some n)
       | none=>none
     | _=>none
 | .vs n 0 len es _=>match Nat.beq es K.es with
   | false=>none
   | true=>match ae H n with
     | some (.bI a)=>match ex a with
       | some l=>some (l,len,some n)
       | none=>none
     | some (.kD cs ve ty)=>match Nat.beq ve K.es,Nat.beq ty K.ty with
       | true,true=>match K.A6 (cs.length / K.es) cs with
         | some l=>some (l,len,some n)
         | none=>none
       | _,_=>none
     | _=>none
 | _=>none
theorem lK {ρ:Nm} {cs:List Cell} (h:∀c∈cs,c.name=none):aA ρ cs=aA Nm.id cs:=by
 unfold aA
 exact ad7 fun c hc=>b4 c fun m hm=>by rw [h c hc] at hm;cases hm
theorem Gl {α:Type} (K:AK α):∀(k:Nat) (l:List α),K.dC (l.drop k)=(K.dC l).drop (k * K.es)
 | 0,l=>by simp
 | k+1,[]=>by simp [AK.dC]
 | k+1,a::r=>by
   have e:K.dC (a::r)=aA Nm.id (K.bx a)++K.dC r:=rfl
   have h:(aA Nm.id (K.bx a)).length=K.es:=by simp [aA,K.len a]
   rw [List.drop_succ_cons,Gl K k r,e,List.drop_append]
   have h1:(aA Nm.id (K.bx a)).drop ((k+1) * K.es)=[]:=ad8 (by rw [h,Nat.succ_mul];omega)
   rw [h1,h,acM]
   congr 1
   rw [Nat.succ_mul];omega
theorem MK {α:Type} {K:AK α} {l:List α} {o n:Nat} {ρ:Nm} {H:Hp AV} {w:World} {a:AV} {kn:Bool} (hle:o+1<=l.length) (hq:K.q l (ρ.L n) (ρ.S n) w) (ha:ae H n=some (.bI a)) :
 ∃lc S,(Cell.vs n (o+1) (l.drop (o+1)).length K.es kn).aq ρ=bN lc 0 (l.drop (o+1)).length K.es /\ K.q (l.drop (o+1)) lc S w /\ pF ρ H (some n) S:=by
 have Xf:=K.kJ l
 have hp:=K.I5
 rcases hq with⟨_,h2,_⟩ | ⟨h1,h2,row,h3,h4,h5,h6⟩
 ·exfalso
  rw [h2] at Xf
  have:0 < l.length * K.es:=Nat.mul_pos (by omega) hp
  simp only [adY] at Xf
  omega
 ·rw [Xf] at h5
  have hc:l.length<=(ρ.L n).c - 1:=Nat.le_of_mul_le_mul_right h5 hp
  have em:(ρ.L n).c - 1=(o+1)+((ρ.L n).c - (o+1) - 1):=by omega
  refine⟨⟨(ρ.L n).b,(ρ.L n).o+(o+1) * K.es,(ρ.L n).c - (o+1)⟩,ρ.S n,?_,.inr ⟨by show 0 < (ρ.L n).c - (o+1);omega,h2,row,h3,?_,?_,fun j v hj=>?_⟩,_,ha,fun k=>Iff.rfl⟩
  ·show bN (ρ.L n) (o+1) _ _=_
   unfold bN
   rw [if_neg (fun h=>by omega),if_neg (fun h=>by have:=h.2;simp only at this;omega)]
   simp only [Nat.zero_mul,Nat.add_zero]
   congr 1
   omega
  ·show (ρ.L n).o+(o+1) * K.es+((ρ.L n).c - (o+1) - 1) * K.es<=row.length
   rw [em,aey] at h4
   omega
  ·show (K.dC (l.drop (o+1))).length<=((ρ.L n).c - (o+1) - 1) * K.es
   rw [K.kJ,agW]
   exact adN _ (by omega)
  ·rw [Gl,af2] at hj
   have:=h6 _ _ hj
   show row[(ρ.L n).o+(o+1) * K.es+j]?=some v
   rw [<- this,aej]
theorem zz {α:Type} {K:AK α} {ex:AV->Option (List α)} (hex:∀a l,ex a=some l->∀lc S w,N.F.q a lc S w->K.q l lc S w) {H:Hp AV} {c:Cell} {l:List α} {len:Nat} {nm:Option Nat} (h:Io K ex H c=some (l,len,nm)) (hlen:len=l.length)
 {ρ:Nm} {w:World} (hO:eZ N ρ H w):∃lc S,c.aq ρ=bN lc 0 l.length K.es /\ K.q l lc S w /\ pF ρ H nm S:=by
 unfold Io at h
 split at h
 ·cases h
  refine⟨⟨0,0,0⟩,fun _=>False,?_,.inl ⟨by decide,rfl,fun k hk=>hk⟩,fun k hk=>hk⟩
  simp [Cell.aq,bN]
 ·rename_i n o Jo es kn
  cases he:Nat.beq es K.es with
  | false=>rw [he] at h;cases h
  | true =>
  rw [he] at h
  have he:=(aC _ _).1 he
  subst he
  dsimp only at h
  split at h
  ·rename_i a ha
   split at h
   ·rename_i l' hl
    simp only [aaC,aaF] at h
    obtain⟨rfl,hln,rfl⟩:=h
    have hle:o+1<=l'.length:=by
     cases hb:Nat.ble (o+1) l'.length with
     | true=>exact adI hb
     | false=>rw [hb] at hln;dsimp only at hln;omega
    rw [Nat.ble_eq_true_of_le hle] at hln
    dsimp only at hln
    rw [hln,hlen]
    exact MK hle (hex a _ hl _ _ _ (hO.q n _ ha)) ha
   ·cases h
  ·cases h
 ·rename_i n Jo es kn
  cases he:Nat.beq es K.es with
  | false=>rw [he] at h;cases h
  | true =>
  rw [he] at h
  have he:=(aC _ _).1 he
  subst he
  dsimp only at h
  split at h
  ·rename_i a ha
   split at h
   ·rename_i l' hl
    cases h
    refine⟨ρ.L n,ρ.S n,?_,hex a _ hl _ _ _ (hO.q n _ ha),_,ha,fun k=>Iff.rfl⟩
    rw [<- hlen];rfl
   ·cases h
  ·rename_i cs ve ty ha
   split at h
   ·rename_i h1 h2
    have h1:=(aC _ _).1 h1
    have h2:=(aC _ _).1 h2
    subst h1 h2
    split at h
    ·rename_i l' hl
     cases h
     obtain⟨v1,v2⟩:=K.zr hl
     have hq:mM (ρ.L n) (ρ.S n) (aA ρ cs) K.es K.ty w:=hO.q n _ ha
     rw [lK v2,<- v1] at hq
     refine⟨ρ.L n,ρ.S n,?_,hq,_,ha,fun k=>Iff.rfl⟩
     rw [<- hlen];rfl
    ·cases h
   ·cases h
  ·cases h
 ·cases h
end
section
variable {AV:Type} {P:Program} {N:dV AV}
def DQ:Cell->Cell
 | .bl b=>.bt b
 | .il k n=>.it k n
 | .iv k n _ _=>.it k n
 | .ir k n _ _ _=>.it k n
 | .st s=>.sv s
 | c=>c
theorem yQ (ρ:Nm) (c:Cell):(DQ c).aq ρ=c.aq ρ:=by cases c<;>rfl
theorem Ai (c:Cell):(DQ c).name=c.name:=by cases c<;>rfl
def B6:List Cell->List Cell
 | []=>[]
 | c::r=>DQ c::B6 r
theorem DP (l:List Cell):B6 l=l.map DQ:=by induction l<;>simp [B6, *]
theorem uz (ρ:Nm) (l:List Cell):aA ρ (B6 l)=aA ρ l:=by
 rw [DP];unfold aA;rw [List.map_map]
 exact ad7 fun c _=>yQ ρ c
def R5:V1->V1
 | .c x=>.c (DQ x)
 | .agg l=>.agg (B6 l)
theorem Lb (ρ:Nm) (x:V1):(R5 x).aq ρ=x.aq ρ:=by
 cases x with
 | c x=>exact yQ ρ x
 | agg l=>show Value.agg _=_;rw [uz];rfl
def La:List V1->List V1
 | []=>[]
 | x::r=>R5 x::La r
theorem GV (l:List V1):La l=l.map R5:=by induction l<;>simp [La, *]
def V8:SV->SV
 | .v x=>.v (R5 x)
 | .ji l=>.ji (La l)
 | x=>x
theorem V7 (ρ:Nm) (x:SV):(V8 x).aq ρ=x.aq ρ:=by
 cases x with
 | v x=>exact Lb ρ x
 | ji l =>
   show Value.tuple _=Value.tuple _
   rw [GV,List.map_map]
   have e:l.map (V1.aq ρ ∘ R5)=l.map (V1.aq ρ):=ad7 fun x _=>Lb ρ x
   rw [e]
 | _=>rfl
theorem PU {H:Hp AV} {x:V1} (h:jG H x):jG H (R5 x):=by
 intro c hc n hn
 cases x with
 | c x =>
   have hc:c∈[DQ x]:=hc
   rw [aez.1 hc,Ai] at hn
   exact h x (aez.2 rfl) n hn
 | agg l =>
   have hc:c∈B6 l:=hc
   rw [DP] at hc
   obtain⟨d,hd,rfl⟩:=adK.1 hc
   rw [Ai] at hn
   exact h d hd n hn
theorem aaO {H:Hp AV} {x:SV} (h:fh H x):fh H (V8 x):=by
 cases x with
 | v x=>exact PU h
 | ji l =>
   intro y hy
   have hy:y∈La l:=hy
   rw [GV] at hy
   obtain⟨z,hz,rfl⟩:=adK.1 hy
   exact PU (h z hz)
 | lE=>exact h
 | wJ f l=>exact h
def V9 {β:Type}:SV×β->SV×β
 | (v,r)=>(V8 v,r)
theorem CJ {f:FuncId} {args:List SV} {H R:Hp AV} {v:SV} (hc:qT P N f args H v R):qT P N f args H (V8 v) R :=
 sJ hc (aaO hc.1) fun ρ=>V7 ρ v
end
section
variable {AV:Type} {P:Program} {N:dV AV}
inductive GC (AV:Type) where
 | p (c:Cell) | s (a:AV) (es:Nat) | r (a:AV) | i (t:TypeId) (a:AV)
def gB (ln:AV->Nat):Nat->List (GC AV)->List Cell
 | _,[]=>[]
 | k,.p c::r=>c::gB ln k r
 | k,.s a es::r=>.vs k 0 (ln a) es false::gB ln (k+1) r
 | k,.r _::r=>.ptr k 0::gB ln (k+1) r
 | k,.i t _::r=>.wZ t (.ptr k 0)::gB ln (k+1) r
def eF:List (GC AV)->List AV
 | []=>[]
 | .p _::r=>eF r
 | .s a _::r=>a::eF r
 | .r a::r=>a::eF r
 | .i _ a::r=>a::eF r
def fP (ln:AV->Nat) (ty:TypeId) (cs:List (GC AV)):Hp AV:=some (.cells (gB ln 1 cs) ty)::eN (eF cs)
abbrev Rd (AV:Type):=Hp AV->Cell->Option (AV×Nat×Option Nat)
def XW (F:iL AV) (H:Hp AV):Option (Rd AV×Nat)->Cell->Option (GC AV×Bool×List (Option Nat))
 | some (rd,es),c=>match rd H c with
   | some (a,len,nm)=>some (.s a es,decide (len=F.len a),[nm])
   | none=>none
 | none,.ptr m 0=>match ae H m with
   | some (.bI a)=>some (.r a,true,[some m])
   | _=>none
 | none,.wZ t (.ptr m 0)=>match ae H m with
   | some (.bI a)=>some (.i t a,true,[some m])
   | _=>none
 | none,c=>match c.name with
   | none=>some (.p (DQ c),true,[])
   | some _=>none
def nS (F:iL AV) (H:Hp AV):List (Option (Rd AV×Nat))->List Cell->Option (List (GC AV)×Bool×List (Option Nat))
 | [],[]=>some ([],true,[])
 | k::ks,c::cs=>match XW F H k c with
   | some (g,b,ns)=>match nS F H ks cs with
     | some (gs,b',ns')=>some (g::gs,(match b with | true=>b' | false=>false),ns++ns')
     | none=>none
   | none=>none
 | _,_=>none
def O6 (N:dV AV) (rd:Rd AV) (es:Nat):Prop:=∀H c a len nm,rd H c=some (a,len,nm)->len=N.F.len a->∀ρ w,eZ N ρ H w->∃lc S,c.aq ρ=bN lc 0 (N.F.len a) es /\ N.F.q a lc S w /\ pF ρ H nm S
def xE (N:dV AV):List (Option (Rd AV×Nat))->Prop
 | []=>True
 | none::r=>xE N r
 | some (rd,es)::r=>O6 N rd es /\ xE N r
theorem xN {H:Hp AV}:∀{ks:List (Option (Rd AV×Nat))} {cs:List Cell} {gs:List (GC AV)} {b:Bool} {ns:List (Option Nat)},xE N ks->nS N.F H ks cs=some (gs,b,ns)->b=true->∀{ρ:Nm} {w:World},eZ N ρ H w ->
 ∃Ls:List (l8×(Nat->Prop)),Ls.length=(eF gs).length /\ ns.length=Ls.length /\ (∀(k:Nat) (ρ0:Nm),(∀j x,Ls[j]?=some x->ρ0.L (k+j)=x.1)->aA ρ0 (gB N.F.len k gs)=aA ρ cs) /\
   ∀(j:Nat) x,Ls[j]?=some x->∃a nm,(eF gs)[j]?=some a /\ ns[j]?=some nm /\ N.F.q a x.1 x.2 w /\ pF ρ H nm x.2
 | [],[],gs,b,ns,hk,h,hb,ρ,w,hO=>by
   simp only [nS,aaC,aaF] at h
   obtain⟨rfl,_,rfl⟩:=h
   exact⟨[],rfl,rfl,fun _ _ _=>rfl,fun j x hx=>by simp at hx⟩
 | [],_::_,gs,b,ns,hk,h,hb,ρ,w,hO=>by simp [nS] at h
 | _::_,[],gs,b,ns,hk,h,hb,ρ,w,hO=>by simp [nS] at h
 | k::ks,c::cs,gs,b,ns,hk,h,hb,ρ,w,hO=>by
   simp only [nS] at h
   split at h
   ·rename_i g b1 ns1 h1
    split at h
    ·rename_i gs' b2 ns2 h2
     simp only [aaC,aaF] at h
     obtain⟨rfl,hbb,rfl⟩:=h
     obtain⟨rfl,rfl⟩:b1=true /\ b2=true:=by cases b1<;>cases b2<;>simp_all
     have dW:xE N ks:=by
      cases k with
      | none=>exact hk
      | some x=>exact hk.2
     obtain⟨Ls,i1,i2,i3,i4⟩:=xN dW h2 rfl hO
     have one:∀(a:AV) (lc:l8) (S:Nat->Prop) (nm:Option Nat),eF (g::gs')=a::eF gs'->ns1=[nm]->N.F.q a lc S w->pF ρ H nm S ->
      (∀(k:Nat) (ρ0:Nm),ρ0.L k=lc->∃d,gB N.F.len k (g::gs')=d::gB N.F.len (k+1) gs' /\ d.aq ρ0=c.aq ρ) ->
      ∃Ls:List (l8×(Nat->Prop)),Ls.length=(eF (g::gs')).length /\ (ns1++ns2).length=Ls.length /\ (∀(k:Nat) (ρ0:Nm),(∀j x,Ls[j]?=some x->ρ0.L (k+j)=x.1)->aA ρ0 (gB N.F.len k (g::gs'))=aA ρ (c::cs)) /\
        ∀(j:Nat) x,Ls[j]?=some x->∃a nm,(eF (g::gs'))[j]?=some a /\ (ns1++ns2)[j]?=some nm /\ N.F.q a x.1 x.2 w /\ pF ρ H nm x.2:=by
      rintro a lc S nm hp rfl hq hpi Qo
      refine⟨(lc,S)::Ls,by rw [hp];simp [i1],by simp [i2],fun k ρ0 hL=>?_,fun j x hx=>?_⟩
      ·obtain⟨d,e1,e2⟩:=Qo k ρ0 (by have:=hL 0 (lc,S) rfl;simpa using this)
       rw [e1]
       simp only [aA,abv] at i3 ⊢
       rw [e2,i3 (k+1) ρ0 fun j x hx=>by have:=hL (j+1) x (by simpa using hx);rwa [show k+(j+1)=k+1+j by omega] at this]
      ·rw [hp]
       cases j with
       | zero =>
         simp only [aeC,aaC] at hx
         subst hx
         exact⟨a,nm,rfl,rfl,hq,hpi⟩
       | succ j =>
         obtain⟨a',nm',j1,j2,j3,j4⟩:=i4 j x (by simpa using hx)
         exact⟨a',nm',by simpa using j1,by simpa using j2,j3,j4⟩
     unfold XW at h1
     split at h1
     ·rename_i rd es
      split at h1
      ·rename_i a len nm hrd
       simp only [aaC,aaF] at h1
       obtain⟨rfl,hlen,rfl⟩:=h1
       obtain⟨lc,S,q1,q2,q3⟩:=hk.1 H c a len nm hrd (aaV hlen) ρ w hO
       exact one a lc S nm rfl rfl q2 q3 fun k ρ0 e=>⟨_,rfl,by rw [q1,<- e];rfl⟩
      ·cases h1
     ·rename_i m
      split at h1
      ·rename_i a hm
       simp only [aaC,aaF] at h1
       obtain⟨rfl,_,rfl⟩:=h1
       exact one a (ρ.L m) (ρ.S m) (some m) rfl rfl (hO.q m _ hm) ⟨_,hm,fun k=>Iff.rfl⟩ fun k ρ0 e=>⟨_,rfl,by simp only [Cell.aq,Nm.f,e]⟩
      ·cases h1
     ·rename_i t m
      split at h1
      ·rename_i a hm
       simp only [aaC,aaF] at h1
       obtain⟨rfl,_,rfl⟩:=h1
       exact one a (ρ.L m) (ρ.S m) (some m) rfl rfl (hO.q m _ hm) ⟨_,hm,fun k=>Iff.rfl⟩ fun k ρ0 e=>⟨_,rfl,by simp only [Cell.aq,Nm.f,e]⟩
      ·cases h1
     ·split at h1
      ·rename_i hn
       simp only [aaC,aaF] at h1
       obtain⟨rfl,_,rfl⟩:=h1
       refine⟨Ls,i1,i2,fun k ρ0 hL=>?_,fun j x hx=>i4 j x hx⟩
       simp only [gB,aA,abv] at i3 ⊢
       have hd:(DQ c).aq ρ0=c.aq ρ:=(yQ ρ0 c).trans (b4 c fun m hm=>by rw [hn] at hm;cases hm)
       rw [i3 k ρ0 hL,hd]
      ·cases h1
    ·cases h
   ·cases h
def aa1 (ln:AV->Nat) (es:Nat) (ty:TypeId) (cs:List (GC AV)):Hp AV:=some (.kD (gB ln 1 cs) es ty)::eN (eF cs)
theorem PS {H:Hp AV} {n:Nat} {ks:List (Option (Rd AV×Nat))} (hks:xE N ks) {l:List Cell} {ty:TypeId} (hH:ae H n=some (.cells l ty)) {gs:List (GC AV)} {ns:List (Option Nat)} (h:nS N.F H ks l=some (gs,true,ns)) (iS:(n::fS ns).Nodup)
 {ρ:Nm} {w:World} (hO:eZ N ρ H w):nu N (fP N.F.len ty gs) (ρ.L n) (iP ρ H n (fS ns)) w:=by
 obtain⟨Ls,i1,i2,i3,i4⟩:=xN hks h rfl hO
 let ρ0:Nm:=⟨fun i=>match i with | 0=>ρ.L n | j+1=>(Ls.getD j (⟨0,0,0⟩,fun _=>False)).1,fun i=>match i with | 0=>fun _=>False | j+1=>(Ls.getD j (⟨0,0,0⟩,fun _=>False)).2⟩
 have e0:∀j x,Ls[j]?=some x->ρ0.L (1+j)=x.1 /\ ρ0.S (1+j)=x.2:=fun j x hx=>by
  rw [Nat.add_comm]
  show (Ls.getD j _).1=_ /\ (Ls.getD j _).2=_
  rw [adX,hx]
  exact⟨rfl,rfl⟩
 refine Ah hO ρ0 iS (fun i m hi=>?_) (fun i c hc=>?_)
 ·cases i with
  | zero=>exact⟨_,rfl⟩
  | succ j =>
    have hj:ns[j]?=some (some m):=by simpa using hi
    have:j < (eF gs).length:=by rw [<- i1,<- i2];exact(abt.1 hj).1
    exact⟨_,(dx _ _ _).2 ⟨_,abj this,rfl⟩⟩
 ·cases i with
  | zero =>
    simp only [fP,ae,aaC] at hc
    subst hc
    refine⟨?_,some n,rfl,_,hH,fun k=>Iff.rfl⟩
    have hq:w.heap[ρ n]?=some (.cells (aA ρ l).toArray ty (0,0)):=hO.q n _ hH
    show w.heap[ρ n]?=some (.cells (aA ρ0 (gB N.F.len 1 gs)).toArray ty (0,0))
    rw [i3 1 ρ0 fun j x hx=>(e0 j x hx).1]
    exact hq
  | succ j =>
    obtain⟨a,ha,rfl⟩:=(dx _ _ _).1 (show ae (eN (eF gs)) j=some c from hc)
    have hj:j < Ls.length:=by rw [i1];exact(abt.1 ha).1
    obtain⟨a',nm,j1,j2,j3,j4⟩:=i4 j _ (abj hj)
    rw [ha] at j1
    cases j1
    obtain⟨e1,e2⟩:=e0 j _ (abj hj)
    rw [Nat.add_comm] at e1 e2
    refine⟨?_,nm,by simpa using j2,?_⟩
    ·show N.F.q a (ρ0.L (j+1)) (ρ0.S (j+1)) w
     rw [e1,e2];exact j3
    ·show pF ρ H nm (ρ0.S (j+1))
     rw [e2];exact j4
theorem aaM {H:Hp AV} {n:Nat} {ks:List (Option (Rd AV×Nat))} (hks:xE N ks) {l:List Cell} {es:Nat} {ty:TypeId} (hH:ae H n=some (.kD l es ty)) {gs:List (GC AV)} {ns:List (Option Nat)} (h:nS N.F H ks l=some (gs,true,ns)) (iS:(n::fS ns).Nodup)
 {ρ:Nm} {w:World} (hO:eZ N ρ H w):nu N (aa1 N.F.len es ty gs) (ρ.L n) (iP ρ H n (fS ns)) w:=by
 obtain⟨Ls,i1,i2,i3,i4⟩:=xN hks h rfl hO
 let ρ0:Nm:=⟨fun i=>match i with | 0=>ρ.L n | j+1=>(Ls.getD j (⟨0,0,0⟩,fun _=>False)).1,fun i=>match i with | 0=>ρ.S n | j+1=>(Ls.getD j (⟨0,0,0⟩,fun _=>False)).2⟩
 have e0:∀j x,Ls[j]?=some x->ρ0.L (1+j)=x.1 /\ ρ0.S (1+j)=x.2:=fun j x hx=>by
  rw [Nat.add_comm]
  show (Ls.getD j _).1=_ /\ (Ls.getD j _).2=_
  rw [adX,hx]
  exact⟨rfl,rfl⟩
 refine Ah hO ρ0 iS (fun i m hi=>?_) (fun i c hc=>?_)
 ·cases i with
  | zero=>exact⟨_,rfl⟩
  | succ j =>
    have hj:ns[j]?=some (some m):=by simpa using hi
    have:j < (eF gs).length:=by rw [<- i1,<- i2];exact(abt.1 hj).1
    exact⟨_,(dx _ _ _).2 ⟨_,abj this,rfl⟩⟩
 ·cases i with
  | zero =>
    simp only [aa1,ae,aaC] at hc
    subst hc
    refine⟨?_,some n,rfl,_,hH,fun k=>Iff.rfl⟩
    have hq:mM (ρ.L n) (ρ.S n) (aA ρ l) es ty w:=hO.q n _ hH
    show mM (ρ.L n) (ρ.S n) (aA ρ0 (gB N.F.len 1 gs)) es ty w
    rw [i3 1 ρ0 fun j x hx=>(e0 j x hx).1]
    exact hq
  | succ j =>
    obtain⟨a,ha,rfl⟩:=(dx _ _ _).1 (show ae (eN (eF gs)) j=some c from hc)
    have hj:j < Ls.length:=by rw [i1];exact(abt.1 ha).1
    obtain⟨a',nm,j1,j2,j3,j4⟩:=i4 j _ (abj hj)
    rw [ha] at j1
    cases j1
    obtain⟨e1,e2⟩:=e0 j _ (abj hj)
    rw [Nat.add_comm] at e1 e2
    refine⟨?_,nm,by simpa using j2,?_⟩
    ·show N.F.q a (ρ0.L (j+1)) (ρ0.S (j+1)) w
     rw [e1,e2];exact j3
    ·show pF ρ H nm (ρ0.S (j+1))
     rw [e2];exact j4
