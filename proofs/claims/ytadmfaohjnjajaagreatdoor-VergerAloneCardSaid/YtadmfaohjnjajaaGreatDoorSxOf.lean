import Derived.Test.YtadmfaohjnjajaaGreatDoorSxAr
set_option linter.unusedVariables false
set_option linter.unusedSimpArgs false
set_option maxHeartbeats 0
set_option maxRecDepth 100000
namespace Go.Sx
section
variable {AV:Type} {P:Program} {N:eI AV}
def Fl (N:eI AV) (H R:Hp AV):Prop:=∀(ρ:Nm) (w:World),gF N ρ H w->∃ρ1,gF N ρ1 R w /\ (∀m,ρ1.L m=ρ.L m) /\ ∀m d k,af R m=some d->d.fp ρ1 m k->∃m' d',af H m'=some d' /\ d'.fp ρ m' k
theorem Fl.refl (H:Hp AV):Fl N H H:=fun ρ _ h=>⟨ρ,h,fun _=>rfl,fun m d k h h'=>⟨m,d,h,h'⟩⟩
theorem Fl.trans {A B C:Hp AV} (h1:Fl N A B) (h2:Fl N B C):Fl N A C:=fun ρ w h=>by obtain⟨ρ1,o1,l1,f1⟩:=h1 ρ w h;obtain⟨ρ2,o2,l2,f2⟩:=h2 ρ1 w o1;refine⟨ρ2,o2,fun m=>(l2 m).trans (l1 m),fun m d k hd hk=>?_⟩;obtain⟨m',d',Bw,eh⟩:=f2 m d k hd hk;exact f1 m' d' k Bw eh
theorem Sd {H:Hp AV} {n:Nat} {ns:List Nat} {a:AV} (hq:∀(ρ:Nm) (w:World),gF N ρ H w->N.F.q a (ρ.L n) (jN ρ H n ns) w):Fl N H (ux n ns a 0 H):=fun ρ w hO=>by
 have hL:∀m,(ρ.set n (ρ.L n) (jN ρ H n ns)).L m=ρ.L m:=fun m=>by by_cases e:m=n<;>simp [Nm.set,e]
 have hSn:(ρ.set n (ρ.L n) (jN ρ H n ns)).S n=jN ρ H n ns:=by simp [Nm.set]
 have hSm:∀m,m≠n->(ρ.set n (ρ.L n) (jN ρ H n ns)).S m=ρ.S m:=fun m e=>by simp [Nm.set,e]
 have hd:∀l,aF (ρ.set n (ρ.L n) (jN ρ H n ns)) l=aF ρ l:=fun l=>by unfold aF;exact adb fun c _=>cg c fun m _=>hL m
 have apart:∀m (c:aK AV) k,m≠n->m ∉ ns->af H m=some c->c.fp ρ m k->jN ρ H n ns k->False:=by
  rintro m c k h1 h2 hc hk ⟨m',d,h3,hd,eh⟩;refine hO.qR m m' c d (fun e=>?_) hc hd k hk eh;subst e;rcases h3 with h3 | h3
  ·exact h1 h3
  ·exact h2 h3
 have sub:∀m d k,af (ux n ns a 0 H) m=some d->d.fp (ρ.set n (ρ.L n) (jN ρ H n ns)) m k->∃m' d',af H m'=some d' /\ d'.fp ρ m' k:=fun m d k h hk=>by
  rcases vJ h with⟨rfl,rfl⟩ | ⟨h1,h2,h3⟩
  ·have hk:(ρ.set m (ρ.L m) (jN ρ H m ns)).S m k:=hk;rw [hSn] at hk;obtain⟨m',d',_,h3,h4⟩:=hk;exact⟨m',d',h3,h4⟩
  ·rw [cY (hL m) (hSm m h1)] at hk;exact⟨m,d,h3,hk⟩
 refine⟨ρ.set n (ρ.L n) (jN ρ H n ns),hO.sub ⟨fun m c h=>?_,fun m m' c d dE h h' k hk eh=>?_,fun g hg=>?_⟩ sub,hL,sub⟩
 ·rcases vJ h with⟨rfl,rfl⟩ | ⟨h1,h2,h3⟩
  ·show N.F.q a _ _ _;rw [hL,hSn];exact hq ρ w hO
  ·exact o7 (hO.q m c h3) (hL m) (hSm m h1) (hd _) (fun _ _=>rfl)
 ·rcases vJ h with⟨rfl,rfl⟩ | ⟨h1,h2,h3⟩
  ·have hk:(ρ.set m (ρ.L m) (jN ρ H m ns)).S m k:=hk;rw [hSn] at hk;rcases vJ h' with⟨rfl,rfl⟩ | ⟨g1,g2,g3⟩
   ·exact dE rfl
   ·rw [cY (hL m') (hSm m' g1)] at eh;exact apart m' d k g1 g2 g3 eh hk
  ·rw [cY (hL m) (hSm m h1)] at hk;rcases vJ h' with⟨rfl,rfl⟩ | ⟨g1,g2,g3⟩
   ·have eh:(ρ.set m' (ρ.L m') (jN ρ H m' ns)).S m' k:=eh;rw [hSn] at eh;exact apart m c k h1 h2 h3 hk eh
   ·rw [cY (hL m') (hSm m' g1)] at eh;exact hO.qR m m' c d dE h3 g3 k hk eh
 ·have:(ρ.set n (ρ.L n) (jN ρ H n ns)) g=ρ g:=by simp only [Nm.f,hL g]
  rw [this];exact hO.rU g hg
def wU (view:Hp AV->Nat->T (AV×List Nat)):List Nat->Hp AV->T (Hp AV)
 | [],H=>.aD H
 | n::r,H=>match af H n with
   | some (.cells _ _)=>(view H n).bind fun x=>wU view r (ux n x.2 x.1 0 H)
   | _=>wU view r H
def GG (N:eI AV) (view:Hp AV->Nat->T (AV×List Nat)):Prop:=∀(H:Hp AV) (n:Nat) (a:AV) (ns:List Nat),(view H n).val=some (a,ns)->∀(ρ:Nm) (w:World),gF N ρ H w->N.F.q a (ρ.L n) (jN ρ H n ns) w
theorem yC {view:Hp AV->Nat->T (AV×List Nat)} (hv:GG N view):∀{l:List Nat} {H R:Hp AV},(wU view l H).val=some R->Fl N H R
 | [],H,R,h=>by simp only [wU,T.val,aaf] at h;subst h;exact Fl.refl H
 | n::r,H,R,h=>by
   simp only [wU] at h;split at h
   ·obtain⟨⟨a,ns⟩,h1,h2⟩:=T.bq h;exact(Sd (hv H n a ns h1)).trans (yC hv h2)
   ·exact yC hv h
def j5:Hp AV->Option (List AV)
 | []=>some []
 | none::r=>j5 r
 | some (.bN a)::r=>match j5 r with | some l=>some (a::l) | none=>none
 | some _::_=>none
def CV:Hp AV->Nat->Nat
 | [],_=>0
 | _::_,0=>0
 | none::r,n+1=>CV r n
 | some _::r,n+1=>CV r n+1
def vm:Hp AV->Nat->Nat
 | [],_=>0
 | none::r,j=>vm r j+1
 | some _::_,0=>0
 | some _::r,j+1=>vm r j+1
theorem EJ:∀{H:Hp AV} {l:List AV},j5 H=some l->∀(j:Nat) (a:AV),l[j]?=some a->af H (vm H j)=some (.bN a)
 | [],l,h,j,a,h'=>by simp only [j5,aaf] at h;subst h;simp at h'
 | none::r,l,h,j,a,h'=>EJ (H:=r) (by simpa [j5] using h) j a h'
 | some (.cells _ _)::r,l,h,j,a,h'=>by simp [j5] at h
 | some (.oB _ _ _)::r,l,h,j,a,h'=>by simp [j5] at h
 | some .kN::r,l,h,j,a,h'=>by simp [j5] at h
 | some (.bN b)::r,l,h,j,a,h'=>by
   simp only [j5] at h;split at h
   ·rename_i q hq;cases h;cases j with
    | zero=>simp only [aeD,aaf] at h';subst h';rfl
    | succ j=>exact EJ (H:=r) hq j a (by simpa using h')
   ·cases h
theorem F0:∀(H:Hp AV) (n:Nat) (c:aK AV),af H n=some c->vm H (CV H n)=n
 | [],n,c,h=>by cases n<;>simp [af] at h
 | none::r,0,c,h=>by simp [af] at h
 | some x::r,0,c,h=>rfl
 | none::r,n+1,c,h=>by simp only [CV,vm];rw [F0 r n c h]
 | some x::r,n+1,c,h=>by simp only [CV,vm];rw [F0 r n c h]
theorem XS {H:Hp AV} {l:List AV} (h:j5 H=some l):∀{i j:Nat},i < l.length->j < l.length->vm H i=vm H j->i=j:=by
 induction H generalizing l with
 | nil=>intro i j hi _ _;simp only [j5,aaf] at h;subst h;simp at hi
 | cons x r ih =>
   intro i j hi hj e;cases x with
   | none=>exact ih (l:=l) (by simpa [j5] using h) hi hj (by simpa [vm] using e)
   | some x =>
     cases x with
     | bN b =>
       simp only [j5] at h;split at h
       ·rename_i q hq;cases h;cases i with
        | zero=>cases j with
          | zero=>rfl
          | succ j=>simp [vm] at e
        | succ i=>cases j with
          | zero=>simp [vm] at e
          | succ j=>exact congrArg (·+1) (ih hq (by simpa using hi) (by simpa using hj) (by simpa [vm] using e))
       ·cases h
     | cells _ _=>simp [j5] at h
     | oB _ _ _=>simp [j5] at h
     | kN=>simp [j5] at h
def HQ (L:Nat) (nK:Hp AV) (n:Nat):Nat:=match Nat.blt n L with
 | true=>n
 | false=>L+CV nK (n - L)
def qU (cL:AV->Nat->Bool):Nat->List Bool->Hp AV->Option (Hp AV)
 | _,[],H=>some H
 | i,true::m,some (.bN a)::r=>match cL a i with | true=>qU cL (i+1) m r | false=>none
 | i,false::m,none::r=>qU cL (i+1) m r
 | _,_,_=>none
theorem yg {cL:AV->Nat->Bool} {sn:Nat->AV} (hs:∀a i,cL a i=true->a=sn i):∀{M:List Bool} {i:Nat} {H R:Hp AV},qU cL i M H=some R->H=cZ sn i M++R
 | [],i,H,R,h=>by simp only [qU,aaf] at h;subst h;rfl
 | true::m,i,some (.bN a)::r,R,h=>by
   simp only [qU] at h;split at h
   ·rename_i ha;rw [yg hs h,hs a i ha];rfl
   ·cases h
 | false::m,i,none::r,R,h=>by simp only [qU] at h;rw [yg hs h];rfl
 | true::m,i,[],R,h=>by simp [qU] at h
 | true::m,i,none::r,R,h=>by simp [qU] at h
 | true::m,i,some (.cells _ _)::r,R,h=>by simp [qU] at h
 | true::m,i,some (.oB _ _ _)::r,R,h=>by simp [qU] at h
 | true::m,i,some .kN::r,R,h=>by simp [qU] at h
 | false::m,i,[],R,h=>by simp [qU] at h
 | false::m,i,some _::r,R,h=>by simp [qU] at h
def rO:Nat->Hp AV->Option (List AV×Hp AV)
 | 0,H=>some ([],H)
 | n+1,some (.bN a)::r=>match rO n r with
   | some (l,q)=>some (a::l,q)
   | none=>none
 | _+1,_=>none
theorem Cr:∀{k:Nat} {H:Hp AV} {l:List AV} {R:Hp AV},rO k H=some (l,R)->H=fA l++R /\ l.length=k
 | 0,H,l,R,h=>by simp only [rO,aaf,aaB] at h;obtain⟨rfl,rfl⟩:=h;exact⟨rfl,rfl⟩
 | n+1,[],l,R,h=>by simp [rO] at h
 | n+1,none::r,l,R,h=>by simp [rO] at h
 | n+1,some (.cells _ _)::r,l,R,h=>by simp [rO] at h
 | n+1,some (.oB _ _ _)::r,l,R,h=>by simp [rO] at h
 | n+1,some .kN::r,l,R,h=>by simp [rO] at h
 | n+1,some (.bN a)::r,l,R,h=>by
   simp only [rO] at h;split at h
   ·rename_i l' q hq;cases h;obtain⟨rfl,h2⟩:=Cr hq;exact⟨rfl,by simp [h2]⟩
   ·cases h
def afx (cL:AV->Nat->Bool) (M:List Bool) (k:Nat) (r:SV×Hp AV):T (SV×List AV×List AV):=match SD r.2 r.1 with
 | false=>.fail "pack: value"
 | true=>match qU cL 0 M r.2 with
   | none=>.fail "pack: variables"
   | some H=>match rO k H with
     | none=>.fail "pack: objects"
     | some (l,q)=>match j5 q with
       | none=>.fail "pack: no object"
       | some nw=>.aD (r.1.cV (HQ (M.length+k) q),l,nw)
def xN:Hp AV->Hp AV
 | []=>[]
 | some .kN::r=>none::xN r
 | x::r=>x::xN r
theorem jK:∀{H:Hp AV} {n:Nat} {c:aK AV},af (xN H) n=some c->af H n=some c
 | [],n,c,h=>by cases n<;>simp [xN,af] at h
 | none::r,0,c,h=>by simp [xN,af] at h
 | none::r,n+1,c,h=>jK (H:=r) h
 | some .kN::r,0,c,h=>by simp [xN,af] at h
 | some .kN::r,n+1,c,h=>jK (H:=r) h
 | some (.cells _ _)::r,0,c,h=>h
 | some (.cells _ _)::r,n+1,c,h=>jK (H:=r) h
 | some (.oB _ _ _)::r,0,c,h=>h
 | some (.oB _ _ _)::r,n+1,c,h=>jK (H:=r) h
 | some (.bN _)::r,0,c,h=>h
 | some (.bN _)::r,n+1,c,h=>jK (H:=r) h
theorem adv (H:Hp AV):Fl N H (xN H):=fun ρ w hO =>
 ⟨ρ,hO.sub ⟨fun n c h=>hO.q n c (jK h),fun n m c d dE h h' k hk eh=>hO.qR n m c d dE (jK h) (jK h') k hk eh,hO.rU⟩ (fun n c k h hk=>⟨n,c,jK h,hk⟩),fun _=>rfl,fun m d k h hk=>⟨m,d,jK h,hk⟩⟩
def I3 (L:Nat) (ks:List Nat):Nat->Hp AV->Hp AV
 | _,[]=>[]
 | i,x::r=>(match Nat.blt i L with | true=>x | false=>match nS ks i with | true=>x | false=>none)::I3 L ks (i+1) r
theorem pV {L:Nat} {ks:List Nat}:∀{H:Hp AV} {i n:Nat} {c:aK AV},af (I3 L ks i H) n=some c->af H n=some c
 | [],i,n,c,h=>by cases n<;>simp [I3,af] at h
 | x::r,i,0,c,h=>by
   have h:(match Nat.blt i L with | true=>x | false=>match nS ks i with | true=>x | false=>none)=some c:=h;show x=some c;split at h
   ·exact h
   ·split at h
    ·exact h
    ·cases h
 | x::r,i,n+1,c,h=>pV (H:=r) (i:=i+1) (n:=n) h
theorem adw (L:Nat) (ks:List Nat) (H:Hp AV):Fl N H (I3 L ks 0 H):=fun ρ w hO =>
 ⟨ρ,hO.sub ⟨fun n c h=>hO.q n c (pV h),fun n m c d dE h h' k hk eh=>hO.qR n m c d dE (pV h) (pV h') k hk eh,hO.rU⟩ (fun n c k h hk=>⟨n,c,pV h,hk⟩),fun _=>rfl,fun m d k h hk=>⟨m,d,pV h,hk⟩⟩
def BO (view:Hp AV->Nat->T (AV×List Nat)) (cL:AV->Nat->Bool) (M:List Bool) (k:Nat) (ns:List Nat) (r:SV×Hp AV):T (SV×List AV×List AV) :=
 (wU view (ns++mP r.1) r.2).bind fun H=>afx cL M k (r.1,I3 (M.length+k) (mP r.1) 0 (xN H))
theorem xe {view:Hp AV->Nat->T (AV×List Nat)} (YU:GG N view) {cL:AV->Nat->Bool} {sn:Nat->AV} (hs:∀a i,cL a i=true->a=sn i) {M:List Bool} (hGM:N.G=M.length) {l:List AV} {ns:List Nat} {f:FuncId} {args:List SV} {H1 H2:Hp AV} {v v':SV} {l' nw:List AV}
 (bZ:∀x∈args,gf (cZ sn 0 M++fA l) x) (ho:Ou N (cZ sn 0 M++fA l) H1) (h01:∀m c,af (cZ sn 0 M++fA l) m=some c->∃c',af H1 m=some c') (hc:rT P N f args H1 v H2)
 (hr:(BO view cL M l.length ns (v,H2)).val=some (v',l',nw)):rT P N f args (cZ sn 0 M++fA l) v' (cZ sn 0 M++fA (l'++nw)) /\ l'.length=l.length:=by
 unfold BO at hr;obtain⟨H30,h3,hr⟩:=T.bq hr;have hfl:=((yC YU h3).trans (adv H30)).trans (adw (M.length+l.length) (mP v) (xN H30));generalize I3 (M.length+l.length) (mP v) 0 (xN H30)=H3 at hr hfl;unfold afx at hr;split at hr
 ·cases hr
 rename_i hcl;have hcl:gf H3 v:=xh.1 hcl;split at hr
 ·cases hr
 rename_i H4 h4;have e4:H3=cZ sn 0 M++H4:=yg hs h4;split at hr
 ·cases hr
 rename_i lq q h5;obtain⟨e5,hl5⟩:=Cr h5;split at hr
 ·cases hr
 rename_i nq h6;simp only [T.val,aaf,aaB] at hr;obtain⟨rfl,rfl,rfl⟩:=hr;subst e5;refine⟨?_,hl5⟩;let L:=M.length+l.length;let π:=HQ L q;have G7:(cZ sn 0 M).length=M.length:=ij sn M 0;have anN:(cZ sn 0 M++fA lq).length=L:=by rw [aaP,G7,we,hl5]
 have g3:∀n,af H3 n=if n < L then af (cZ sn 0 M++fA lq) n else af q (n - L):=fun n=>by rw [e4,<- acA,bA,anN]
 have gR:∀n,af (cZ sn 0 M++fA (lq++nq)) n=if n < L then af (cZ sn 0 M++fA lq) n else af (fA nq) (n - L):=fun n=>by rw [show fA (lq++nq)=fA lq++fA nq by simp [fA],<- acA,bA,anN]
 have isA:∀n c,af (cZ sn 0 M++fA lq) n=some c->∃a,c=.bN a:=fun n c h=>by
  rw [bA] at h;split at h
  ·exact⟨_,((nH sn M 0 n c).1 h).2⟩
  ·obtain⟨a,_,h⟩:=(eW _ _ _).1 h;exact⟨a,h⟩
 have qI:∀n,n < L->π n=n:=fun n h=>by
  show HQ L q n=n;unfold HQ;have e:Nat.blt n L=true:=by simpa [Nat.blt_eq] using h
  rw [e]
 have ak1:∀n,¬n < L->π n=L+CV q (n - L):=fun n h=>by
  show HQ L q n=_;unfold HQ;have e:Nat.blt n L=false:=by
   cases e:Nat.blt n L with
   | false=>rfl
   | true=>rw [Nat.blt_eq] at e;omega
  rw [e]
 let σ:Nat->Nat:=fun n=>if n < L then n else L+vm q (n - L)
 have su:∀n c,af (cZ sn 0 M++fA (lq++nq)) n=some c->af H3 (σ n)=some c /\ ∃a,c=.bN a:=fun n c h=>by
  rw [gR] at h;show af H3 (if n < L then n else L+vm q (n - L))=some c /\ _;split at h
  ·rename_i hn;rw [if_pos hn,g3,if_pos hn];exact⟨h,isA n c h⟩
  ·rename_i hn;obtain⟨a,h1,rfl⟩:=(eW _ _ _).1 h;rw [if_neg hn,g3,if_neg (by omega),adK];exact⟨EJ h6 _ a h1,a,rfl⟩
 have ak0:∀n m c d,af (cZ sn 0 M++fA (lq++nq)) n=some c->af (cZ sn 0 M++fA (lq++nq)) m=some d->σ n=σ m->n=m:=fun n m c d hn hm e=>by
  have e:(if n < L then n else L+vm q (n - L))=(if m < L then m else L+vm q (m - L)):=e;have ln:∀n c,¬n < L->af (cZ sn 0 M++fA (lq++nq)) n=some c->n - L < nq.length:=fun n c hn h=>by rw [gR,if_neg hn] at h;obtain⟨a,h1,_⟩:=(eW _ _ _).1 h;exact(aaS.1 h1).1
  by_cases h1:n < L<;>by_cases h2:m < L
  ·rw [if_pos h1,if_pos h2] at e;exact e
  ·rw [if_pos h1,if_neg h2] at e;omega
  ·rw [if_neg h1,if_pos h2] at e;omega
  ·rw [if_neg h1,if_neg h2] at e;have:=XS h6 (ln n c h1 hn) (ln m d h2 hm) (by omega);omega
 have σπ:∀n c,af H3 n=some c->σ (π n)=n:=fun n c h=>by
  by_cases hn:n < L
  ·rw [qI n hn];exact if_pos hn
  ·rw [ak1 n hn];show (if L+CV q (n - L) < L then _ else L+vm q (L+CV q (n - L) - L))=n;rw [if_neg (by omega),adK];rw [g3,if_neg hn] at h;rw [F0 q _ c h];omega
 have up:∀n c,af H3 n=some c->∃d,af (cZ sn 0 M++fA (lq++nq)) (π n)=some d:=fun n c h=>by
  by_cases hn:n < L
  ·rw [qI n hn,gR,if_pos hn];rw [g3,if_pos hn] at h;exact⟨c,h⟩
  ·rw [ak1 n hn,gR,if_neg (by omega),adK];rw [g3,if_neg hn] at h;have:∀(H:Hp AV) (l:List AV),j5 H=some l->∀n c,af H n=some c->CV H n < l.length:=by
    intro H;induction H with
    | nil=>intro l _ n c h;cases n<;>simp [af] at h
    | cons x r ih =>
      intro l hl n c h;cases x with
      | none =>
        cases n with
        | zero=>simp [af] at h
        | succ n=>exact ih l (by simpa [j5] using hl) n c h
      | some x =>
        cases x with
        | bN b =>
          simp only [j5] at hl;split at hl
          ·rename_i p hp;cases hl;cases n with
           | zero=>simp [CV]
           | succ n=>simpa [CV] using ih p hp n c h
          ·cases hl
        | cells _ _=>simp [j5] at hl
        | oB _ _ _=>simp [j5] at hl
        | kN=>simp [j5] at hl
   have hlt:=this q nq h6 _ c h;exact⟨_,(eW _ _ _).2 ⟨_,aaN hlt,rfl⟩⟩
 obtain⟨hv2,_,Nv⟩:=hc;have clR:eX N (cZ sn 0 M++fA (lq++nq)):=by refine⟨fun n c h=>?_,trivial⟩;obtain⟨_,a,rfl⟩:=su n c h;intro c hc;cases hc
 have ZY:gf (cZ sn 0 M++fA (lq++nq)) (v.cV π):=hcl.cV up;have apH:∀m c,af (cZ sn 0 M++fA l) m=some c->m < L /\ ∃d,af (cZ sn 0 M++fA (lq++nq)) m=some d:=fun m c h=>by
  have hm:m < L:=by have:=b7 h;rw [aaP,G7,we] at this;exact this
  refine⟨hm,?_⟩;rw [gR,if_pos hm];rw [bA,G7] at h ⊢;split at h
  ·rename_i hm';rw [if_pos hm'];exact⟨c,h⟩
  ·rename_i hm';rw [if_neg hm'];obtain⟨a,h1,_⟩:=(eW _ _ _).1 h;have:m - M.length < lq.length:=by rw [hl5];exact(aaS.1 h1).1
   exact⟨_,(eW _ _ _).2 ⟨_,aaN this,rfl⟩⟩
 refine⟨ZY,clR,fun ρ w hO=>?_⟩;obtain⟨ρ1,o1,l1,f1⟩:=ho ρ w hO;have PV:args.map (SV.ay ρ1)=args.map (SV.ay ρ):=adb fun x hx=>SV.cg (bZ x hx) fun m c h=>l1 m (b7 h);rw [<- PV];refine(Nv ρ1 w o1).mono ?_;rintro e w' ⟨ρ2,rfl,o2,hE⟩;obtain⟨ρ3,o3,l3,f3⟩:=hfl ρ2 w' o2;let ρ4:Nm:=⟨fun n=>ρ3.L (σ n),fun n=>ρ3.S (σ n)⟩;have L4:∀n,n < L->ρ4.L n=ρ3.L n:=fun n h=>by show ρ3.L (if n < L then n else _)=_;rw [if_pos h]
 have fp4:∀n (c:aK AV),(∃a,c=.bN a)->c.fp ρ4 n=c.fp ρ3 (σ n):=fun n c ⟨a,e⟩=>by subst e;rfl
 refine⟨ρ4,?_,hO.up2 ⟨⟨fun n c h=>?_,fun n m c d dE h h' k hk eh=>?_,fun g hg=>?_⟩,⟨fun m c h=>(apH m c h).2,fun m c h=>?_,fun m hm h=>?_,?_,fun k hk vD=>?_,fun m c k h hk=>?_,hE.os,hE.tape,hE.output,hE.size⟩⟩⟩
 ·congr 1;rw [SV.lZ];have e1:v.ay (ρ4.cV π)=v.ay ρ3:=SV.cg hcl fun n c h=>by show ρ3.L (σ (π n))=_;rw [σπ n c h]
  have e2:v.ay ρ3=v.ay ρ2:=SV.cg hv2 fun n c _=>l3 n;rw [e1,e2]
 ·obtain⟨h1,a,rfl⟩:=su n c h;exact o3.q (σ n) _ h1
 ·obtain⟨h1,ha⟩:=su n c h;obtain⟨h2,hb⟩:=su m d h';rw [fp4 n c ha] at hk;rw [fp4 m d hb] at eh;exact o3.qR (σ n) (σ m) c d (fun e=>dE (ak0 n m c d h h' e)) h1 h2 k hk eh
 ·have:ρ4 g=ρ3 g:=by show (ρ4.L g).b=(ρ3.L g).b;rw [L4 g (by omega)]
  rw [this];exact o3.rU g hg
 ·obtain⟨hm,_⟩:=apH m c h;obtain⟨c1,h1⟩:=h01 m c h;rw [L4 m hm,l3,hE.kF m c1 h1,l1 m (b7 h)]
 ·have hm':m < L:=by rw [aaP,G7,we] at hm;exact hm
  rw [gR,if_pos hm'];rw [bA,G7] at h ⊢;split
  ·rename_i h1;rw [if_pos h1] at h;exact h
  ·rename_i h1;rw [if_neg h1] at h;exfalso;have:m - M.length < l.length:=by omega
   have h2:=(eW l (m - M.length) _).2 ⟨_,aaN this,rfl⟩;rw [h] at h2;cases h2
 ·rw [aaP,aaP,we,we,aaP];omega
 ·refine hE.mW k hk fun m d hd eh=>?_;obtain⟨m',d',h1,h2⟩:=f1 m d k hd eh;exact vD m' d' h1 h2
 ·obtain⟨h1,ha⟩:=su m c h;rw [fp4 m c ha] at hk;obtain⟨m',d',h2,h3⟩:=f3 (σ m) c k h1 hk;rcases hE.new m' d' k h2 h3 with h4 | ⟨m'',d'',h4,h5⟩
  ·exact .inl h4
  ·exact .inr (f1 m'' d'' k h4 h5)
end
section
variable {AV:Type} {P:Program} {N:eI AV}
def rH (ρ:Nm) (H:Hp AV) (nm:Option Nat) (S:Nat->Prop):Prop:=match nm with
 | some m=>∃d,af H m=some d /\ ∀k,S k↔d.fp ρ m k
 | none=>∀k,¬S k
def je:List (Option Nat)->List Nat
 | []=>[]
 | some n::r=>n::je r
 | none::r=>je r
theorem qe {n:Nat}:∀{l:List (Option Nat)},n∈je l↔some n∈l
 | []=>by simp [je]
 | some m::r=>by simp [je,qe (l:=r)]
 | none::r=>by simp [je,qe (l:=r)]
theorem EV:∀{l:List (Option Nat)},(je l).Nodup->∀{i j m:Nat},l[i]?=some (some m)->l[j]?=some (some m)->i=j
 | [],_,i,j,m,h,_=>by simp at h
 | x::r,hd,i,j,m,h1,h2=>by
   have hr:(je r).Nodup:=by
    cases x with
    | none=>exact hd
    | some y=>exact(ads.1 hd).2
   have no:∀k,x=some m->r[k]?=some (some m)->False:=fun k e h=>by subst e;exact(ads.1 hd).1 (qe.2 (aca h))
   cases i with
   | zero =>
     simp only [aeD,aaf] at h1;cases j with
     | zero=>rfl
     | succ j=>exact(no j h1 (by simpa using h2)).elim
   | succ i =>
     simp only [adU] at h1;cases j with
     | zero =>simp only [aeD,aaf] at h2;exact(no i h2 h1).elim
     | succ j=>exact congrArg (·+1) (EV hr h1 (by simpa using h2))
theorem HU {ρ:Nm} {H:Hp AV} {w:World} (hO:gF N ρ H w) {K:Hp AV} (ρ0:Nm) {n:Nat} {ps:List (Option Nat)} (jQ:(n::je ps).Nodup)
 (hK:∀i m,(some n::ps)[i]?=some (some m)->∃c,af K i=some c)
 (h:∀i c,af K i=some c->c.q N ρ0 i w /\ ∃x,(some n::ps)[i]?=some x /\ rH ρ H x (c.fp ρ0 i)):oK N K (ρ0.L 0) (jN ρ H n (je ps)) w:=by
 have jQ:(je (some n::ps)).Nodup:=jQ;refine⟨ρ0,rfl,⟨fun i c hc=>(h i c hc).1,fun i j c d hij hc hd k hk eh=>?_⟩,fun k=>?_⟩
 ·obtain⟨x,e1,p1⟩:=(h i c hc).2;obtain⟨y,e2,p2⟩:=(h j d hd).2;unfold rH at p1 p2;cases x with
  | none=>exact p1 k hk
  | some m =>
    cases y with
    | none=>exact p2 k eh
    | some m' =>obtain⟨c',g1,g2⟩:=p1;obtain⟨d',g3,g4⟩:=p2;refine hO.qR m m' c' d' (fun e=>hij ?_) g1 g3 k ((g2 k).1 hk) ((g4 k).1 eh);subst e;exact EV jQ e1 e2
 ·constructor
  ·rintro ⟨m,d,h1,h2,h3⟩;have hm:some m∈some n::ps:=by
    rcases h1 with rfl | h1
    ·exact aaV
    ·exact aaW _ (qe.1 h1)
   obtain⟨i,hi⟩:=adQ.1 hm;obtain⟨c,hc⟩:=hK i m hi;obtain⟨x,e1,p1⟩:=(h i c hc).2;rw [hi] at e1;cases e1;obtain⟨d',g1,g2⟩:=p1;rw [h2] at g1;cases g1;exact⟨i,c,hc,(g2 k).2 h3⟩
  ·rintro ⟨i,c,h1,h2⟩;obtain⟨x,e1,p1⟩:=(h i c h1).2;unfold rH at p1;cases x with
   | none=>exact absurd h2 (p1 k)
   | some m =>
     obtain⟨d',g1,g2⟩:=p1;refine⟨m,d',?_,g1,(g2 k).1 h2⟩;rcases aaO.1 (aca e1) with e | e
     ·cases e;exact .inl rfl
     ·exact .inr (qe.2 e)
def Jq {α:Type} (K:AK α) (ex:AV->Option (List α)) (H:Hp AV):Cell->Option (List α×Nat×Option Nat)
 | .dP=>some ([],0,none)
 | .vs n (o+1) len es _=>match Nat.beq es K.es with
   | false=>none
   | true=>match af H n with
     | some (.bN a)=>match ex a with
       | some l=>some (l.drop (o+1),(match Nat.ble (o+1) l.length with | true=>len | false=>(l.drop (o+1)).length+1),some n)
       | none=>none
     | _=>none
 | .vs n 0 len es _=>match Nat.beq es K.es with
   | false=>none
   | true=>match af H n with
     | some (.bN a)=>match ex a with
       | some l=>some (l,len,some n)
       | none=>none
     | some (.oB cs ve ty)=>match Nat.beq ve K.es,Nat.beq ty K.ty with
       | true,true=>match K.BI (cs.length / K.es) cs with
         | some l=>some (l,len,some n)
         | none=>none
       | _,_=>none
     | _=>none
 | _=>none
theorem ke {ρ:Nm} {cs:List Cell} (h:∀c∈cs,c.name=none):aF ρ cs=aF Nm.id cs:=by unfold aF;exact adb fun c hc=>cg c fun m hm=>by rw [h c hc] at hm;cases hm
theorem Hn {α:Type} (K:AK α):∀(k:Nat) (l:List α),K.aT (l.drop k)=(K.aT l).drop (k * K.es)
 | 0,l=>by simp
 | k+1,[]=>by simp [AK.aT]
 | k+1,a::r=>by
   have e:K.aT (a::r)=aF Nm.id (K.enc a)++K.aT r:=rfl;have h:(aF Nm.id (K.enc a)).length=K.es:=by simp [aF,K.len a]
   rw [List.drop_succ_cons,Hn K k r,e,List.drop_append];have h1:(aF Nm.id (K.enc a)).drop ((k+1) * K.es)=[]:=ade (by rw [h,Nat.succ_mul];omega);rw [h1,h,acB];congr 1;rw [Nat.succ_mul];omega
theorem Ol {α:Type} {K:AK α} {l:List α} {o n:Nat} {ρ:Nm} {H:Hp AV} {w:World} {a:AV} {kn:Bool} (hle:o+1<=l.length) (hq:K.q l (ρ.L n) (ρ.S n) w) (ha:af H n=some (.bN a)) :
 ∃lc S,(Cell.vs n (o+1) (l.drop (o+1)).length K.es kn).ay ρ=cH lc 0 (l.drop (o+1)).length K.es /\ K.q (l.drop (o+1)) lc S w /\ rH ρ H (some n) S:=by
 have hvl:=K.jZ l;have hp:=K.tf;rcases hq with⟨_,h2,_⟩ | ⟨h1,h2,row,h3,h4,h5,h6⟩
 ·exfalso;rw [h2] at hvl;have:0 < l.length * K.es:=Nat.mul_pos (by omega) hp;simp only [ac8] at hvl;omega
 ·rw [hvl] at h5;have hc:l.length<=(ρ.L n).c - 1:=Nat.le_of_mul_le_mul_right h5 hp;have em:(ρ.L n).c - 1=(o+1)+((ρ.L n).c - (o+1) - 1):=by omega
  refine⟨⟨(ρ.L n).b,(ρ.L n).o+(o+1) * K.es,(ρ.L n).c - (o+1)⟩,ρ.S n,?_,.inr ⟨by show 0 < (ρ.L n).c - (o+1);omega,h2,row,h3,?_,?_,fun j v hj=>?_⟩,_,ha,fun k=>Iff.rfl⟩
  ·show cH (ρ.L n) (o+1) _ _=_;unfold cH;rw [if_neg (fun h=>by omega),if_neg (fun h=>by have:=h.2;simp only at this;omega)];simp only [Nat.zero_mul,Nat.add_zero];congr 1;omega
  ·show (ρ.L n).o+(o+1) * K.es+((ρ.L n).c - (o+1) - 1) * K.es<=row.length;rw [em,aei] at h4;omega
  ·show (K.aT (l.drop (o+1))).length<=((ρ.L n).c - (o+1) - 1) * K.es;rw [K.jZ,agb];exact ac2 _ (by omega)
  ·rw [Hn,afG] at hj;have:=h6 _ _ hj;show row[(ρ.L n).o+(o+1) * K.es+j]?=some v;rw [<- this,adr]
theorem Aj {α:Type} {K:AK α} {ex:AV->Option (List α)} (hex:∀a l,ex a=some l->∀lc S w,N.F.q a lc S w->K.q l lc S w) {H:Hp AV} {c:Cell} {l:List α} {len:Nat} {nm:Option Nat} (h:Jq K ex H c=some (l,len,nm)) (hlen:len=l.length)
 {ρ:Nm} {w:World} (hO:gF N ρ H w):∃lc S,c.ay ρ=cH lc 0 l.length K.es /\ K.q l lc S w /\ rH ρ H nm S:=by
 unfold Jq at h;split at h
 ·cases h;refine⟨⟨0,0,0⟩,fun _=>False,?_,.inl ⟨by decide,rfl,fun k hk=>hk⟩,fun k hk=>hk⟩;simp [Cell.ay,cH]
 ·rename_i n o aim es kn;cases he:Nat.beq es K.es with
  | false=>rw [he] at h;cases h
  | true =>
  rw [he] at h;have he:=(aG _ _).1 he;subst he;dsimp only at h;split at h
  ·rename_i a ha;split at h
   ·rename_i l' hl;simp only [aaf,aaB] at h;obtain⟨rfl,hln,rfl⟩:=h;have hle:o+1<=l'.length:=by
     cases hb:Nat.ble (o+1) l'.length with
     | true=>exact acZ hb
     | false=>rw [hb] at hln;dsimp only at hln;omega
    rw [Nat.ble_eq_true_of_le hle] at hln;dsimp only at hln;rw [hln,hlen];exact Ol hle (hex a _ hl _ _ _ (hO.q n _ ha)) ha
   ·cases h
  ·cases h
 ·rename_i n aim es kn;cases he:Nat.beq es K.es with
  | false=>rw [he] at h;cases h
  | true =>
  rw [he] at h;have he:=(aG _ _).1 he;subst he;dsimp only at h;split at h
  ·rename_i a ha;split at h
   ·rename_i l' hl;cases h;refine⟨ρ.L n,ρ.S n,?_,hex a _ hl _ _ _ (hO.q n _ ha),_,ha,fun k=>Iff.rfl⟩;rw [<- hlen];rfl
   ·cases h
  ·rename_i cs ve ty ha;split at h
   ·rename_i h1 h2;have h1:=(aG _ _).1 h1;have h2:=(aG _ _).1 h2;subst h1 h2;split at h
    ·rename_i l' hl;cases h;obtain⟨v1,v2⟩:=K.Ac hl;have hq:ng (ρ.L n) (ρ.S n) (aF ρ cs) K.es K.ty w:=hO.q n _ ha;rw [ke v2,<- v1] at hq;refine⟨ρ.L n,ρ.S n,?_,hq,_,ha,fun k=>Iff.rfl⟩;rw [<- hlen];rfl
    ·cases h
   ·cases h
  ·cases h
 ·cases h
end
section
variable {AV:Type} {P:Program} {N:eI AV}
def EN:Cell->Cell
 | .bl b=>.bt b
 | .il k n=>.it k n
 | .iv k n _ _=>.it k n
 | .ir k n _ _ _=>.it k n
 | .st s=>.sv s
 | c=>c
theorem zv (ρ:Nm) (c:Cell):(EN c).ay ρ=c.ay ρ:=by cases c<;>rfl
theorem Ba (c:Cell):(EN c).name=c.name:=by cases c<;>rfl
def CP:List Cell->List Cell
 | []=>[]
 | c::r=>EN c::CP r
theorem EL (l:List Cell):CP l=l.map EN:=by induction l<;>simp [CP, *]
theorem vn (ρ:Nm) (l:List Cell):aF ρ (CP l)=aF ρ l:=by rw [EL];unfold aF;rw [List.map_map];exact adb fun c _=>zv ρ c
def TZ:V1->V1
 | .c x=>.c (EN x)
 | .agg l=>.agg (CP l)
theorem Mt (ρ:Nm) (x:V1):(TZ x).ay ρ=x.ay ρ:=by
 cases x with
 | c x=>exact zv ρ x
 | agg l=>show Value.agg _=_;rw [vn];rfl
def Ms:List V1->List V1
 | []=>[]
 | x::r=>TZ x::Ms r
theorem HY (l:List V1):Ms l=l.map TZ:=by induction l<;>simp [Ms, *]
def XU:SV->SV
 | .v x=>.v (TZ x)
 | .iW l=>.iW (Ms l)
 | x=>x
theorem XT (ρ:Nm) (x:SV):(XU x).ay ρ=x.ay ρ:=by
 cases x with
 | v x=>exact Mt ρ x
 | iW l =>show Value.tuple _=Value.tuple _;rw [HY,List.map_map];have e:l.map (V1.ay ρ ∘ TZ)=l.map (V1.ay ρ):=adb fun x _=>Mt ρ x;rw [e]
 | _=>rfl
theorem Rz {H:Hp AV} {x:V1} (h:jY H x):jY H (TZ x):=by
 intro c hc n hn;cases x with
 | c x =>have hc:c∈[EN x]:=hc;rw [aet.1 hc,Ba] at hn;exact h x (aet.2 rfl) n hn
 | agg l =>have hc:c∈CP l:=hc;rw [EL] at hc;obtain⟨d,hd,rfl⟩:=ac0.1 hc;rw [Ba] at hn;exact h d hd n hn
theorem aci {H:Hp AV} {x:SV} (h:gf H x):gf H (XU x):=by
 cases x with
 | v x=>exact Rz h
 | iW l =>intro y hy;have hy:y∈Ms l:=hy;rw [HY] at hy;obtain⟨z,hz,rfl⟩:=ac0.1 hy;exact Rz (h z hz)
 | lU=>exact h
 | xz f l=>exact h
def XV {β:Type}:SV×β->SV×β
 | (v,r)=>(XU v,r)
theorem DC {f:FuncId} {args:List SV} {H R:Hp AV} {v:SV} (hc:rT P N f args H v R):rT P N f args H (XU v) R :=
 rA hc (aci hc.1) fun ρ=>XT ρ v
end
section
variable {AV:Type} {P:Program} {N:eI AV}
inductive GC (AV:Type) where
 | p (c:Cell) | s (a:AV) (es:Nat) | r (a:AV) | i (t:TypeId) (a:AV)
def iK (ln:AV->Nat):Nat->List (GC AV)->List Cell
 | _,[]=>[]
 | k,.p c::r=>c::iK ln k r
 | k,.s a es::r=>.vs k 0 (ln a) es false::iK ln (k+1) r
 | k,.r _::r=>.ptr k 0::iK ln (k+1) r
 | k,.i t _::r=>.xP t (.ptr k 0)::iK ln (k+1) r
def gj:List (GC AV)->List AV
 | []=>[]
 | .p _::r=>gj r
 | .s a _::r=>a::gj r
 | .r a::r=>a::gj r
 | .i _ a::r=>a::gj r
def gk (ln:AV->Nat) (ty:TypeId) (cs:List (GC AV)):Hp AV:=some (.cells (iK ln 1 cs) ty)::fA (gj cs)
abbrev Rd (AV:Type):=Hp AV->Cell->Option (AV×Nat×Option Nat)
def Zr (F:gX AV) (H:Hp AV):Option (Rd AV×Nat)->Cell->Option (GC AV×Bool×List (Option Nat))
 | some (rd,es),c=>match rd H c with
   | some (a,len,nm)=>some (.s a es,decide (len=F.len a),[nm])
   | none=>none
 | none,.ptr m 0=>match af H m with
   | some (.bN a)=>some (.r a,true,[some m])
   | _=>none
 | none,.xP t (.ptr m 0)=>match af H m with
   | some (.bN a)=>some (.i t a,true,[some m])
   | _=>none
 | none,c=>match c.name with
   | none=>some (.p (EN c),true,[])
   | some _=>none
def ru (F:gX AV) (H:Hp AV):List (Option (Rd AV×Nat))->List Cell->Option (List (GC AV)×Bool×List (Option Nat))
 | [],[]=>some ([],true,[])
 | k::ks,c::cs=>match Zr F H k c with
   | some (g,b,ns)=>match ru F H ks cs with
     | some (gs,b',ns')=>some (g::gs,(match b with | true=>b' | false=>false),ns++ns')
     | none=>none
   | none=>none
 | _,_=>none
def U7 (N:eI AV) (rd:Rd AV) (es:Nat):Prop:=∀H c a len nm,rd H c=some (a,len,nm)->len=N.F.len a->∀ρ w,gF N ρ H w->∃lc S,c.ay ρ=cH lc 0 (N.F.len a) es /\ N.F.q a lc S w /\ rH ρ H nm S
def MZ (N:eI AV):List (Option (Rd AV×Nat))->Prop
 | []=>True
 | none::r=>MZ N r
 | some (rd,es)::r=>U7 N rd es /\ MZ N r
theorem FI {H:Hp AV}:∀{ks:List (Option (Rd AV×Nat))} {cs:List Cell} {gs:List (GC AV)} {b:Bool} {ns:List (Option Nat)},MZ N ks->ru N.F H ks cs=some (gs,b,ns)->b=true->∀{ρ:Nm} {w:World},gF N ρ H w ->
 ∃Ls:List (m9×(Nat->Prop)),Ls.length=(gj gs).length /\ ns.length=Ls.length /\ (∀(k:Nat) (ρ0:Nm),(∀j x,Ls[j]?=some x->ρ0.L (k+j)=x.1)->aF ρ0 (iK N.F.len k gs)=aF ρ cs) /\
   ∀(j:Nat) x,Ls[j]?=some x->∃a nm,(gj gs)[j]?=some a /\ ns[j]?=some nm /\ N.F.q a x.1 x.2 w /\ rH ρ H nm x.2
 | [],[],gs,b,ns,hk,h,hb,ρ,w,hO=>by simp only [ru,aaf,aaB] at h;obtain⟨rfl,_,rfl⟩:=h;exact⟨[],rfl,rfl,fun _ _ _=>rfl,fun j x hx=>by simp at hx⟩
 | [],_::_,gs,b,ns,hk,h,hb,ρ,w,hO=>by simp [ru] at h
 | _::_,[],gs,b,ns,hk,h,hb,ρ,w,hO=>by simp [ru] at h
 | k::ks,c::cs,gs,b,ns,hk,h,hb,ρ,w,hO=>by
   simp only [ru] at h;split at h
   ·rename_i g b1 ns1 h1;split at h
    ·rename_i gs' b2 ns2 h2;simp only [aaf,aaB] at h;obtain⟨rfl,hbb,rfl⟩:=h;obtain⟨rfl,rfl⟩:b1=true /\ b2=true:=by cases b1<;>cases b2<;>simp_all
     have eh:MZ N ks:=by
      cases k with
      | none=>exact hk
      | some x=>exact hk.2
     obtain⟨Ls,i1,i2,i3,i4⟩:=FI eh h2 rfl hO
     have one:∀(a:AV) (lc:m9) (S:Nat->Prop) (nm:Option Nat),gj (g::gs')=a::gj gs'->ns1=[nm]->N.F.q a lc S w->rH ρ H nm S ->
      (∀(k:Nat) (ρ0:Nm),ρ0.L k=lc->∃d,iK N.F.len k (g::gs')=d::iK N.F.len (k+1) gs' /\ d.ay ρ0=c.ay ρ) ->
      ∃Ls:List (m9×(Nat->Prop)),Ls.length=(gj (g::gs')).length /\ (ns1++ns2).length=Ls.length /\ (∀(k:Nat) (ρ0:Nm),(∀j x,Ls[j]?=some x->ρ0.L (k+j)=x.1)->aF ρ0 (iK N.F.len k (g::gs'))=aF ρ (c::cs)) /\
        ∀(j:Nat) x,Ls[j]?=some x->∃a nm,(gj (g::gs'))[j]?=some a /\ (ns1++ns2)[j]?=some nm /\ N.F.q a x.1 x.2 w /\ rH ρ H nm x.2:=by
      rintro a lc S nm hp rfl hq hpi R7;refine⟨(lc,S)::Ls,by rw [hp];simp [i1],by simp [i2],fun k ρ0 hL=>?_,fun j x hx=>?_⟩
      ·obtain⟨d,e1,e2⟩:=R7 k ρ0 (by have:=hL 0 (lc,S) rfl;simpa using this);rw [e1];simp only [aF,aaU] at i3 ⊢;rw [e2,i3 (k+1) ρ0 fun j x hx=>by have:=hL (j+1) x (by simpa using hx);rwa [show k+(j+1)=k+1+j by omega] at this]
      ·rw [hp];cases j with
       | zero =>simp only [aeD,aaf] at hx;subst hx;exact⟨a,nm,rfl,rfl,hq,hpi⟩
       | succ j =>obtain⟨a',nm',j1,j2,j3,j4⟩:=i4 j x (by simpa using hx);exact⟨a',nm',by simpa using j1,by simpa using j2,j3,j4⟩
     unfold Zr at h1;split at h1
     ·rename_i rd es;split at h1
      ·rename_i a len nm hrd;simp only [aaf,aaB] at h1;obtain⟨rfl,hlen,rfl⟩:=h1;obtain⟨lc,S,q1,q2,q3⟩:=hk.1 H c a len nm hrd (aaF hlen) ρ w hO;exact one a lc S nm rfl rfl q2 q3 fun k ρ0 e=>⟨_,rfl,by rw [q1,<- e];rfl⟩
      ·cases h1
     ·rename_i m;split at h1
      ·rename_i a hm;simp only [aaf,aaB] at h1;obtain⟨rfl,_,rfl⟩:=h1;exact one a (ρ.L m) (ρ.S m) (some m) rfl rfl (hO.q m _ hm) ⟨_,hm,fun k=>Iff.rfl⟩ fun k ρ0 e=>⟨_,rfl,by simp only [Cell.ay,Nm.f,e]⟩
      ·cases h1
     ·rename_i t m;split at h1
      ·rename_i a hm;simp only [aaf,aaB] at h1;obtain⟨rfl,_,rfl⟩:=h1;exact one a (ρ.L m) (ρ.S m) (some m) rfl rfl (hO.q m _ hm) ⟨_,hm,fun k=>Iff.rfl⟩ fun k ρ0 e=>⟨_,rfl,by simp only [Cell.ay,Nm.f,e]⟩
      ·cases h1
     ·split at h1
      ·rename_i hn;simp only [aaf,aaB] at h1;obtain⟨rfl,_,rfl⟩:=h1;refine⟨Ls,i1,i2,fun k ρ0 hL=>?_,fun j x hx=>i4 j x hx⟩;simp only [iK,aF,aaU] at i3 ⊢;have hd:(EN c).ay ρ0=c.ay ρ:=(zv ρ0 c).trans (cg c fun m hm=>by rw [hn] at hm;cases hm);rw [i3 k ρ0 hL,hd]
      ·cases h1
    ·cases h
   ·cases h
theorem Rw {H:Hp AV} {n:Nat} {ks:List (Option (Rd AV×Nat))} (hks:MZ N ks) {l:List Cell} {ty:TypeId} (hH:af H n=some (.cells l ty)) {gs:List (GC AV)} {ns:List (Option Nat)} (h:ru N.F H ks l=some (gs,true,ns)) (jQ:(n::je ns).Nodup)
 {ρ:Nm} {w:World} (hO:gF N ρ H w):oK N (gk N.F.len ty gs) (ρ.L n) (jN ρ H n (je ns)) w:=by
 obtain⟨Ls,i1,i2,i3,i4⟩:=FI hks h rfl hO;let ρ0:Nm:=⟨fun i=>match i with | 0=>ρ.L n | j+1=>(Ls.getD j (⟨0,0,0⟩,fun _=>False)).1,fun i=>match i with | 0=>fun _=>False | j+1=>(Ls.getD j (⟨0,0,0⟩,fun _=>False)).2⟩;have e0:∀j x,Ls[j]?=some x->ρ0.L (1+j)=x.1 /\ ρ0.S (1+j)=x.2:=fun j x hx=>by rw [Nat.add_comm];show (Ls.getD j _).1=_ /\ (Ls.getD j _).2=_;rw [ac7,hx];exact⟨rfl,rfl⟩
 refine HU hO ρ0 jQ (fun i m hi=>?_) (fun i c hc=>?_)
 ·cases i with
  | zero=>exact⟨_,rfl⟩
  | succ j =>
    have hj:ns[j]?=some (some m):=by simpa using hi
    have:j < (gj gs).length:=by rw [<- i1,<- i2];exact(aaS.1 hj).1
    exact⟨_,(eW _ _ _).2 ⟨_,aaN this,rfl⟩⟩
 ·cases i with
  | zero =>simp only [gk,af,aaf] at hc;subst hc;refine⟨?_,some n,rfl,_,hH,fun k=>Iff.rfl⟩;have hq:w.heap[ρ n]?=some (.cells (aF ρ l).toArray ty (0,0)):=hO.q n _ hH;show w.heap[ρ n]?=some (.cells (aF ρ0 (iK N.F.len 1 gs)).toArray ty (0,0));rw [i3 1 ρ0 fun j x hx=>(e0 j x hx).1];exact hq
  | succ j =>
    obtain⟨a,ha,rfl⟩:=(eW _ _ _).1 (show af (fA (gj gs)) j=some c from hc);have hj:j < Ls.length:=by rw [i1];exact(aaS.1 ha).1
    obtain⟨a',nm,j1,j2,j3,j4⟩:=i4 j _ (aaN hj);rw [ha] at j1;cases j1;obtain⟨e1,e2⟩:=e0 j _ (aaN hj);rw [Nat.add_comm] at e1 e2;refine⟨?_,nm,by simpa using j2,?_⟩
    ·show N.F.q a (ρ0.L (j+1)) (ρ0.S (j+1)) w;rw [e1,e2];exact j3
    ·show rH ρ H nm (ρ0.S (j+1));rw [e2];exact j4
