import Derived.Test.YtadmfaohjnjajaaGreatDoorSxL1
set_option linter.unusedVariables false
set_option linter.unusedSimpArgs false
set_option maxHeartbeats 0
set_option maxRecDepth 100000
namespace Go.Sx
section
variable {AV:Type} {P:Program} {N:eI AV}
theorem B6 {cX:Callee AV} {base:Nat} {all:List Oper}:∀(r:List Oper) (i:Nat) (s s':St AV),(pD N cX base all i r s).val=some s'->s.H.length<=s'.H.length
 | [],i,s,s',h=>by simp only [pD,T.val,aaf] at h;subst h;exact ab4 _
 | o::r,i,s,s',h=>by simp only [pD] at h;obtain⟨⟨s₁,en⟩,h1,h2⟩:=T.bq h;exact abz (sm h1) (B6 r (i+1) s₁ s' h2)
structure wo (s t:St AV):Prop where
 H:s.H=t.H
 E:∀k,aJ s.E k=aJ t.E k
theorem wo.refl (s:St AV):wo s s:=⟨rfl,fun _=>rfl⟩
theorem wo.rP {s t:St AV} (h:wo s t) (G:Nat):rP G s.H s.E=rP G t.H t.E:=by funext x;rw [h.H];cases x<;>simp only [Sx.rP];rw [h.E]
theorem wo.wanted {s t:St AV} (h:wo s t) (all:List Oper) (o:Oper):iO all o s.E=iO all o t.E:=by
 unfold iO;cases o.guard with
 | none=>rfl
 | some p =>
   obtain⟨j,w⟩:=p;simp only;cases yQ all j with
   | none=>rfl
   | some oj =>
     simp only;cases oj.dst with
     | none=>rfl
     | some d=>simp only;rw [h.E]
theorem sN (E:Ev) (dst:Option Nat) (v:SV) (k:Nat):aJ (kI E dst v) k=if dst=some k then v else aJ E k:=by
 cases dst with
 | none=>simp [kI]
 | some d=>rw [zD];simp
theorem wo.put {E E':Ev} (h:∀k,aJ E k=aJ E' k) (dst:Option Nat) (v:SV):∀k,aJ (kI E dst v) k=aJ (kI E' dst v) k:=by intro k;rw [sN,sN,h]
section
variable (N) (cX:Callee AV) (base:Nat) (bY:Array Oper)
def ye (Φ:St AV->Prop):Nat->Array Bool->List (Nat×rD)->St AV->Prop
 | 0,listed,_,s=>Region.ready .any bY listed=[] /\ Φ s
 | f+1,listed,log,s=>(Region.ready .any bY listed=[]->Φ s) /\
     ∀i∈Region.ready .any bY listed,∀o,bY[i]?=some o->∃s' en,(nB N cX base bY.toList i o s).val=some (s',en) /\
       (∀p∈log,rf bY.toList 12 i p.1=false->eE p.2 en=true) /\ ye Φ f (listed.setIfInBounds i true) ((i,en)::log) s'
end
theorem O5 {cX:Callee AV} {base:Nat} {all:List Oper} {i:Nat} {o:Oper} {s t s':St AV} {en:rD} (hl:wo s t) (h:(nB N cX base all i o s).val=some (s',en)) :
 ∃t',(nB N cX base all i o t).val=some (t',en) /\ wo s' t':=by
 rw [pR] at h;obtain⟨p,hp,h⟩:=aaM.1 h;obtain⟨⟨v,H',e⟩,he,hr⟩:=aaT.1 h;cases hr;refine⟨{E:=kI t.E o.dst v,H:=H'},?_,⟨rfl,wo.put hl.E _ _⟩⟩;rw [pR,<- hl.wanted,hp,<- hl.rP,<- hl.H];simp only [Option.bind_some,he];rfl
theorem y6 {cX:Callee AV} {base:Nat} {bY:Array Oper} {Φ:St AV->Prop} (hΦ:∀s t,wo s t->Φ s->Φ t):∀(f:Nat) (listed:Array Bool) (log aii:List (Nat×rD)) (s t:St AV),wo s t->(∀p∈aii,p∈log) ->
 ye N cX base bY Φ f listed log s->ye N cX base bY Φ f listed aii t
 | 0,_,_,_,s,t,hl,_,h=>⟨h.1,hΦ s t hl h.2⟩
 | f+1,listed,log,aii,s,t,hl,zQ,h=>by
   refine⟨fun hr=>hΦ s t hl (h.1 hr),fun i hi o ho=>?_⟩;obtain⟨s',en,h1,h2,h3⟩:=h.2 i hi o ho;obtain⟨t',h1',Co⟩:=O5 hl h1;refine⟨t',en,h1',fun p hp=>h2 p (zQ p hp),y6 hΦ f _ _ _ s' t' Co ?_ h3⟩;intro p hp;rcases aaO.1 hp with rfl | hp
   ·simp
   ·exact aaW _ (zQ p hp)
def akj (bY:Array Oper) (listed:Array Bool):Prop:=∀j o,bY[j]?=some o->listed.getD j false=true->∀e∈o.after,Region.binds .any e=true->listed.getD e.on false=true
theorem pI:∀{l:List Edge} {i:Nat},rm l i=true->∃e∈l,Region.binds .any e=true /\ e.on=i
 | [],_,h=>by simp [rm] at h
 | e::r,i,h=>by
   simp only [rm] at h;split at h
   ·rename_i hb;split at h
    ·rename_i he;exact⟨e,by simp,hb,(aG _ _).1 he⟩
    ·obtain⟨e',h1,h2⟩:=pI h;exact⟨e',by simp [h1],h2⟩
   ·obtain⟨e',h1,h2⟩:=pI h;exact⟨e',by simp [h1],h2⟩
theorem BU {rec:Nat->Bool}:∀{l:List Edge},U2 rec l=true->∃e∈l,Region.binds .any e=true /\ rec e.on=true
 | [],h=>by simp [U2] at h
 | e::r,h=>by
   simp only [U2] at h;split at h
   ·rename_i hb;split at h
    ·rename_i he;exact⟨e,by simp,hb,he⟩
    ·obtain⟨e',h1,h2⟩:=BU h;exact⟨e',by simp [h1],h2⟩
   ·obtain⟨e',h1,h2⟩:=BU h;exact⟨e',by simp [h1],h2⟩
theorem Gt {bY:Array Oper} {listed:Array Bool} (hd:akj bY listed):∀(f j i:Nat) (o:Oper),bY[j]?=some o->(∀e∈o.after,Region.binds .any e=true->listed.getD e.on false=true)->rf bY.toList f j i=true->listed.getD i false=true
 | 0,_,_,_,_,_,h=>by simp [rf] at h
 | f+1,j,i,o,ho,CT,h=>by
   simp only [rf,nth_eq,Array.getElem?_toList,ho] at h;split at h
   ·rename_i he;obtain⟨e,h1,h2,rfl⟩:=pI he;exact CT e (afF.1 h1) h2
   ·obtain⟨e,h1,h2,h3⟩:=BU h;have hl:=CT e (afF.1 h1) h2;cases hoe:bY[e.on]? with
    | none =>
      cases f with
      | zero=>simp [rf] at h3
      | succ f=>simp [rf,nth_eq,hoe] at h3
    | some o'=>exact Gt hd f e.on i o' hoe (fun e' he' OB=>hd e.on o' hoe hl e' he' OB) h3
def aaJ (bY:Array Oper):Prop:=∀i j oi oj,i≠j->bY[i]?=some oi->bY[j]?=some oj->(∀e∈oj.after,Region.binds .any e=true->e.on≠i)->(∀e∈oi.after,Region.binds .any e=true->e.on≠j) ->
 (∀d,oi.dst=some d->d ∉ oj.looksAt bY) /\ (∀d,oj.dst=some d->d ∉ oi.looksAt bY) /\ (∀d,oi.dst=some d->oj.dst≠some d)
theorem qA {bY:Array Oper} {j:Nat} {oj:Oper}:∀{l:List Oper} {k:Nat},pW bY j oj k l=true->∀m oi,l[m]?=some oi->k+m < j->rm oj.after.toList (k+m)=true \/ oi.apart bY oj=true
 | [],_,_,m,oi,hm,_=>by simp at hm
 | x::r,k,h,m,oi,hm,hlt=>by
   simp only [pW] at h;split at h
   ·rename_i hb;have:=(jM _ _).1 hb;omega
   ·split at h
    ·rename_i he;cases m with
     | zero=>exact .inl he
     | succ m=>have:=qA h m oi (by simpa using hm) (by omega);rw [show k+(m+1)=k+1+m from by omega];exact this
    ·split at h
     ·rename_i hap;cases m with
      | zero=>simp at hm;subst hm;exact .inr hap
      | succ m=>have:=qA h m oi (by simpa using hm) (by omega);rw [show k+(m+1)=k+1+m from by omega];exact this
     ·cases h
theorem xW {bY:Array Oper} {all:List Oper}:∀{l:List Oper} {k:Nat},s9 bY all k l=true->∀m oj,l[m]?=some oj->pW bY (k+m) oj 0 all=true
 | [],_,_,m,oj,hm=>by simp at hm
 | x::r,k,h,m,oj,hm=>by
   simp only [s9] at h;split at h
   ·rename_i hx;cases m with
    | zero=>simp at hm;subst hm;exact hx
    | succ m=>have:=xW h m oj (by simpa using hm);rw [show k+(m+1)=k+1+m from by omega];exact this
   ·cases h
theorem aan {bY:Array Oper} (h:s9 bY bY.toList 0 bY.toList=true):aaJ bY:=by
 have key:∀i j oi oj,i < j->bY[i]?=some oi->bY[j]?=some oj->(∀e∈oj.after,Region.binds .any e=true->e.on≠i)->oi.apart bY oj=true:=by
  intro i j oi oj hlt hi hj vD;have h1:=xW h j oj (by simpa using hj);rw [aby] at h1;rcases qA h1 i oi (by simpa using hi) (by omega) with h2 | h2
  ·rw [aby] at h2;obtain⟨e,h3,h4,h5⟩:=pI h2;exact absurd h5 (vD e (afF.1 h3) h4)
  ·exact h2
 intro i j oi oj dE hi hj h1 h2;rcases Nat.lt_or_gt_of_ne dE with hlt | hlt
 ·obtain⟨a1,a2,a3⟩:=Oper.apart_spec (key i j oi oj hlt hi hj h1);exact⟨a1,a3,a2⟩
 ·obtain⟨a1,a2,a3⟩:=Oper.apart_spec (key j i oj oi hlt hj hi h2);exact⟨a3,a1,fun d hd he=>a2 d he hd⟩
theorem Si {G:Nat} {H H':Hp AV} {E:Ev} {dst:Option Nat} {v:SV} {x:Operand} (h:∀d,dst=some d->x≠.tmp d) (hg:∀g,g < G->(af H' g).isSome=(af H g).isSome):rP G H' (kI E dst v) x=rP G H E x:=by
 cases x with
 | tmp t =>simp only [rP,sN];rw [if_neg];intro e;exact h t e rfl
 | const c=>rfl
 | global g =>
   simp only [rP];cases hb:Nat.blt g G with
   | false=>rfl
   | true =>have:=hg g ((fT _ _).1 hb);cases h1:af H' g<;>cases h2:af H g<;>simp_all
 | func f=>rfl
theorem MP {bY:Array Oper} {o:Oper} {d:Nat} (h:d ∉ o.looksAt bY):∀x∈o.op.operands,x≠.tmp d:=by intro x hx e;subst e;refine h ?_;unfold Oper.looksAt;refine adg.2 (.inl (List.mem_filterMap.2 ⟨.tmp d,afF.2 hx,rfl⟩))
theorem B0 {bY:Array Oper} {o:Oper} {E:Ev} {dst:Option Nat} {v:SV} (h:∀d,dst=some d->d ∉ o.looksAt bY):iO bY.toList o (kI E dst v)=iO bY.toList o E:=by
 unfold iO;cases hg:o.guard with
 | none=>rfl
 | some p =>
   obtain⟨j,w⟩:=p;simp only [nth_eq,Array.getElem?_toList];cases hj:bY[j]? with
   | none=>rfl
   | some oj =>
     simp only;cases hd:oj.dst with
     | none=>rfl
     | some d =>simp only;rw [sN,if_neg];intro e;refine h d e ?_;unfold Oper.looksAt;refine adg.2 (.inr ?_);simp [hg,hj,hd]
theorem J8:∀(all:List Oper) (b i:Nat) (o:Oper),all[i]?=some o->E7 o.op=true->o8 all b i < b+fG all
 | [],_,_,_,h,_=>by simp at h
 | x::r,b,0,o,h,hm=>by simp at h;subst h;simp only [o8,fG,hm];omega
 | x::r,b,i+1,o,h,hm=>by
   simp only [o8,fG];cases hx:E7 x.op with
   | true=>have:=J8 r (b+1) i o (by simpa using h) hm;simp only;omega
   | false=>have:=J8 r b i o (by simpa using h) hm;simp only;omega
theorem O6 {cX:Callee AV} {base:Nat} {bY:Array Oper} {i j:Nat} {oi oj:Oper} {s s1 s12:St AV} {ei ej:rD} (hcl:bO N s) (hGb:N.G<=base) (hroom:base+fG bY.toList<=s.H.length)
 (hoi:bY[i]?=some oi) (Vg:bY[j]?=some oj) (hap:(∀d,oi.dst=some d->d ∉ oj.looksAt bY) /\ (∀d,oj.dst=some d->d ∉ oi.looksAt bY) /\ (∀d,oi.dst=some d->oj.dst≠some d))
 (h1:(nB N cX base bY.toList i oi s).val=some (s1,ei)) (h2:(nB N cX base bY.toList j oj s1).val=some (s12,ej)) (hc:eE ei ej=true) :
 ∃s2 s21,(nB N cX base bY.toList j oj s).val=some (s2,ej) /\ (nB N cX base bY.toList i oi s2).val=some (s21,ei) /\ wo s12 s21:=by
 obtain⟨p1,p2,p3⟩:=hap;rw [pR] at h1 h2;obtain⟨wi,hwi,h1⟩:=aaM.1 h1;obtain⟨wj,hwj,h2⟩:=aaM.1 h2;obtain⟨⟨vi,Hi,ei'⟩,he1,hr1⟩:=aaT.1 h1;cases hr1;obtain⟨⟨vj,Hij,ej'⟩,he2,rj⟩:=aaT.1 h2;cases rj;simp only at he2 hwj;rw [B0 p1] at hwj;have nmi:N.G<=o8 bY.toList base i:=abz hGb (zw _ _ _);have nmj:N.G<=o8 bY.toList base j:=abz hGb (zw _ _ _);have hGH:N.G<=s.H.length:=by omega
 rw [I2 (tY:=rP N.G s.H s.E) (fun x hx=>Si (fun d hd=>MP (p1 d hd) x hx) (Sq he1 nmi hGH))] at he2;have clx:∀x v,rP N.G s.H s.E x=some v->gf s.H v:=fun x v hx=>yF hcl hx;have fits:∀k o,bY[k]?=some o->aeB N o.op (o8 bY.toList base k) (rP N.G s.H s.E) s.H:=fun k o ho =>
  ⟨fun x _ v hv=>clx x v hv,fun hm=>Nat.lt_of_lt_of_le (J8 bY.toList base k o (by simpa using ho) hm) hroom⟩
 obtain⟨Hj,k1,k2⟩:=ZE (fits i oi hoi) (fits j oj Vg) he1 he2 hc;refine⟨{E:=kI s.E oj.dst vj,H:=Hj},{E:=kI (kI s.E oj.dst vj) oi.dst vi,H:=Hij},?_,?_,⟨rfl,fun k=>?_⟩⟩
 ·rw [pR,hwj];simp only [Option.bind_some,k1];rfl
 ·rw [pR];simp only;rw [B0 p2,hwi];simp only [Option.bind_some];rw [I2 (tY:=rP N.G s.H s.E) (fun x hx=>Si (fun d hd=>MP (p2 d hd) x hx) (Sq k1 nmj hGH)),k2];rfl
 ·simp only [sN];by_cases h1:oj.dst=some k
  ·rw [if_pos h1,if_neg (fun h=>p3 k h h1),if_pos h1]
  ·rw [if_neg h1,if_neg h1]
section sound
variable (hT:fN P N) {cX:Callee AV} (cR:gZ P N cX) {base:Nat} {bY:Array Oper}
include hT cR in
theorem Th {nt L:Nat} (hL:L<=base) (hGb:N.G<=base) {Φ:St AV->Prop} (hΦ:∀s t,wo s t->Φ s->Φ t) (hap:aaJ bY) (hd:∀(k:Nat) (o:Oper),bY[k]?=some o->∀d,o.dst=some d->d < nt) {i:Nat} {oi:Oper} (hoi:bY[i]?=some oi) :
 ∀(f:Nat) (listed:Array Bool) (log:List (Nat×rD)) (s s1:St AV) (en:rD),listed.size=bY.size->akj bY listed->bO N s->L<=s.H.length->base+fG bY.toList<=s.H.length->i∈Region.ready .any bY listed ->
   (nB N cX base bY.toList i oi s).val=some (s1,en)->(∀p∈log,rf bY.toList 12 i p.1=false->eE p.2 en=true) ->
   ye N cX base bY Φ f (listed.setIfInBounds i true) ((i,en)::log) s1->ye N cX base bY Φ (f+1) listed log s:=by
 intro f;induction f with
 | zero =>
   intro listed log s s1 en _ _ _ _ _ hr h1 Np H;refine⟨fun h0=>(by rw [h0] at hr;cases hr),fun j hj o ho=>?_⟩;by_cases hji:j=i
   ·subst hji;rw [hoi] at ho;cases ho;exact⟨s1,en,h1,Np,H⟩
   ·have:=ready_mono hj hji;rw [H.1] at this;cases this
 | succ f ih =>
   intro listed log s s1 en tP af4 hcl hH hroom hr h1 Np H;refine⟨fun h0=>(by rw [h0] at hr;cases hr),fun j hj oj Vg=>?_⟩;by_cases hji:j=i
   ·subst hji;rw [hoi] at Vg;cases Vg;exact⟨s1,en,h1,Np,H⟩
   ·obtain⟨s12,ej,h2,afW,H2⟩:=H.2 j (ready_mono hj hji) oj Vg;obtain⟨ui,oi',aoh,au9⟩:=mem_ready.1 hr;rw [hoi] at aoh;cases aoh;obtain⟨uj,oj',aog,aj7⟩:=mem_ready.1 hj;rw [Vg] at aog;cases aog;have atC:i < bY.size:=(ada.1 hoi).1;have atB:j < bY.size:=(ada.1 Vg).1;have nl:∀k,k < bY.size->listed.getD k true=false->listed.getD k false=false:=by
     intro k hk h;have eh:k < listed.size:=by omega
     simp [eh] at h ⊢;exact h
    have ui':=nl i atC ui;have uj':=nl j atB uj;have asu:∀e∈oj.after,Region.binds .any e=true->e.on≠i:=fun e he hb heq=>by have:=aj7 e he hb;rw [heq,ui'] at this;cases this
    have ass:∀e∈oi.after,Region.binds .any e=true->e.on≠j:=fun e he hb heq=>by have:=au9 e he hb;rw [heq,uj'] at this;cases this
    have ahV:rf bY.toList 12 j i=false:=by
     cases ha:rf bY.toList 12 j i with
     | false=>rfl
     | true=>have:=Gt af4 12 j i oj Vg aj7 ha;rw [ui'] at this;cases this
    have R6:=afW (i,en) (by simp) ahV;obtain⟨s2,s21,k1,k2,Nq⟩:=O6 hcl hGb hroom hoi Vg (hap i j oi oj (Ne.symm hji) hoi Vg asu ass) h1 h2 R6;refine⟨s2,ej,k1,fun p hp=>afW p (aaW _ hp),?_⟩;have atW:bO N s2:=(zb (P:=P) (nt:=nt) (L:=L) hT cR k1 hcl hL hH (hd j oj Vg)).1;have afY:=sm k1;refine ih (listed.setIfInBounds j true) ((j,ej)::log) s2 s21 en (by simp [tP]) ?_ atW (abz hH afY) (abz hroom afY) (ready_mono hr (Ne.symm hji)) k2 ?_ ?_
    ·-- down
     intro k ok pf hk e he hb;by_cases hkj:k=j
     ·subst hkj;rw [Vg] at pf;cases pf;exact getD_set_true (aj7 e he hb)
     ·rw [getD_set_ne false (Ne.symm hkj)] at hk;exact getD_set_true (af4 k ok pf hk e he hb)
    ·intro p hp hpa;rcases aaO.1 hp with rfl | hp
     ·exact N4 R6
     ·exact Np p hp hpa
    ·rw [Array.setIfInBounds_comm _ _ hji];refine y6 hΦ f _ _ _ s12 s21 Nq ?_ H2;intro p hp;rcases aaO.1 hp with rfl | hp
     ·simp
     ·rcases aaO.1 hp with rfl | hp
      ·simp
      ·simp [hp]
def xq (n i:Nat):Array Bool:=((List.range n).map fun k=>decide (k < i)).toArray
theorem Ta (n i:Nat):(xq n i).size=n:=by simp [xq]
theorem uL (n i k:Nat) (d:Bool):(xq n i).getD k d=if k < n then decide (k < i) else d:=by
 unfold xq;by_cases h:k < n
 ·simp [h]
 ·simp [h]
theorem S9 (n i:Nat):(xq n i).setIfInBounds i true=xq n (i+1):=by
 apply Array.ext
 ·simp [xq]
 ·intro k h1 h2;have hk:k < n:=by simpa [xq] using h2
  simp only [xq,List.getElem_toArray,List.getElem_map,List.getElem_range];by_cases e:i=k
  ·subst e;simp
  ·simp [e];omega
theorem Ql (a b:rD):(pL a b).ok=eE a b:=by
 cases a<;>cases b;case rd.call n R U=>cases h:iH R n<;>simp [pL,eE,h,SR.ok]
 case call.rd R U n=>cases h:iH R n<;>simp [pL,eE,h,SR.ok]
 case rd.wr n m=>cases h:Nat.beq n m<;>simp [pL,eE,h,SR.ok]
 case wr.rd n m=>cases h:Nat.beq n m<;>simp [pL,eE,h,SR.ok]
 case wr.wr n m=>cases h:Nat.beq n m<;>simp [pL,eE,h,SR.ok]
 case wr.call n R U=>cases h:iH R n<;>simp [pL,eE,h,SR.ok]
 case call.wr R U n=>cases h:iH R n<;>simp [pL,eE,h,SR.ok]
 all_goals rfl
theorem zE {all:List Oper} {j:Nat} {en:rD}:∀{log:List (Nat×rD)} {l:List Bool},PF all j en log=some l->(∀b∈l,b=true)->Ff all j en log=true
 | [],l,_,_=>rfl
 | (i,x)::r,l,h,hb=>by
   have hc:=Ql x en;simp only [PF] at h;simp only [Ff];split at h
   ·rename_i e;rw [e] at hc;rw [<- hc];exact zE h hb
   ·rename_i e;rw [e] at hc;rw [<- hc];split at h
    ·exact zE h hb
    ·cases h
   ·rename_i b e;rw [e] at hc;rw [<- hc];split at h
    ·cases b<;>exact zE h hb
    ·split at h
     ·rename_i l' hl;cases h;have h1:b=true:=hb b (aaV ..);subst h1;exact zE hl fun c hc=>hb c (aaW _ hc)
     ·cases h
theorem ES {α:Type}:∀{l:List Bool} {t:T α} {r:α},(X4 l t).val=some r->(∀b∈l,b=true) /\ t.val=some r
 | [],t,r,h=>⟨fun b hb=>(by cases hb),h⟩
 | b::l,t,r,h=>by
   cases b with
   | false=>cases h
   | true =>obtain⟨h1,h2⟩:=ES (l:=l) (t:=t) h;exact⟨fun c hc=>(aaO.1 hc).elim id (h1 c),h2⟩
theorem yq {all:List Oper} {j:Nat} {en:rD}:∀{log:List (Nat×rD)},Ff all j en log=true->∀p∈log,rf all 12 j p.1=false->eE p.2 en=true
 | [],_,p,hp,_=>by cases hp
 | (i,x)::r,h,p,hp,ha=>by
   simp only [Ff] at h;split at h
   ·rename_i hc;rcases aaO.1 hp with rfl | hp
    ·exact hc
    ·exact yq h p hp ha
   ·split at h
    ·rename_i han;rcases aaO.1 hp with rfl | hp
     ·rw [han] at ha;cases ha
     ·exact yq h p hp ha
    ·cases h
theorem yJ {i:Nat}:∀{l:List Edge},nX i l=true->∀e∈l,Region.binds .any e=true->e.on < i
 | [],_,e,he,_=>by cases he
 | x::r,h,e,he,hb=>by
   simp only [nX] at h;split at h
   ·rename_i hx;split at h
    ·rename_i hlt;rcases aaO.1 he with rfl | he
     ·exact(fT _ _).1 hlt
     ·exact yJ h e he hb
    ·cases h
   ·rename_i hx;rcases aaO.1 he with rfl | he
    ·rw [hb] at hx;cases hx
    ·exact yJ h e he hb
def Below (bY:Array Oper):Prop:=∀(j:Nat) (o:Oper),bY[j]?=some o->∀e∈o.after,Region.binds .any e=true->e.on < j
theorem Og {cX:Callee AV}:∀(r:List Oper) (i:Nat) (log:List (Nat×rD)) (s s':St AV),(mK N cX base bY.toList i r log s).val=some s'->∀(k:Nat) (o:Oper),r[k]?=some o->∀e∈o.after,Region.binds .any e=true->e.on < i+k
 | [],_,_,_,_,_,k,o,hk=>by simp at hk
 | x::r,i,log,s,s',h,k,o,hk=>by
   simp only [mK] at h;split at h
   ·simp [T.val] at h
   ·rename_i hed;obtain⟨⟨s1,en⟩,h1,h2⟩:=T.bq h;simp only at h2;split at h2
    ·cases k with
     | zero =>simp at hk;subst hk;intro e he hb;exact yJ hed e (afF.2 he) hb
     | succ k =>have:=Og r (i+1) _ s1 s' h2 k o (by simpa using hk);rw [show i+(k+1)=i+1+k from by omega];exact this
    ·cases h2
theorem UF {i:Nat} (hb:Below bY):akj bY (xq bY.size i):=by intro j o ho hj e he hbe;have hjs:j < bY.size:=(ada.1 ho).1;have:=hb j o ho e he hbe;rw [uL,if_pos hjs] at hj;rw [uL,if_pos (by omega)];simp at hj ⊢;omega
include hT cR in
theorem agz {nt L:Nat} (hL:L<=base) (hGb:N.G<=base) (hap:aaJ bY) (hb:Below bY) (hd:∀(k:Nat) (o:Oper),bY[k]?=some o->∀d,o.dst=some d->d < nt) (s':St AV) :
 ∀(r:List Oper) (i:Nat) (log:List (Nat×rD)) (s:St AV),bY.toList.drop i=r->i+r.length=bY.size->(mK N cX base bY.toList i r log s).val=some s'->bO N s->L<=s.H.length->base+fG bY.toList<=s.H.length ->
   ye N cX base bY (fun t=>wo s' t) r.length (xq bY.size i) log s /\ bO N s' /\ L<=s'.H.length
 | [],i,log,s,hr,hi,h,hcl,hH,_=>by
   simp only [mK,T.val,aaf] at h;subst h;refine⟨⟨?_,wo.refl s⟩,hcl,hH⟩;have hi':i=bY.size:=by simpa using hi
   subst hi';apply List.eq_nil_iff_forall_not_mem.2;intro j hj;obtain⟨h0,o,ho,_⟩:=mem_ready.1 hj;have hjs:j < bY.size:=(ada.1 ho).1;rw [uL,if_pos hjs] at h0;simp at h0;omega
 | x::r,i,log,s,hr,hi,h,hcl,hH,hroom=>by
   have hx:bY[i]?=some x:=by have:=congrArg (fun l=>l[0]?) hr;simpa using this
   have PS:bY.toList.drop (i+1)=r:=by have:=congrArg List.tail hr;simpa [List.tail_drop] using this
   simp only [mK] at h;split at h
   ·cases h
   ·rename_i hed;obtain⟨⟨s1,en⟩,h1,h2⟩:=T.bq h;simp only at h2;split at h2
    ·rename_i Np;have atX:bO N s1:=(zb (P:=P) (nt:=nt) (L:=L) hT cR h1 hcl hL hH (hd i x hx)).1;have afZ:=sm h1;obtain⟨ih,c',l'⟩:=agz hL hGb hap hb hd s' r (i+1) ((i,en)::log) s1 PS (by simp at hi;omega) h2 atX (abz hH afZ) (abz hroom afZ);refine⟨?_,c',l'⟩;have his:i < bY.size:=(ada.1 hx).1;refine Th (P:=P) (nt:=nt) (L:=L) hT cR hL hGb (fun s t tg h=>⟨h.H.trans tg.H,fun k=>(h.E k).trans (tg.E k)⟩) hap hd hx r.length (xq bY.size i) log s s1 en (Ta _ _) (UF hb) hcl hH hroom ?_ h1 (yq Np) ?_
     ·refine mem_ready.2 ⟨by rw [uL,if_pos his];simp,x,hx,fun e he hbe=>?_⟩;have:=hb i x hx e he hbe;rw [uL,if_pos (by omega)];simp;exact this
     ·rw [S9];exact ih
    ·cases h2
include hT cR in
theorem Wa {nt L:Nat} (hL:L<=base) (hd:∀(k:Nat) (o:Oper),bY[k]?=some o->∀d,o.dst=some d->d < nt) {Φ:St AV->Prop} {Q:Exit->Act->World->Prop} {ρ₀:Nm} {s₀:St AV} {a₀:Act} {w₀:World}
 (hQ:∀t a w,Φ t->oW N nt L ρ₀ s₀ w₀ a₀ t a w->Q .normal a w) :
 ∀(f:Nat) (listed:Array Bool) (log:List (Nat×rD)) (s:St AV),ye N cX base bY Φ f listed log s->bO N s->L<=s.H.length->∀(ρ:Nm) (a:Act) (w:World),At N nt ρ s a w->lj N L ρ₀ s₀.H w₀ ρ s.H w->a.defers=a₀.defers->wpAny P .any bY Q f listed a w
 | 0,listed,log,s,h,hcl,hH,ρ,a,w,bG,dD,hdf=>⟨h.1,hQ s a w h.2 ⟨⟨ρ,bG.em,bG.own,dD⟩,hdf⟩⟩
 | f+1,listed,log,s,h,hcl,hH,ρ,a,w,bG,dD,hdf=>by
   refine⟨fun hr=>hQ s a w (h.1 hr) ⟨⟨ρ,bG.em,bG.own,dD⟩,hdf⟩,fun i hi=>?_⟩;obtain⟨_,o,ho,_⟩:=mem_ready.1 hi;obtain⟨s1,en,h1,_,h3⟩:=h.2 i hi o ho;obtain⟨c1,k1⟩:=zb (P:=P) (nt:=nt) (L:=L) hT cR h1 hcl hL hH (hd i o ho);have:=k1 bG (K:=wpAny P .any bY Q f (listed.setIfInBounds i true)) (Q:=Q) (fun a1 w1 hl=>by
    obtain⟨⟨ρ1,e1,o1,v1⟩,d1⟩:=hl;exact Wa hL hd hQ f _ _ s1 h3 c1 (abz hH (sm h1)) ρ1 a1 w1 ⟨e1,o1⟩ (dD.trans v1) (d1.trans hdf))
   unfold wpOp;simp only [ho];split
   ·rename_i hw;rw [if_pos hw] at this;exact .inl this
   ·rename_i hw;rw [if_neg hw] at this;exact this
end sound
theorem LP (hT:fN P N) {cX:Callee AV} (cR:gZ P N cX) {nt L base:Nat} (bY:Array Oper) (hap:s9 bY bY.toList 0 bY.toList=true) (hL:L<=base) (hGb:N.G<=base) {s s':St AV} (h:(mK N cX base bY.toList 0 bY.toList [] s).val=some s')
 (hcl:bO N s) (hH:L<=s.H.length) (hd:∀o∈bY.toList,∀d,o.dst=some d->d < nt) (hroom:s.H.length=base+fG bY.toList) :
 bO N s' /\ L<=s'.H.length /\ ∀{id:Nat} {ρ:Nm} {a:Act} {w:World},At N nt ρ s a w->∀{Q:Exit->Act->World->Prop},(∀a' w',oW N nt L ρ s w a s' a' w'->Q .normal a' w')->(Code.region id bY true).wp P Q a w:=by
 have hb:Below bY:=fun j o ho e he hbe=>by have:=Og bY.toList 0 [] s s' h j o (by simpa using ho) e he hbe;omega
 have Bw:∀(k:Nat) (o:Oper),bY[k]?=some o->∀d,o.dst=some d->d < nt:=fun k o ho=>hd o (afF.2 (Array.mem_of_getElem? ho));obtain⟨an7,c',l'⟩:=agz (P:=P) (nt:=nt) (L:=L) hT cR hL hGb (aan hap) hb Bw s' bY.toList 0 [] s rfl (by simp) h hcl hH (by omega);refine⟨c',l',fun {id ρ a w} bG Q hQ=>wp_region_any hT.mix ?_⟩;have atk:Array.replicate bY.size false=xq bY.size 0:=by
  apply Array.ext
  ·simp [xq]
  ·intro k h1 h2;simp [xq]
 rw [atk];have hlen:bY.toList.length=bY.size:=by simp
 rw [hlen] at an7;refine Wa (P:=P) (nt:=nt) (L:=L) hT cR hL Bw (Φ:=fun t=>wo s' t) (Q:=Q) (ρ₀:=ρ) (s₀:=s) (a₀:=a) (w₀:=w) ?_ bY.size (xq bY.size 0) [] s an7 hcl hH ρ a _ ⟨bG.em,bG.own.drew⟩ (lj.apG (lj.refl _ _ _ _)) rfl;intro t a' w' Nq hl;refine hQ a' w' ?_;obtain⟨⟨ρ1,e1,o1,v1⟩,d1⟩:=hl;refine⟨⟨ρ1,⟨e1.size,fun k hk=>by rw [Nq.E k] at hk ⊢;exact e1.get k hk⟩,by rw [Nq.H];exact o1,by rw [Nq.H];exact v1⟩,d1⟩
end
section
variable {AV:Type} {N:eI AV}
theorem Fy {b:Bool} {x y c:Cell} (h:RY b x y=some c):c.name=none /\ ∀ρ:Nm,c.ay ρ=(if b=true then x else y).ay ρ:=by
 unfold RY at h;split at h
 ·rename_i p kp q kq h1 h2;split at h
  ·rename_i hk;have hpq:p=q:=by
    unfold Gr at hk;split at hk
    ·exact eq_of_beq hk
    ·cases hk
   subst hpq;cases h;refine⟨rfl,fun ρ=>?_⟩;cases b
   ·simp [Cell.ay,fC ρ h2]
   ·simp [Cell.ay,fC ρ h1]
  ·cases h;refine⟨rfl,fun ρ=>?_⟩;cases b
   ·simp [Cell.ay,fC ρ h2]
   ·simp [Cell.ay,fC ρ h1]
 ·split at h
  ·rename_i k p _ k' q _ h1 h2;split at h
   ·rename_i hk;have hk:=aaF hk;subst hk;cases h;refine⟨rfl,fun ρ=>?_⟩;cases b
    ·simp [Cell.ay,fJ ρ h2]
    ·simp [Cell.ay,fJ ρ h1]
   ·cases h
  ·cases h
theorem Fw {b:Bool}:∀{x y c:List Cell},Fx b x y=some c->(∀d∈c,d.name=none) /\ ∀ρ:Nm,aF ρ c=aF ρ (if b=true then x else y)
 | [],[],c,h=>by simp only [Fx,aaf] at h;subst h;cases b<;>simp [aF]
 | [],_::_,_,h=>by simp [Fx] at h
 | _::_,[],_,h=>by simp [Fx] at h
 | x::xs,y::ys,c,h=>by
   simp only [Fx] at h;split at h
   ·rename_i d hd;split at h
    ·rename_i l hl;cases h;obtain⟨a1,a2⟩:=Fy hd;obtain⟨b1,b2⟩:=Fw hl;refine⟨fun e he=>?_,fun ρ=>?_⟩
     ·rcases aaO.1 he with rfl | he
      ·exact a1
      ·exact b1 e he
     ·have e1:=a2 ρ;have e2:=b2 ρ;cases b<;>simp [aF] at e1 e2 ⊢<;>exact⟨e1,e2⟩
    ·cases h
   ·cases h
theorem yt (H:Hp AV) (b:Bool) (x y:SV):gf H (ur b x y) /\ (ur b x y=.lU \/ ((if b=true then x else y)≠.lU /\ ur b x y≠.lU /\ ∀ρ:Nm,(ur b x y).ay ρ=(if b=true then x else y).ay ρ)):=by
 unfold ur;split
 ·split
  ·rename_i hc;obtain⟨a1,a2⟩:=Fy hc;refine⟨gq a1,.inr ⟨by cases b<;>simp,by simp,fun ρ=>?_⟩⟩;have:=a2 ρ;cases b<;>simpa [SV.ay,V1.ay] using this
  ·exact⟨trivial,.inl rfl⟩
 ·split
  ·rename_i hc;obtain⟨a1,a2⟩:=Fw hc;refine⟨iT a1,.inr ⟨by cases b<;>simp,by simp,fun ρ=>?_⟩⟩;have:=a2 ρ;cases b<;>simp [SV.ay,V1.ay] at this ⊢<;>rw [this]
  ·exact⟨trivial,.inl rfl⟩
 ·exact⟨trivial,.inl rfl⟩
theorem Fu (b:Bool) (E:Ev):∀{W X Z:Ev},vw b W X=some Z->∀k,aJ (Z++E) k=ur b (aJ (W++E) k) (aJ (X++E) k) \/ (aJ (Z++E) k=aJ E k /\ aJ (W++E) k=aJ E k /\ aJ (X++E) k=aJ E k)
 | [],[],Z,h,k=>by simp only [vw,aaf] at h;subst h;exact .inr ⟨rfl,rfl,rfl⟩
 | [],_::_,_,h,_=>by simp [vw] at h
 | _::_,[],_,h,_=>by simp [vw] at h
 | (j,v)::r,(j',u)::q,Z,h,k=>by
   simp only [vw] at h;split at h
   ·rename_i hj;have hj:=(aG _ _).1 hj;subst hj;split at h
    ·rename_i z hz;cases h;simp only [acY,aJ];by_cases e:j=k
     ·subst e;rw [afQ];exact .inl rfl
     ·rw [(bT j k).2 e];exact Fu b E hz k
    ·cases h
   ·cases h
theorem xm {n m:Option Bool} {z:Option Ev} {W:Ev} (h:Qz n z=some (m,W)):n=m /\ z=some W:=by
 cases z with
 | none=>simp [Qz] at h
 | some x=>simp only [Qz,aaf,aaB] at h;exact⟨h.1,by rw [h.2]⟩
theorem xS:∀(X E:Ev),FG ((X++E).length - E.length) (X++E)=X
 | [],E=>by simp [FG]
 | x::X,E=>by
   have:=xS X E;have e:((x::X)++E).length - E.length=X.length+1:=by simp;omega
   have e':(X++E).length - E.length=X.length:=by simp
   rw [e'] at this;rw [e];simp only [acY,FG,this]
def vp:Option Bool->Prop
 | none=>True
 | some b=>b=true
theorem qj (H:Hp AV) (E:Ev) (hE:∀k,gf H (aJ E k)):∀{t:T (St AV×Bool)} {n:Option Bool} {W:Ev},sO E t=some (n,W)->vp n ->
 ∃s,t.val=some (s,true) /\ ((∀X,s.E=X++E->(∀k,gf H (aJ s.E k))->(∀k,gf H (aJ (W++E) k)) /\ ∀k,aJ (W++E) k=.lU \/ (aJ s.E k≠.lU /\ ∀ρ:Nm,(aJ (W++E) k).ay ρ=(aJ s.E k).ay ρ)))
 | .aD (s,q),n,W,h,hn=>by
   cases q with
   | false=>simp [sO] at h
   | true =>
   simp only [sO,aaf,aaB] at h;obtain⟨rfl,rfl⟩:=h;refine⟨s,rfl,fun X hX hc=>?_⟩;rw [hX,xS];rw [hX] at hc;refine⟨hc,fun k=>?_⟩;by_cases hk:aJ (X++E) k=.lU
   ·exact .inl hk
   ·exact .inr ⟨hk,fun _=>rfl⟩
 | .aE b t,n,W,h,hn=>by
   simp only [sO] at h;split at h
   ·rename_i W' ht;cases h;have hb:b=true:=hn;subst hb;obtain⟨s,hs,k⟩:=qj H E hE ht trivial;exact⟨s,hs,k⟩
   ·rename_i m W' ht;cases h;cases b with
    | false=>cases hn
    | true =>obtain⟨s,hs,k⟩:=qj H E hE ht hn;exact⟨s,hs,k⟩
   ·cases h
 | .ite b t e,n,W,h,hn=>by
   have key:∀(n1 n2:Option Bool) (W1 W2:Ev),sO E t=some (n1,W1)->sO E e=some (n2,W2)->(b=true->vp n1)->(b=false->vp n2)->vw b W1 W2=some W ->
    ∃s,(T.ite b t e).val=some (s,true) /\ ((∀X,s.E=X++E->(∀k,gf H (aJ s.E k))->(∀k,gf H (aJ (W++E) k)) /\ ∀k,aJ (W++E) k=.lU \/ (aJ s.E k≠.lU /\ ∀ρ:Nm,(aJ (W++E) k).ay ρ=(aJ s.E k).ay ρ))):=by
    intro n1 n2 W1 W2 h1 h2 ht he hW
    have main:∀(Wb:Ev) (s:St AV),(Wb=if b=true then W1 else W2)->(∀X,s.E=X++E->(∀k,gf H (aJ s.E k))->(∀k,gf H (aJ (Wb++E) k)) /\ ∀k,aJ (Wb++E) k=.lU \/ (aJ s.E k≠.lU /\ ∀ρ:Nm,(aJ (Wb++E) k).ay ρ=(aJ s.E k).ay ρ)) ->
     (∀X,s.E=X++E->(∀k,gf H (aJ s.E k))->(∀k,gf H (aJ (W++E) k)) /\ ∀k,aJ (W++E) k=.lU \/ (aJ s.E k≠.lU /\ ∀ρ:Nm,(aJ (W++E) k).ay ρ=(aJ s.E k).ay ρ)):=by
     intro Wb s hWb hs X hX hc;obtain⟨_,hs2⟩:=hs X hX hc;have hl:=Fu b E hW;refine⟨fun k=>?_,fun k=>?_⟩
     ·rcases hl k with h | ⟨h,_,_⟩
      ·rw [h];exact(yt H b _ _).1
      ·rw [h];exact hE k
     ·rcases hl k with h | ⟨h,hw,hx⟩
      ·rw [h];rcases (yt H b (aJ (W1++E) k) (aJ (W2++E) k)).2 with hj | ⟨hj1,hj2,hj3⟩
       ·exact .inl hj
       ·have ath:(if b=true then aJ (W1++E) k else aJ (W2++E) k)=aJ (Wb++E) k:=by rw [hWb];cases b<;>rfl
        rw [ath] at hj1 hj3;rcases hs2 k with hu | ⟨hu1,hu2⟩
        ·exact absurd hu hj1
        ·exact .inr ⟨hu1,fun ρ=>(hj3 ρ).trans (hu2 ρ)⟩
      ·rw [h];have hb:aJ (Wb++E) k=aJ E k:=by
        rw [hWb];cases b
        ·exact hx
        ·exact hw
       have:=hs2 k;rw [hb] at this;exact this
    cases b with
    | true =>obtain⟨s,hs,k⟩:=qj H E hE h1 (ht rfl);exact⟨s,hs,main W1 s rfl k⟩
    | false =>obtain⟨s,hs,k⟩:=qj H E hE h2 (he rfl);exact⟨s,hs,main W2 s rfl k⟩
   simp only [sO] at h;split at h
   ·rename_i W1 W2 h1 h2;obtain⟨rfl,hz⟩:=xm h;exact key none none W1 W2 h1 h2 (fun _=>trivial) (fun _=>trivial) hz
   ·rename_i n1 W1 W2 h1 h2;obtain⟨rfl,hz⟩:=xm h;exact key (some n1) none W1 W2 h1 h2 (fun hb=>by subst hb;exact hn) (fun _=>trivial) hz
   ·rename_i W1 n2 W2 h1 h2;obtain⟨rfl,hz⟩:=xm h;exact key none (some n2) W1 W2 h1 h2 (fun _=>trivial) (fun hb=>by subst hb;exact hn) hz
   ·rename_i n1 W1 n2 W2 h1 h2;obtain⟨rfl,hz⟩:=xm h;exact key (some n1) (some n2) W1 W2 h1 h2 (fun hb=>by subst hb;exact hn) (fun hb=>by subst hb;exact hn) hz
   ·cases h
 | .fail _,_,_,h,_=>by simp [sO] at h
theorem Bi:∀(H B:Hp AV) (i:Nat),H.length=B.length->dr [] i H B=H
 | [],[],_,_=>rfl
 | [],_::_,_,h=>by simp at h
 | _::_,[],_,h=>by simp at h
 | none::r,y::q,i,h=>by simp [dr,Bi r q (i+1) (by simpa using h)]
 | some x::r,y::q,i,h=>by simp [dr,LV,ud,Bi r q (i+1) (by simpa using h)]
theorem B7 {cX:Callee AV} {base:Nat} {all:List Oper} {i:Nat} {o:Oper} {s s':St AV} {en:rD} (h:(nB N cX base all i o s).val=some (s',en)):(∃X,s'.E=X++s.E) /\ (AY true en s.H s'.H=true->s'.H=s.H):=by
 rw [pR] at h;obtain⟨p,hp,h⟩:=aaM.1 h;obtain⟨⟨v,H',en⟩,he,hr⟩:=aaT.1 h;cases hr;refine⟨?_,fun hq=>?_⟩
 ·cases o.dst with
  | none=>exact⟨[],rfl⟩
  | some d=>exact⟨[(d,v)],rfl⟩
 ·cases hi:yu en with
  | false =>
    obtain⟨u,hu,hw,_⟩:=sV he hi;simp only at hu ⊢;rcases hw with rfl | ⟨n,c,rfl,yy,_⟩
    ·exact hu
    ·rw [yy] at hq;cases hq
  | true =>
    cases en with
    | pure=>cases hi
    | rd _=>cases hi
    | wr _=>cases hi
    | call R =>
      cases R with
      | cons _ _=>cases hq
      | nil =>obtain⟨_,B,_,hl,hH,_⟩:=Aa he;simp only [AY] at hq;have hlen:=(aG _ _).1 hq;simp only at hlen ⊢;subst hH;rw [pU _ _ _ _ hl] at hlen;exact Bi s.H B 0 hlen
structure Ref (m s:St AV):Prop where
 H:m.H=s.H
 E:∀k,aJ m.E k=.lU \/ (aJ s.E k≠.lU /\ ∀ρ:Nm,(aJ m.E k).ay ρ=(aJ s.E k).ay ρ)
theorem Ref.em {m s:St AV} (h:Ref m s) {ρ:Nm} {nt:Nat} {a:Act} (he:EM ρ nt s.E a):EM ρ nt m.E a :=
 ⟨he.size,fun k hk=>by
   rcases h.E k with hu | ⟨h1,h2⟩
   ·exact absurd hu hk
   ·rw [h2 ρ];exact he.get k h1⟩
theorem Fv {s m:St AV} {t:T (St AV×Bool)} (hcl:bO N s) (h:(RX s t).val=some m)
 (hq:∀s' q,t.val=some (s',q)->bO N s' /\ (∃X,s'.E=X++s.E) /\ (q=true->s'.H=s.H)):∃s' q,t.val=some (s',q) /\ Ref m s' /\ bO N m:=by
 have alP:(t.map fun r=>r.1).val=some m->∃s' q,t.val=some (s',q) /\ Ref m s' /\ bO N m:=fun h=>by
  rw [T.gg] at h;obtain⟨⟨s',q⟩,h1,rfl⟩:=aaT.1 h;exact⟨s',q,h1,⟨rfl,fun k=>by
   by_cases hk:aJ s'.E k=.lU
   ·exact .inl hk
   ·exact .inr ⟨hk,fun _=>rfl⟩⟩,(hq s' q h1).1⟩
 have main:∀(n:Option Bool) (W:Ev),sO s.E t=some (n,W)->vp n->∃s' q,t.val=some (s',q) /\ Ref ({s with E:=W++s.E}:St AV) s' /\ bO N ({s with E:=W++s.E}:St AV):=by intro n W hj hn;obtain⟨s',Dv,k⟩:=qj s.H s.E hcl.E hj hn;obtain⟨hcs,⟨X,hX⟩,hH⟩:=hq s' true Dv;have hH:=hH rfl;obtain⟨k1,k2⟩:=k X hX (fun k=>by have:=hcs.E k;rw [hH] at this;exact this);exact⟨s',true,Dv,⟨hH.symm,k2⟩,⟨k1,hcl.H⟩⟩
 unfold RX at h;split at h
 ·exact alP h
 ·split at h
  ·rename_i W hj;cases h;exact main none W hj trivial
  ·rename_i n W hj;obtain⟨hb,h⟩:=fZ h;cases h;exact main (some n) W hj hb
  ·exact alP h
end
section
variable {AV:Type} {N:eI AV}
def yP (A:Jv) (E:Ev):Prop:=∀d x,vt A d=some x->∃c k,aJ E d=.v (.c c) /\ lQ c=some (x,k)
theorem yK:∀(A:Jv) (n d:Nat),vt (I4 A n) d=if n=d then none else vt A d
 | [],n,d=>by simp [I4,vt]
 | (k,b)::r,n,d=>by
   simp only [I4];by_cases h:k=n
   ·subst h;rw [afQ];simp only [vt];rw [yK r k d];by_cases e:k=d
    ·simp [e]
    ·rw [if_neg e,if_neg e,(bT k d).2 e]
   ·rw [(bT k n).2 h];simp only [vt];by_cases e:k=d
    ·subst e;rw [afQ];simp only;rw [if_neg (Ne.symm h)]
    ·rw [(bT k d).2 e];simp only;exact yK r n d
theorem yP.put {A:Jv} {E:Ev} (h:yP A E) (dst:Option Nat) (v:SV):yP (Ct A dst) (kI E dst v):=by
 intro d x hd;cases dst with
 | none=>exact h d x hd
 | some n =>
   simp only [Ct,yK] at hd;split at hd
   ·cases hd
   ·rename_i dE;rw [zD,if_neg dE];exact h d x hd
theorem yP.cons {A:Jv} {E:Ev} (h:yP A E) {d:Nat} {x:Bool} (hd:∃c k,aJ E d=.v (.c c) /\ lQ c=some (x,k)):yP ((d,x)::A) E:=by
 intro n y hn;simp only [vt] at hn;split at hn
 ·rename_i he;cases hn;rw [<- (aG _ _).1 he];exact hd
 ·exact h n y hn
theorem UA {cX:Callee AV} {base:Nat} {all:List Oper} {i:Nat} {o:Oper} {A B:Jv} {s:St AV} (hA:yP A s.E) :
 (IZ N cX base all i o A B s).val=((nG N cX (o8 all base i) o s).val.map fun s'=>(s',gy N (o8 all base i) (rP N.G s.H s.E) s.H s'.H o.op,Ct B o.dst)):=by
 unfold IZ;split
 ·rename_i t ht;unfold afv at ht;split at ht
  ·rename_i c a b oT;split at ht
   ·cases ht
   ·rename_i x hx;cases ht;obtain⟨cc,k,hl,hb⟩:=hA c x hx;have Kt:∀H':Hp AV,gy N (o8 all base i) (rP N.G s.H s.E) s.H H' o.op=.pure:=fun _=>by rw [oT];rfl
    simp only [Kt];unfold nG;rw [oT];simp only [rB,FC,af3,lL,u6,T.oC,T.gg];have dD:rP N.G s.H s.E (.tmp c)=some (.v (.c cc)):=by simp [rP,hl]
    rw [dD];cases rP N.G s.H s.E a with
    | none=>rfl
    | some p =>
      cases rP N.G s.H s.E b with
      | none=>rfl
      | some q =>simp only [hb];cases x<;>cases k<;>simp [T.val,gD]
  ·cases ht
 ·rw [T.gg]
theorem ND {all:List Oper} {o:Oper} {E:Ev} {b:Bool} (h:iO all o E=some (b,false)):∃d want c x,ajq all o=some (d,want) /\ aJ E d=.v (.c c) /\ lQ c=some (x,false) /\ b=(x==want):=by
 unfold iO at h;unfold ajq;cases hg:o.guard with
 | none=>simp [hg] at h
 | some p =>
   obtain⟨j,want⟩:=p;simp only [hg] at h ⊢;cases hj:yQ all j with
   | none=>simp [hj] at h
   | some oj =>
     simp only [hj] at h ⊢;cases hd:oj.dst with
     | none=>simp [hd] at h
     | some d =>
       simp only [hd] at h ⊢;split at h
       ·cases h
       ·rename_i c hl;split at h
        ·rename_i x k hb;simp only [aaf,aaB] at h;obtain⟨h1,rfl⟩:=h;exact⟨d,want,c,x,rfl,hl,hb,h1.symm⟩
        ·simp at h
       ·simp at h
theorem D6 {cX:Callee AV} {base:Nat} {all:List Oper} {i:Nat} {o:Oper} {A:Jv} {s:St AV} (hA:yP A s.E) :
 (∀s' en B,(JM N cX base all i o A s).val=some (s',en,B)->(nB N cX base all i o s).val=some (s',en) /\ yP B s'.E):=by
 intro s' en B h;rw [wI];unfold AN;unfold JM at h;have fin:∀C,yP C s.E->(IZ N cX base all i o A C s).val=some (s',en,B)->((nG N cX (o8 all base i) o s).val.map fun s'=>(s',gy N (o8 all base i) (rP N.G s.H s.E) s.H s'.H o.op))=some (s',en) /\ yP B s'.E:=by
  intro C hC he;rw [UA hA] at he;obtain⟨s1,hs,he⟩:=aaT.1 he;cases he;refine⟨by rw [hs];rfl,?_⟩;have:∃v,s'.E=kI s.E o.dst v:=by
   unfold nG at hs;split at hs
   ·obtain⟨r,_,hs⟩:=T.bq hs;simp only [T.val,aaf] at hs;exact⟨r.1,by rw [<- hs]⟩
   ·cases hs
   ·obtain⟨r,_,hs⟩:=T.bq hs;simp only [T.val,aaf] at hs;exact⟨r.1,by rw [<- hs]⟩
  obtain⟨v,hv⟩:=this;rw [hv];exact hC.put _ _
 split at h
 ·cases h
 ·rename_i b hw;simp only [hw];cases b with
  | true=>exact fin A hA h
  | false =>cases h;exact⟨rfl,hA.put _ _⟩
 ·rename_i b hw;simp only [hw];obtain⟨d,want,c,x,hg,hl,hb,rfl⟩:=ND hw;simp only [hg] at h;split at h
  ·rename_i y hy;obtain⟨c',k',Co,OB⟩:=hA d y hy;rw [hl] at Co;cases Co;rw [hb] at OB;cases OB;cases hxw:(x==want) with
   | true=>simp only [hxw] at h ⊢;exact fin A hA h
   | false =>simp only [hxw,T.val,aaf,aaB] at h ⊢;obtain⟨rfl,rfl,rfl⟩:=h;exact⟨rfl,hA.put _ _⟩
  ·have hx:∀y,x=y->yP ((d,y)::A) s.E:=fun y e=>hA.cons ⟨c,false,hl,by rw [hb,e]⟩;cases hxw:(x==want) with
   | true =>
     have e:x=want:=by simpa using hxw
     simp only [hxw,T.val] at h ⊢;exact fin _ (hx want e) h
   | false =>
     have e:x=!want:=by cases x<;>cases want<;>simp_all
     simp only [hxw,T.val,aaf,aaB] at h ⊢;obtain⟨rfl,rfl,rfl⟩:=h;exact⟨rfl,(hx _ e).put _ _⟩
theorem y9 {cX:Callee AV} {base:Nat} {all:List Oper} (s₀:St AV):∀(r:List Oper) (i:Nat) (A:Jv) (q:Bool) (s s':St AV) (q':Bool),yP A s.E->(∃X,s.E=X++s₀.E)->(q=true->s.H=s₀.H)->(uO N cX base all i r A q s).val=some (s',q') ->
 (pD N cX base all i r s).val=some s' /\ (∃X,s'.E=X++s₀.E) /\ (q'=true->s'.H=s₀.H)
 | [],_,_,q,s,s',q',_,hX,hq,h=>by simp only [uO,T.val,aaf,aaB] at h;obtain⟨rfl,rfl⟩:=h;exact⟨rfl,hX,hq⟩
 | o::r,i,A,q,s,s',q',hA,⟨X,hX⟩,hq,h=>by
   simp only [uO] at h;obtain⟨⟨s1,en,B⟩,h1,h2⟩:=T.bq h;obtain⟨k1,k2⟩:=D6 hA s1 en B h1;obtain⟨⟨Y,hY⟩,hH⟩:=B7 k1;simp only [pD];rw [T.oC,k1];refine y9 s₀ r (i+1) B _ s1 s' q' k2 ⟨Y++X,by rw [hY,hX,acA]⟩ (fun hqs=>?_) h2;cases q with
   | false=>simp [AY] at hqs
   | true=>rw [hH hqs,hq rfl]
theorem xG {cX:Callee AV} {base:Nat} {all:List Oper} (s₀:St AV):∀(r:List Oper) (i:Nat) (log:List (Nat×rD)) (A:Jv) (q:Bool) (s s':St AV) (q':Bool),yP A s.E->(∃X,s.E=X++s₀.E)->(q=true->s.H=s₀.H)->(sg N cX base all i r log A q s).val=some (s',q') ->
 (mK N cX base all i r log s).val=some s' /\ (∃X,s'.E=X++s₀.E) /\ (q'=true->s'.H=s₀.H)
 | [],_,_,_,q,s,s',q',_,hX,hq,h=>by simp only [sg,T.val,aaf,aaB] at h;obtain⟨rfl,rfl⟩:=h;exact⟨rfl,hX,hq⟩
 | o::r,i,log,A,q,s,s',q',hA,⟨X,hX⟩,hq,h=>by
   simp only [sg] at h;simp only [mK];split at h
   ·cases h
   ·obtain⟨⟨s1,en,B⟩,h1,h2⟩:=T.bq h;obtain⟨k1,k2⟩:=D6 hA s1 en B h1;obtain⟨⟨Y,hY⟩,hH⟩:=B7 k1;simp only at h2;split at h2
    ·rename_i lc hlc;obtain⟨CT,h2⟩:=ES h2;have Np:=zE hlc CT;rw [T.oC,k1];simp only [Option.bind_some,Np];refine xG s₀ r (i+1) _ B _ s1 s' q' k2 ⟨Y++X,by rw [hY,hX,acA]⟩ (fun hqs=>?_) h2;cases q with
     | false=>simp [AY] at hqs
     | true=>rw [hH hqs,hq rfl]
    ·cases h2
theorem N3 (E:Ev):yP [] E:=fun d x h=>by simp [vt] at h
