import Derived.Test.YtadmfaohjnjajaaGreatDoorSxK
set_option linter.unusedVariables false
set_option linter.unusedSimpArgs false
set_option maxHeartbeats 4000000
namespace Go.Sx
section
variable {AV:Type} {P:Program} {N:Env AV}
theorem uw {cal:Callee AV} {base:Nat} {all:List Oper}:∀(r:List Oper) (i:Nat) (s s':St AV),(jW N cal base all i r s).val=some s'->s.H.length<=s'.H.length
 | [],i,s,s',h=>by
   simp only [jW,T.val,Option.some.injEq] at h
   subst h;exact Nat.le_refl _
 | o::r,i,s,s',h=>by
   simp only [jW] at h
   obtain⟨⟨s₁,en⟩,h1,h2⟩:=T.bind_some h
   exact Nat.le_trans (l6 h1) (uw r (i+1) s₁ s' h2)
structure Like (s t:St AV):Prop where
 H:s.H=t.H
 E:∀k,look s.E k=look t.E k
theorem Like.refl (s:St AV):Like s s:=⟨rfl,fun _=>rfl⟩
theorem Like.evl {s t:St AV} (h:Like s t) (G:Nat):evl G s.H s.E=evl G t.H t.E:=by
 funext x
 rw [h.H]
 cases x<;>simp only [Sx.evl]
 rw [h.E]
theorem Like.wanted {s t:St AV} (h:Like s t) (all:List Oper) (o:Oper):ec all o s.E=ec all o t.E:=by
 unfold ec
 cases o.guard with
 | none=>rfl
 | some p =>
   obtain⟨j,w⟩:=p
   simp only
   cases nth all j with
   | none=>rfl
   | some oj =>
     simp only
     cases oj.dst with
     | none=>rfl
     | some d=>simp only;rw [h.E]
theorem mn (E:Ev) (dst:Option Nat) (v:SV) (k:Nat):look (fS E dst v) k=if dst=some k then v else look E k:=by
 cases dst with
 | none=>simp [fS]
 | some d=>rw [rN];simp
theorem Like.put {E E':Ev} (h:∀k,look E k=look E' k) (dst:Option Nat) (v:SV):∀k,look (fS E dst v) k=look (fS E' dst v) k:=by
 intro k;rw [mn,mn,h]
section
variable (N) (cal:Callee AV) (base:Nat) (ops:Array Oper)
def qe (Φ:St AV->Prop):Nat->Array Bool->List (Nat×Ent)->St AV->Prop
 | 0,listed,_,s=>Region.ready .any ops listed=[] /\ Φ s
 | f+1,listed,log,s=>(Region.ready .any ops listed=[]->Φ s) /\
     ∀i∈Region.ready .any ops listed,∀o,ops[i]?=some o->∃s' en,(hZ N cal base ops.toList i o s).val=some (s',en) /\
       (∀p∈log,lB ops.toList 12 i p.1=false->bZ p.2 en=true) /\ qe Φ f (listed.setIfInBounds i true) ((i,en)::log) s'
end
theorem Eg {cal:Callee AV} {base:Nat} {all:List Oper} {i:Nat} {o:Oper} {s t s':St AV} {en:Ent} (hl:Like s t) (h:(hZ N cal base all i o s).val=some (s',en)) :
 ∃t',(hZ N cal base all i o t).val=some (t',en) /\ Like s' t':=by
 rw [km] at h
 obtain⟨p,hp,h⟩:=Option.bind_eq_some_iff.1 h
 obtain⟨⟨v,H',e⟩,he,hr⟩:=Option.map_eq_some_iff.1 h
 cases hr
 refine⟨{E:=fS t.E o.dst v,H:=H'},?_,⟨rfl,Like.put hl.E _ _⟩⟩
 rw [km,<- hl.wanted,hp,<- hl.evl,<- hl.H]
 simp only [Option.bind_some,he]
 rfl
theorem qX {cal:Callee AV} {base:Nat} {ops:Array Oper} {Φ:St AV->Prop} (hΦ:∀s t,Like s t->Φ s->Φ t):∀(f:Nat) (listed:Array Bool) (log log':List (Nat×Ent)) (s t:St AV),Like s t->(∀p∈log',p∈log) ->
 qe N cal base ops Φ f listed log s->qe N cal base ops Φ f listed log' t
 | 0,_,_,_,s,t,hl,_,h=>⟨h.1,hΦ s t hl h.2⟩
 | f+1,listed,log,log',s,t,hl,hsub,h=>by
   refine⟨fun hr=>hΦ s t hl (h.1 hr),fun i hi o ho=>?_⟩
   obtain⟨s',en,h1,h2,h3⟩:=h.2 i hi o ho
   obtain⟨t',h1',hl'⟩:=Eg hl h1
   refine⟨t',en,h1',fun p hp=>h2 p (hsub p hp),qX hΦ f _ _ _ s' t' hl' ?_ h3⟩
   intro p hp
   rcases List.mem_cons.1 hp with rfl | hp
   ·simp
   ·exact List.mem_cons_of_mem _ (hsub p hp)
def Up (ops:Array Oper) (listed:Array Bool):Prop:=∀j o,ops[j]?=some o->listed.getD j false=true->∀e∈o.after,Region.binds .any e=true->listed.getD e.on false=true
theorem j6:∀{l:List Edge} {i:Nat},lE l i=true->∃e∈l,Region.binds .any e=true /\ e.on=i
 | [],_,h=>by simp [lE] at h
 | e::r,i,h=>by
   simp only [lE] at h
   split at h
   ·rename_i hb
    split at h
    ·rename_i he;exact⟨e,by simp,hb,(ai _ _).1 he⟩
    ·obtain⟨e',h1,h2⟩:=j6 h;exact⟨e',by simp [h1],h2⟩
   ·obtain⟨e',h1,h2⟩:=j6 h;exact⟨e',by simp [h1],h2⟩
theorem uo {rec:Nat->Bool}:∀{l:List Edge},Je rec l=true->∃e∈l,Region.binds .any e=true /\ rec e.on=true
 | [],h=>by simp [Je] at h
 | e::r,h=>by
   simp only [Je] at h
   split at h
   ·rename_i hb
    split at h
    ·rename_i he;exact⟨e,by simp,hb,he⟩
    ·obtain⟨e',h1,h2⟩:=uo h;exact⟨e',by simp [h1],h2⟩
   ·obtain⟨e',h1,h2⟩:=uo h;exact⟨e',by simp [h1],h2⟩
theorem yD {ops:Array Oper} {listed:Array Bool} (hd:Up ops listed):∀(f j i:Nat) (o:Oper),ops[j]?=some o->(∀e∈o.after,Region.binds .any e=true->listed.getD e.on false=true)->lB ops.toList f j i=true->listed.getD i false=true
 | 0,_,_,_,_,_,h=>by simp [lB] at h
 | f+1,j,i,o,ho,hall,h=>by
   simp only [lB,nth_eq,Array.getElem?_toList,ho] at h
   split at h
   ·rename_i he
    obtain⟨e,h1,h2,rfl⟩:=j6 he
    exact hall e (Array.mem_toList_iff.1 h1) h2
   ·obtain⟨e,h1,h2,h3⟩:=uo h
    have hl:=hall e (Array.mem_toList_iff.1 h1) h2
    cases hoe:ops[e.on]? with
    | none =>
      cases f with
      | zero=>simp [lB] at h3
      | succ f=>simp [lB,nth_eq,hoe] at h3
    | some o'=>exact yD hd f e.on i o' hoe (fun e' he' hb'=>hd e.on o' hoe hl e' he' hb') h3
def N0 (ops:Array Oper):Prop:=∀i j oi oj,i≠j->ops[i]?=some oi->ops[j]?=some oj->(∀e∈oj.after,Region.binds .any e=true->e.on≠i)->(∀e∈oi.after,Region.binds .any e=true->e.on≠j) ->
 (∀d,oi.dst=some d->d ∉ oj.looksAt ops) /\ (∀d,oj.dst=some d->d ∉ oi.looksAt ops) /\ (∀d,oi.dst=some d->oj.dst≠some d)
theorem kT {ops:Array Oper} {j:Nat} {oj:Oper}:∀{l:List Oper} {k:Nat},ku ops j oj k l=true->∀m oi,l[m]?=some oi->k+m < j->lE oj.after.toList (k+m)=true \/ oi.apart ops oj=true
 | [],_,_,m,oi,hm,_=>by simp at hm
 | x::r,k,h,m,oi,hm,hlt=>by
   simp only [ku] at h
   split at h
   ·rename_i hb
    have:=(fh _ _).1 hb
    omega
   ·split at h
    ·rename_i he
     cases m with
     | zero=>exact .inl he
     | succ m=>have:=kT h m oi (by simpa using hm) (by omega);rw [show k+(m+1)=k+1+m from by omega];exact this
    ·split at h
     ·rename_i hap
      cases m with
      | zero=>simp at hm;subst hm;exact .inr hap
      | succ m=>have:=kT h m oi (by simpa using hm) (by omega);rw [show k+(m+1)=k+1+m from by omega];exact this
     ·cases h
theorem qa {ops:Array Oper} {all:List Oper}:∀{l:List Oper} {k:Nat},mE ops all k l=true->∀m oj,l[m]?=some oj->ku ops (k+m) oj 0 all=true
 | [],_,_,m,oj,hm=>by simp at hm
 | x::r,k,h,m,oj,hm=>by
   simp only [mE] at h
   split at h
   ·rename_i hx
    cases m with
    | zero=>simp at hm;subst hm;exact hx
    | succ m=>have:=qa h m oj (by simpa using hm);rw [show k+(m+1)=k+1+m from by omega];exact this
   ·cases h
theorem NI {ops:Array Oper} (h:mE ops ops.toList 0 ops.toList=true):N0 ops:=by
 have key:∀i j oi oj,i < j->ops[i]?=some oi->ops[j]?=some oj->(∀e∈oj.after,Region.binds .any e=true->e.on≠i)->oi.apart ops oj=true:=by
  intro i j oi oj hlt hi hj hno
  have h1:=qa h j oj (by simpa using hj)
  rw [Nat.zero_add] at h1
  rcases kT h1 i oi (by simpa using hi) (by omega) with h2 | h2
  ·rw [Nat.zero_add] at h2
   obtain⟨e,h3,h4,h5⟩:=j6 h2
   exact absurd h5 (hno e (Array.mem_toList_iff.1 h3) h4)
  ·exact h2
 intro i j oi oj hne hi hj h1 h2
 rcases Nat.lt_or_gt_of_ne hne with hlt | hlt
 ·obtain⟨a1,a2,a3⟩:=Oper.apart_spec (key i j oi oj hlt hi hj h1)
  exact⟨a1,a3,a2⟩
 ·obtain⟨a1,a2,a3⟩:=Oper.apart_spec (key j i oj oi hlt hj hi h2)
  exact⟨a3,a1,fun d hd he=>a2 d he hd⟩
theorem G1 {G:Nat} {H H':Hp AV} {E:Ev} {dst:Option Nat} {v:SV} {x:Operand} (h:∀d,dst=some d->x≠.tmp d) (hg:∀g,g < G->(ab H' g).isSome=(ab H g).isSome):evl G H' (fS E dst v) x=evl G H E x:=by
 cases x with
 | tmp t =>
   simp only [evl,mn]
   rw [if_neg]
   intro e
   exact h t e rfl
 | const c=>rfl
 | global g =>
   simp only [evl]
   cases hb:Nat.blt g G with
   | false=>rfl
   | true =>
     have:=hg g ((cO _ _).1 hb)
     cases h1:ab H' g<;>cases h2:ab H g<;>simp_all
 | func f=>rfl
theorem CZ {ops:Array Oper} {o:Oper} {d:Nat} (h:d ∉ o.looksAt ops):∀x∈o.op.operands,x≠.tmp d:=by
 intro x hx e
 subst e
 refine h ?_
 unfold Oper.looksAt
 refine List.mem_append.2 (.inl (List.mem_filterMap.2 ⟨.tmp d,Array.mem_toList_iff.2 hx,rfl⟩))
theorem ur {ops:Array Oper} {o:Oper} {E:Ev} {dst:Option Nat} {v:SV} (h:∀d,dst=some d->d ∉ o.looksAt ops):ec ops.toList o (fS E dst v)=ec ops.toList o E:=by
 unfold ec
 cases hg:o.guard with
 | none=>rfl
 | some p =>
   obtain⟨j,w⟩:=p
   simp only [nth_eq,Array.getElem?_toList]
   cases hj:ops[j]? with
   | none=>rfl
   | some oj =>
     simp only
     cases hd:oj.dst with
     | none=>rfl
     | some d =>
       simp only
       rw [mn,if_neg]
       intro e
       refine h d e ?_
       unfold Oper.looksAt
       refine List.mem_append.2 (.inr ?_)
       simp [hg,hj,hd]
theorem Bn:∀(all:List Oper) (b i:Nat) (o:Oper),all[i]?=some o->xu o.op=true->jL all b i < b+cN all
 | [],_,_,_,h,_=>by simp at h
 | x::r,b,0,o,h,hm=>by
   simp at h
   subst h
   simp only [jL,cN,hm]
   omega
 | x::r,b,i+1,o,h,hm=>by
   simp only [jL,cN]
   cases hx:xu x.op with
   | true=>have:=Bn r (b+1) i o (by simpa using h) hm;simp only;omega
   | false=>have:=Bn r b i o (by simpa using h) hm;simp only;omega
theorem Eh {cal:Callee AV} {base:Nat} {ops:Array Oper} {i j:Nat} {oi oj:Oper} {s s1 s12:St AV} {ei ej:Ent} (hcl:Closed N s) (hGb:N.G<=base) (hroom:base+cN ops.toList<=s.H.length)
 (hoi:ops[i]?=some oi) (hoj:ops[j]?=some oj) (hap:(∀d,oi.dst=some d->d ∉ oj.looksAt ops) /\ (∀d,oj.dst=some d->d ∉ oi.looksAt ops) /\ (∀d,oi.dst=some d->oj.dst≠some d))
 (h1:(hZ N cal base ops.toList i oi s).val=some (s1,ei)) (h2:(hZ N cal base ops.toList j oj s1).val=some (s12,ej)) (hc:bZ ei ej=true) :
 ∃s2 s21,(hZ N cal base ops.toList j oj s).val=some (s2,ej) /\ (hZ N cal base ops.toList i oi s2).val=some (s21,ei) /\ Like s12 s21:=by
 obtain⟨p1,p2,p3⟩:=hap
 rw [km] at h1 h2
 obtain⟨wi,hwi,h1⟩:=Option.bind_eq_some_iff.1 h1
 obtain⟨wj,hwj,h2⟩:=Option.bind_eq_some_iff.1 h2
 obtain⟨⟨vi,Hi,ei'⟩,he1,hr1⟩:=Option.map_eq_some_iff.1 h1
 cases hr1
 obtain⟨⟨vj,Hij,ej'⟩,he2,hr2⟩:=Option.map_eq_some_iff.1 h2
 cases hr2
 simp only at he2 hwj
 rw [ur p1] at hwj
 have nmi:N.G<=jL ops.toList base i:=Nat.le_trans hGb (rG _ _ _)
 have nmj:N.G<=jL ops.toList base j:=Nat.le_trans hGb (rG _ _ _)
 have hGH:N.G<=s.H.length:=by omega
 rw [Ai (ev':=evl N.G s.H s.E) (fun x hx=>G1 (fun d hd=>CZ (p1 d hd) x hx) (G4 he1 nmi hGH))] at he2
 have clx:∀x v,evl N.G s.H s.E x=some v->ClV s.H v:=fun x v hx=>qE hcl hx
 have fits:∀k o,ops[k]?=some o->Fits N o.op (jL ops.toList base k) (evl N.G s.H s.E) s.H:=fun k o ho =>
  ⟨fun x _ v hv=>clx x v hv,fun hm=>Nat.lt_of_lt_of_le (Bn ops.toList base k o (by simpa using ho) hm) hroom⟩
 obtain⟨Hj,k1,k2⟩:=M3 (fits i oi hoi) (fits j oj hoj) he1 he2 hc
 refine⟨{E:=fS s.E oj.dst vj,H:=Hj},{E:=fS (fS s.E oj.dst vj) oi.dst vi,H:=Hij},?_,?_,⟨rfl,fun k=>?_⟩⟩
 ·rw [km,hwj]
  simp only [Option.bind_some,k1]
  rfl
 ·rw [km]
  simp only
  rw [ur p2,hwi]
  simp only [Option.bind_some]
  rw [Ai (ev':=evl N.G s.H s.E) (fun x hx=>G1 (fun d hd=>CZ (p2 d hd) x hx) (G4 k1 nmj hGH)),k2]
  rfl
 ·simp only [mn]
  by_cases h1:oj.dst=some k
  ·rw [if_pos h1,if_neg (fun h=>p3 k h h1),if_pos h1]
  ·rw [if_neg h1,if_neg h1]
section sound
variable (hT:TblOk P N) {cal:Callee AV} (hcal:dM P N cal) {base:Nat} {ops:Array Oper}
include hT hcal in
theorem HD {nt L:Nat} (hL:L<=base) (hGb:N.G<=base) {Φ:St AV->Prop} (hΦ:∀s t,Like s t->Φ s->Φ t) (hap:N0 ops) (hd:∀(k:Nat) (o:Oper),ops[k]?=some o->∀d,o.dst=some d->d < nt) {i:Nat} {oi:Oper} (hoi:ops[i]?=some oi) :
 ∀(f:Nat) (listed:Array Bool) (log:List (Nat×Ent)) (s s1:St AV) (en:Ent),listed.size=ops.size->Up ops listed->Closed N s->L<=s.H.length->base+cN ops.toList<=s.H.length->i∈Region.ready .any ops listed ->
   (hZ N cal base ops.toList i oi s).val=some (s1,en)->(∀p∈log,lB ops.toList 12 i p.1=false->bZ p.2 en=true) ->
   qe N cal base ops Φ f (listed.setIfInBounds i true) ((i,en)::log) s1->qe N cal base ops Φ (f+1) listed log s:=by
 intro f
 induction f with
 | zero =>
   intro listed log s s1 en _ _ _ _ _ hr h1 hlog H
   refine⟨fun h0=>(by rw [h0] at hr;cases hr),fun j hj o ho=>?_⟩
   by_cases hji:j=i
   ·subst hji
    rw [hoi] at ho;cases ho
    exact⟨s1,en,h1,hlog,H⟩
   ·have:=ready_mono hj hji
    rw [H.1] at this
    cases this
 | succ f ih =>
   intro listed log s s1 en hsz hdown hcl hH hroom hr h1 hlog H
   refine⟨fun h0=>(by rw [h0] at hr;cases hr),fun j hj oj hoj=>?_⟩
   by_cases hji:j=i
   ·subst hji
    rw [hoi] at hoj;cases hoj
    exact⟨s1,en,h1,hlog,H⟩
   ·obtain⟨s12,ej,h2,hlog2,H2⟩:=H.2 j (ready_mono hj hji) oj hoj
    obtain⟨ui,oi',hoi',alli⟩:=mem_ready.1 hr
    rw [hoi] at hoi';cases hoi'
    obtain⟨uj,oj',hoj',allj⟩:=mem_ready.1 hj
    rw [hoj] at hoj';cases hoj'
    have hisz:i < ops.size:=(Array.getElem?_eq_some_iff.1 hoi).1
    have hjsz:j < ops.size:=(Array.getElem?_eq_some_iff.1 hoj).1
    have nl:∀k,k < ops.size->listed.getD k true=false->listed.getD k false=false:=by
     intro k hk h
     have hk':k < listed.size:=by omega
     simp [hk'] at h ⊢
     exact h
    have ui':=nl i hisz ui
    have uj':=nl j hjsz uj
    have noij:∀e∈oj.after,Region.binds .any e=true->e.on≠i:=fun e he hb heq=>by
     have:=allj e he hb;rw [heq,ui'] at this;cases this
    have noji:∀e∈oi.after,Region.binds .any e=true->e.on≠j:=fun e he hb heq=>by
     have:=alli e he hb;rw [heq,uj'] at this;cases this
    have notanc:lB ops.toList 12 j i=false:=by
     cases ha:lB ops.toList 12 j i with
     | false=>rfl
     | true=>have:=yD hdown 12 j i oj hoj allj ha;rw [ui'] at this;cases this
    have hcompat:=hlog2 (i,en) (by simp) notanc
    obtain⟨s2,s21,k1,k2,hlike⟩:=Eh hcl hGb hroom hoi hoj (hap i j oi oj (Ne.symm hji) hoi hoj noij noji) h1 h2 hcompat
    refine⟨s2,ej,k1,fun p hp=>hlog2 p (List.mem_cons_of_mem _ hp),?_⟩
    have hcl2:Closed N s2:=(q9 (P:=P) (nt:=nt) (L:=L) hT hcal k1 hcl hL hH (hd j oj hoj)).1
    have hlen2:=l6 k1
    refine ih (listed.setIfInBounds j true) ((j,ej)::log) s2 s21 en (by simp [hsz]) ?_ hcl2 (Nat.le_trans hH hlen2) (Nat.le_trans hroom hlen2) (ready_mono hr (Ne.symm hji)) k2 ?_ ?_
    ·-- down
     intro k ok hok hk e he hb
     by_cases hkj:k=j
     ·subst hkj
      rw [hoj] at hok;cases hok
      exact getD_set_true (allj e he hb)
     ·rw [getD_set_ne false (Ne.symm hkj)] at hk
      exact getD_set_true (hdown k ok hok hk e he hb)
    ·intro p hp hpa
     rcases List.mem_cons.1 hp with rfl | hp
     ·exact Du hcompat
     ·exact hlog p hp hpa
    ·rw [Array.setIfInBounds_comm _ _ hji]
     refine qX hΦ f _ _ _ s12 s21 hlike ?_ H2
     intro p hp
     rcases List.mem_cons.1 hp with rfl | hp
     ·simp
     ·rcases List.mem_cons.1 hp with rfl | hp
      ·simp
      ·simp [hp]
def pJ (n i:Nat):Array Bool:=((List.range n).map fun k=>decide (k < i)).toArray
theorem Hv (n i:Nat):(pJ n i).size=n:=by simp [pJ]
theorem nJ (n i k:Nat) (d:Bool):(pJ n i).getD k d=if k < n then decide (k < i) else d:=by
 unfold pJ
 by_cases h:k < n
 ·simp [h]
 ·simp [h]
theorem Hu (n i:Nat):(pJ n i).setIfInBounds i true=pJ n (i+1):=by
 apply Array.ext
 ·simp [pJ]
 ·intro k h1 h2
  have hk:k < n:=by simpa [pJ] using h2
  simp only [pJ,List.getElem_toArray,List.getElem_map,List.getElem_range]
  by_cases e:i=k
  ·subst e;simp
  ·simp [e];omega
theorem Fi (a b:Ent):(j8 a b).ok=bZ a b:=by
 cases a<;>cases b
 case rd.call n R U=>cases h:dW R n<;>simp [j8,bZ,h,Tri.ok]
 case call.rd R U n=>cases h:dW R n<;>simp [j8,bZ,h,Tri.ok]
 case rd.wr n m=>cases h:Nat.beq n m<;>simp [j8,bZ,h,Tri.ok]
 case wr.rd n m=>cases h:Nat.beq n m<;>simp [j8,bZ,h,Tri.ok]
 case wr.wr n m=>cases h:Nat.beq n m<;>simp [j8,bZ,h,Tri.ok]
 case wr.call n R U=>cases h:dW R n<;>simp [j8,bZ,h,Tri.ok]
 case call.wr R U n=>cases h:dW R n<;>simp [j8,bZ,h,Tri.ok]
 all_goals rfl
theorem rO {all:List Oper} {j:Nat} {en:Ent}:∀{log:List (Nat×Ent)} {l:List Bool},ER all j en log=some l->(∀b∈l,b=true)->xB all j en log=true
 | [],l,_,_=>rfl
 | (i,x)::r,l,h,hb=>by
   have hc:=Fi x en
   simp only [ER] at h
   simp only [xB]
   split at h
   ·rename_i e
    rw [e] at hc
    rw [<- hc]
    exact rO h hb
   ·rename_i e
    rw [e] at hc
    rw [<- hc]
    split at h
    ·exact rO h hb
    ·cases h
   ·rename_i b e
    rw [e] at hc
    rw [<- hc]
    split at h
    ·cases b<;>exact rO h hb
    ·split at h
     ·rename_i l' hl
      cases h
      have h1:b=true:=hb b (List.mem_cons_self ..)
      subst h1
      exact rO hl fun c hc=>hb c (List.mem_cons_of_mem _ hc)
     ·cases h
theorem xi {α:Type}:∀{l:List Bool} {t:T α} {r:α},(LK l t).val=some r->(∀b∈l,b=true) /\ t.val=some r
 | [],t,r,h=>⟨fun b hb=>(by cases hb),h⟩
 | b::l,t,r,h=>by
   cases b with
   | false=>cases h
   | true =>
     obtain⟨h1,h2⟩:=xi (l:=l) (t:=t) h
     exact⟨fun c hc=>(List.mem_cons.1 hc).elim id (h1 c),h2⟩
theorem qq {all:List Oper} {j:Nat} {en:Ent}:∀{log:List (Nat×Ent)},xB all j en log=true->∀p∈log,lB all 12 j p.1=false->bZ p.2 en=true
 | [],_,p,hp,_=>by cases hp
 | (i,x)::r,h,p,hp,ha=>by
   simp only [xB] at h
   split at h
   ·rename_i hc
    rcases List.mem_cons.1 hp with rfl | hp
    ·exact hc
    ·exact qq h p hp ha
   ·split at h
    ·rename_i han
     rcases List.mem_cons.1 hp with rfl | hp
     ·rw [han] at ha;cases ha
     ·exact qq h p hp ha
    ·cases h
theorem qF {i:Nat}:∀{l:List Edge},iW i l=true->∀e∈l,Region.binds .any e=true->e.on < i
 | [],_,e,he,_=>by cases he
 | x::r,h,e,he,hb=>by
   simp only [iW] at h
   split at h
   ·rename_i hx
    split at h
    ·rename_i hlt
     rcases List.mem_cons.1 he with rfl | he
     ·exact(cO _ _).1 hlt
     ·exact qF h e he hb
    ·cases h
   ·rename_i hx
    rcases List.mem_cons.1 he with rfl | he
    ·rw [hb] at hx;cases hx
    ·exact qF h e he hb
def Below (ops:Array Oper):Prop:=∀(j:Nat) (o:Oper),ops[j]?=some o->∀e∈o.after,Region.binds .any e=true->e.on < j
theorem DE {cal:Callee AV}:∀(r:List Oper) (i:Nat) (log:List (Nat×Ent)) (s s':St AV),(hP N cal base ops.toList i r log s).val=some s'->∀(k:Nat) (o:Oper),r[k]?=some o->∀e∈o.after,Region.binds .any e=true->e.on < i+k
 | [],_,_,_,_,_,k,o,hk=>by simp at hk
 | x::r,i,log,s,s',h,k,o,hk=>by
   simp only [hP] at h
   split at h
   ·simp [T.val] at h
   ·rename_i hed
    obtain⟨⟨s1,en⟩,h1,h2⟩:=T.bind_some h
    simp only at h2
    split at h2
    ·cases k with
     | zero =>
       simp at hk
       subst hk
       intro e he hb
       exact qF hed e (Array.mem_toList_iff.2 he) hb
     | succ k =>
       have:=DE r (i+1) _ s1 s' h2 k o (by simpa using hk)
       rw [show i+(k+1)=i+1+k from by omega]
       exact this
    ·simp [T.val] at h2
theorem IM {i:Nat} (hb:Below ops):Up ops (pJ ops.size i):=by
 intro j o ho hj e he hbe
 have hjs:j < ops.size:=(Array.getElem?_eq_some_iff.1 ho).1
 have:=hb j o ho e he hbe
 rw [nJ,if_pos hjs] at hj
 rw [nJ,if_pos (by omega)]
 simp at hj ⊢
 omega
include hT hcal in
theorem RP {nt L:Nat} (hL:L<=base) (hGb:N.G<=base) (hap:N0 ops) (hb:Below ops) (hd:∀(k:Nat) (o:Oper),ops[k]?=some o->∀d,o.dst=some d->d < nt) (s':St AV) :
 ∀(r:List Oper) (i:Nat) (log:List (Nat×Ent)) (s:St AV),ops.toList.drop i=r->i+r.length=ops.size->(hP N cal base ops.toList i r log s).val=some s'->Closed N s->L<=s.H.length->base+cN ops.toList<=s.H.length ->
   qe N cal base ops (fun t=>Like s' t) r.length (pJ ops.size i) log s /\ Closed N s' /\ L<=s'.H.length
 | [],i,log,s,hr,hi,h,hcl,hH,_=>by
   simp only [hP,T.val,Option.some.injEq] at h
   subst h
   refine⟨⟨?_,Like.refl s⟩,hcl,hH⟩
   have hi':i=ops.size:=by simpa using hi
   subst hi'
   apply List.eq_nil_iff_forall_not_mem.2
   intro j hj
   obtain⟨h0,o,ho,_⟩:=mem_ready.1 hj
   have hjs:j < ops.size:=(Array.getElem?_eq_some_iff.1 ho).1
   rw [nJ,if_pos hjs] at h0
   simp at h0
   omega
 | x::r,i,log,s,hr,hi,h,hcl,hH,hroom=>by
   have hx:ops[i]?=some x:=by
    have:=congrArg (fun l=>l[0]?) hr
    simpa using this
   have hr':ops.toList.drop (i+1)=r:=by
    have:=congrArg List.tail hr
    simpa [List.tail_drop] using this
   simp only [hP] at h
   split at h
   ·simp [T.val] at h
   ·rename_i hed
    obtain⟨⟨s1,en⟩,h1,h2⟩:=T.bind_some h
    simp only at h2
    split at h2
    ·rename_i hlog
     have hcl1:Closed N s1:=(q9 (P:=P) (nt:=nt) (L:=L) hT hcal h1 hcl hL hH (hd i x hx)).1
     have hlen1:=l6 h1
     obtain⟨ih,c',l'⟩:=RP hL hGb hap hb hd s' r (i+1) ((i,en)::log) s1 hr' (by simp at hi;omega) h2 hcl1 (Nat.le_trans hH hlen1) (Nat.le_trans hroom hlen1)
     refine⟨?_,c',l'⟩
     have his:i < ops.size:=(Array.getElem?_eq_some_iff.1 hx).1
     refine HD (P:=P) (nt:=nt) (L:=L) hT hcal hL hGb (fun s t hst h=>⟨h.H.trans hst.H,fun k=>(h.E k).trans (hst.E k)⟩) hap hd hx r.length (pJ ops.size i) log s s1 en (Hv _ _) (IM hb) hcl hH hroom ?_ h1 (qq hlog) ?_
     ·refine mem_ready.2 ⟨by rw [nJ,if_pos his];simp,x,hx,fun e he hbe=>?_⟩
      have:=hb i x hx e he hbe
      rw [nJ,if_pos (by omega)]
      simp;exact this
     ·rw [Hu];exact ih
    ·simp [T.val] at h2
include hT hcal in
theorem JY {nt L:Nat} (hL:L<=base) (hd:∀(k:Nat) (o:Oper),ops[k]?=some o->∀d,o.dst=some d->d < nt) {Φ:St AV->Prop} {Q:Exit->Act->World->Prop} {ρ₀:Nm} {s₀:St AV} {a₀:Act} {w₀:World}
 (hQ:∀t a w,Φ t->Lands N nt L ρ₀ s₀ w₀ a₀ t a w->Q .normal a w) :
 ∀(f:Nat) (listed:Array Bool) (log:List (Nat×Ent)) (s:St AV),qe N cal base ops Φ f listed log s->Closed N s->L<=s.H.length->∀(ρ:Nm) (a:Act) (w:World),At N nt ρ s a w->Evo N L ρ₀ s₀.H w₀ ρ s.H w->a.defers=a₀.defers->wpAny P .any ops Q f listed a w
 | 0,listed,log,s,h,hcl,hH,ρ,a,w,hat,hev,hdf=>⟨h.1,hQ s a w h.2 ⟨⟨ρ,hat.em,hat.own,hev⟩,hdf⟩⟩
 | f+1,listed,log,s,h,hcl,hH,ρ,a,w,hat,hev,hdf=>by
   refine⟨fun hr=>hQ s a w (h.1 hr) ⟨⟨ρ,hat.em,hat.own,hev⟩,hdf⟩,fun i hi=>?_⟩
   obtain⟨_,o,ho,_⟩:=mem_ready.1 hi
   obtain⟨s1,en,h1,_,h3⟩:=h.2 i hi o ho
   obtain⟨c1,k1⟩:=q9 (P:=P) (nt:=nt) (L:=L) hT hcal h1 hcl hL hH (hd i o ho)
   have:=k1 hat (K:=wpAny P .any ops Q f (listed.setIfInBounds i true)) (Q:=Q) (fun a1 w1 hl=>by
    obtain⟨⟨ρ1,e1,o1,v1⟩,d1⟩:=hl
    exact JY hL hd hQ f _ _ s1 h3 c1 (Nat.le_trans hH (l6 h1)) ρ1 a1 w1 ⟨e1,o1⟩ (hev.trans v1) (d1.trans hdf))
   unfold wpOp
   simp only [ho]
   split
   ·rename_i hw;rw [if_pos hw] at this;exact .inl this
   ·rename_i hw;rw [if_neg hw] at this;exact this
end sound
theorem Ck (hT:TblOk P N) {cal:Callee AV} (hcal:dM P N cal) {nt L base:Nat} (ops:Array Oper) (hap:mE ops ops.toList 0 ops.toList=true) (hL:L<=base) (hGb:N.G<=base) {s s':St AV} (h:(hP N cal base ops.toList 0 ops.toList [] s).val=some s')
 (hcl:Closed N s) (hH:L<=s.H.length) (hd:∀o∈ops.toList,∀d,o.dst=some d->d < nt) (hroom:s.H.length=base+cN ops.toList) :
 Closed N s' /\ L<=s'.H.length /\ ∀{id:Nat} {ρ:Nm} {a:Act} {w:World},At N nt ρ s a w->∀{Q:Exit->Act->World->Prop},(∀a' w',Lands N nt L ρ s w a s' a' w'->Q .normal a' w')->(Code.region id ops true).wp P Q a w:=by
 have hb:Below ops:=fun j o ho e he hbe=>by
  have:=DE ops.toList 0 [] s s' h j o (by simpa using ho) e he hbe
  omega
 have hd':∀(k:Nat) (o:Oper),ops[k]?=some o->∀d,o.dst=some d->d < nt:=fun k o ho=>hd o (Array.mem_toList_iff.2 (Array.mem_of_getElem? ho))
 obtain⟨hsym,c',l'⟩:=RP (P:=P) (nt:=nt) (L:=L) hT hcal hL hGb (NI hap) hb hd' s' ops.toList 0 [] s rfl (by simp) h hcl hH (by omega)
 refine⟨c',l',fun {id ρ a w} hat Q hQ=>wp_region_any hT.mix ?_⟩
 have hrep:Array.replicate ops.size false=pJ ops.size 0:=by
  apply Array.ext
  ·simp [pJ]
  ·intro k h1 h2;simp [pJ]
 rw [hrep]
 have hlen:ops.toList.length=ops.size:=by simp
 rw [hlen] at hsym
 refine JY (P:=P) (nt:=nt) (L:=L) hT hcal hL hd' (Φ:=fun t=>Like s' t) (Q:=Q) (ρ₀:=ρ) (s₀:=s) (a₀:=a) (w₀:=w) ?_ ops.size (pJ ops.size 0) [] s hsym hcl hH ρ a _ ⟨hat.em,hat.own.drew⟩ (Evo.drew' (Evo.refl _ _ _ _)) rfl
 intro t a' w' hlike hl
 refine hQ a' w' ?_
 obtain⟨⟨ρ1,e1,o1,v1⟩,d1⟩:=hl
 refine⟨⟨ρ1,⟨e1.size,fun k hk=>by rw [hlike.E k] at hk ⊢;exact e1.get k hk⟩,by rw [hlike.H];exact o1,by rw [hlike.H];exact v1⟩,d1⟩
end
section
variable {AV:Type} {N:Env AV}
theorem xS {b:Bool} {x y c:Cell} (h:GP b x y=some c):c.name=none /\ ∀ρ:Nm,c.den ρ=(if b=true then x else y).den ρ:=by
 unfold GP at h
 split at h
 ·rename_i p kp q kq h1 h2
  split at h
  ·rename_i hk
   have hpq:p=q:=by
    unfold yC at hk
    split at hk
    ·exact eq_of_beq hk
    ·cases hk
   subst hpq
   cases h
   refine⟨rfl,fun ρ=>?_⟩
   cases b
   ·simp [Cell.den,cK ρ h2]
   ·simp [Cell.den,cK ρ h1]
  ·cases h
   refine⟨rfl,fun ρ=>?_⟩
   cases b
   ·simp [Cell.den,cK ρ h2]
   ·simp [Cell.den,cK ρ h1]
 ·split at h
  ·rename_i k p _ k' q _ h1 h2
   split at h
   ·rename_i hk
    have hk:=of_decide_eq_true hk
    subst hk
    cases h
    refine⟨rfl,fun ρ=>?_⟩
    cases b
    ·simp [Cell.den,cR ρ h2]
    ·simp [Cell.den,cR ρ h1]
   ·cases h
  ·cases h
theorem xQ {b:Bool}:∀{x y c:List Cell},xR b x y=some c->(∀d∈c,d.name=none) /\ ∀ρ:Nm,ah ρ c=ah ρ (if b=true then x else y)
 | [],[],c,h=>by
   simp only [xR,Option.some.injEq] at h;subst h
   cases b<;>simp [ah]
 | [],_::_,_,h=>by simp [xR] at h
 | _::_,[],_,h=>by simp [xR] at h
 | x::xs,y::ys,c,h=>by
   simp only [xR] at h
   split at h
   ·rename_i d hd
    split at h
    ·rename_i l hl
     cases h
     obtain⟨a1,a2⟩:=xS hd
     obtain⟨b1,b2⟩:=xQ hl
     refine⟨fun e he=>?_,fun ρ=>?_⟩
     ·rcases List.mem_cons.1 he with rfl | he
      ·exact a1
      ·exact b1 e he
     ·have e1:=a2 ρ
      have e2:=b2 ρ
      cases b<;>simp [ah] at e1 e2 ⊢<;>exact⟨e1,e2⟩
    ·cases h
   ·cases h
theorem qv (H:Hp AV) (b:Bool) (x y:SV):ClV H (ny b x y) /\ (ny b x y=.unk \/ ((if b=true then x else y)≠.unk /\ ny b x y≠.unk /\ ∀ρ:Nm,(ny b x y).den ρ=(if b=true then x else y).den ρ)):=by
 unfold ny
 split
 ·split
  ·rename_i hc
   obtain⟨a1,a2⟩:=xS hc
   refine⟨dm a1,.inr ⟨by cases b<;>simp,by simp,fun ρ=>?_⟩⟩
   have:=a2 ρ
   cases b<;>simpa [SV.den,V1.den] using this
  ·exact⟨trivial,.inl rfl⟩
 ·split
  ·rename_i hc
   obtain⟨a1,a2⟩:=xQ hc
   refine⟨eh a1,.inr ⟨by cases b<;>simp,by simp,fun ρ=>?_⟩⟩
   have:=a2 ρ
   cases b<;>simp [SV.den,V1.den] at this ⊢<;>rw [this]
  ·exact⟨trivial,.inl rfl⟩
 ·exact⟨trivial,.inl rfl⟩
theorem xO (b:Bool) (E:Ev):∀{W X Z:Ev},ox b W X=some Z->∀k,look (Z++E) k=ny b (look (W++E) k) (look (X++E) k) \/ (look (Z++E) k=look E k /\ look (W++E) k=look E k /\ look (X++E) k=look E k)
 | [],[],Z,h,k=>by
   simp only [ox,Option.some.injEq] at h
   subst h
   exact .inr ⟨rfl,rfl,rfl⟩
 | [],_::_,_,h,_=>by simp [ox] at h
 | _::_,[],_,h,_=>by simp [ox] at h
 | (j,v)::r,(j',u)::q,Z,h,k=>by
   simp only [ox] at h
   split at h
   ·rename_i hj
    have hj:=(ai _ _).1 hj
    subst hj
    split at h
    ·rename_i z hz
     cases h
     simp only [List.cons_append,look]
     by_cases e:j=k
     ·subst e
      rw [Nat.beq_refl]
      exact .inl rfl
     ·rw [(aR j k).2 e]
      exact xO b E hz k
    ·cases h
   ·cases h
theorem pF {n m:Option Bool} {z:Option Ev} {W:Ev} (h:Fz n z=some (m,W)):n=m /\ z=some W:=by
 cases z with
 | none=>simp [Fz] at h
 | some x=>simp only [Fz,Option.some.injEq,Prod.mk.injEq] at h;exact⟨h.1,by rw [h.2]⟩
theorem p7:∀(X E:Ev),xZ ((X++E).length - E.length) (X++E)=X
 | [],E=>by simp [xZ]
 | x::X,E=>by
   have:=p7 X E
   have e:((x::X)++E).length - E.length=X.length+1:=by simp;omega
   have e':(X++E).length - E.length=X.length:=by simp
   rw [e'] at this
   rw [e]
   simp only [List.cons_append,xZ,this]
def oh:Option Bool->Prop
 | none=>True
 | some b=>b=true
theorem kL (H:Hp AV) (E:Ev) (hE:∀k,ClV H (look E k)):∀{t:T (St AV×Bool)} {n:Option Bool} {W:Ev},mo E t=some (n,W)->oh n ->
 ∃s,t.val=some (s,true) /\ ((∀X,s.E=X++E->(∀k,ClV H (look s.E k))->(∀k,ClV H (look (W++E) k)) /\ ∀k,look (W++E) k=.unk \/ (look s.E k≠.unk /\ ∀ρ:Nm,(look (W++E) k).den ρ=(look s.E k).den ρ)))
 | .leaf (s,q),n,W,h,hn=>by
   cases q with
   | false=>simp [mo] at h
   | true =>
   simp only [mo,Option.some.injEq,Prod.mk.injEq] at h
   obtain⟨rfl,rfl⟩:=h
   refine⟨s,rfl,fun X hX hc=>?_⟩
   rw [hX,p7]
   rw [hX] at hc
   refine⟨hc,fun k=>?_⟩
   by_cases hk:look (X++E) k=.unk
   ·exact .inl hk
   ·exact .inr ⟨hk,fun _=>rfl⟩
 | .need b t,n,W,h,hn=>by
   simp only [mo] at h
   split at h
   ·rename_i W' ht
    cases h
    have hb:b=true:=hn
    subst hb
    obtain⟨s,hs,k⟩:=kL H E hE ht trivial
    exact⟨s,hs,k⟩
   ·rename_i m W' ht
    cases h
    cases b with
    | false=>cases hn
    | true =>
      obtain⟨s,hs,k⟩:=kL H E hE ht hn
      exact⟨s,hs,k⟩
   ·cases h
 | .ite b t e,n,W,h,hn=>by
   have key:∀(n1 n2:Option Bool) (W1 W2:Ev),mo E t=some (n1,W1)->mo E e=some (n2,W2)->(b=true->oh n1)->(b=false->oh n2)->ox b W1 W2=some W ->
    ∃s,(T.ite b t e).val=some (s,true) /\ ((∀X,s.E=X++E->(∀k,ClV H (look s.E k))->(∀k,ClV H (look (W++E) k)) /\ ∀k,look (W++E) k=.unk \/ (look s.E k≠.unk /\ ∀ρ:Nm,(look (W++E) k).den ρ=(look s.E k).den ρ))):=by
    intro n1 n2 W1 W2 h1 h2 ht he hW
    have main:∀(Wb:Ev) (s:St AV),(Wb=if b=true then W1 else W2)->(∀X,s.E=X++E->(∀k,ClV H (look s.E k))->(∀k,ClV H (look (Wb++E) k)) /\ ∀k,look (Wb++E) k=.unk \/ (look s.E k≠.unk /\ ∀ρ:Nm,(look (Wb++E) k).den ρ=(look s.E k).den ρ)) ->
     (∀X,s.E=X++E->(∀k,ClV H (look s.E k))->(∀k,ClV H (look (W++E) k)) /\ ∀k,look (W++E) k=.unk \/ (look s.E k≠.unk /\ ∀ρ:Nm,(look (W++E) k).den ρ=(look s.E k).den ρ)):=by
     intro Wb s hWb hs X hX hc
     obtain⟨_,hs2⟩:=hs X hX hc
     have hl:=xO b E hW
     refine⟨fun k=>?_,fun k=>?_⟩
     ·rcases hl k with h | ⟨h,_,_⟩
      ·rw [h];exact(qv H b _ _).1
      ·rw [h];exact hE k
     ·rcases hl k with h | ⟨h,hw,hx⟩
      ·rw [h]
       rcases (qv H b (look (W1++E) k) (look (W2++E) k)).2 with hj | ⟨hj1,hj2,hj3⟩
       ·exact .inl hj
       ·have hsel:(if b=true then look (W1++E) k else look (W2++E) k)=look (Wb++E) k:=by rw [hWb];cases b<;>rfl
        rw [hsel] at hj1 hj3
        rcases hs2 k with hu | ⟨hu1,hu2⟩
        ·exact absurd hu hj1
        ·exact .inr ⟨hu1,fun ρ=>(hj3 ρ).trans (hu2 ρ)⟩
      ·rw [h]
       have hb:look (Wb++E) k=look E k:=by
        rw [hWb]
        cases b
        ·exact hx
        ·exact hw
       have:=hs2 k
       rw [hb] at this
       exact this
    cases b with
    | true =>
      obtain⟨s,hs,k⟩:=kL H E hE h1 (ht rfl)
      exact⟨s,hs,main W1 s rfl k⟩
    | false =>
      obtain⟨s,hs,k⟩:=kL H E hE h2 (he rfl)
      exact⟨s,hs,main W2 s rfl k⟩
   simp only [mo] at h
   split at h
   ·rename_i W1 W2 h1 h2
    obtain⟨rfl,hz⟩:=pF h
    exact key none none W1 W2 h1 h2 (fun _=>trivial) (fun _=>trivial) hz
   ·rename_i n1 W1 W2 h1 h2
    obtain⟨rfl,hz⟩:=pF h
    exact key (some n1) none W1 W2 h1 h2 (fun hb=>by subst hb;exact hn) (fun _=>trivial) hz
   ·rename_i W1 n2 W2 h1 h2
    obtain⟨rfl,hz⟩:=pF h
    exact key none (some n2) W1 W2 h1 h2 (fun _=>trivial) (fun hb=>by subst hb;exact hn) hz
   ·rename_i n1 W1 n2 W2 h1 h2
    obtain⟨rfl,hz⟩:=pF h
    exact key (some n1) (some n2) W1 W2 h1 h2 (fun hb=>by subst hb;exact hn) (fun hb=>by subst hb;exact hn) hz
   ·cases h
 | .fail _,_,_,h,_=>by simp [mo] at h
theorem tA:∀(H B:Hp AV) (i:Nat),H.length=B.length->bG [] i H B=H
 | [],[],_,_=>rfl
 | [],_::_,_,h=>by simp at h
 | _::_,[],_,h=>by simp at h
 | none::r,y::q,i,h=>by simp [bG,tA r q (i+1) (by simpa using h)]
 | some x::r,y::q,i,h=>by simp [bG,Cs,m7,tA r q (i+1) (by simpa using h)]
theorem ux {cal:Callee AV} {base:Nat} {all:List Oper} {i:Nat} {o:Oper} {s s':St AV} {en:Ent} (h:(hZ N cal base all i o s).val=some (s',en)):(∃X,s'.E=X++s.E) /\ (sY true en s.H s'.H=true->s'.H=s.H):=by
 rw [km] at h
 obtain⟨p,hp,h⟩:=Option.bind_eq_some_iff.1 h
 obtain⟨⟨v,H',en⟩,he,hr⟩:=Option.map_eq_some_iff.1 h
 cases hr
 refine⟨?_,fun hq=>?_⟩
 ·cases o.dst with
  | none=>exact⟨[],rfl⟩
  | some d=>exact⟨[(d,v)],rfl⟩
 ·cases hi:qw en with
  | false =>
    obtain⟨u,hu,hw,_⟩:=mB he hi
    simp only at hu ⊢
    rcases hw with rfl | ⟨n,c,rfl,hen,_⟩
    ·exact hu
    ·rw [hen] at hq;cases hq
  | true =>
    cases en with
    | pure=>cases hi
    | rd _=>cases hi
    | wr _=>cases hi
    | call R =>
      cases R with
      | cons _ _=>cases hq
      | nil =>
        obtain⟨_,B,_,hl,hH,_⟩:=sc he
        simp only [sY] at hq
        have hlen:=(ai _ _).1 hq
        simp only at hlen ⊢
        subst hH
        rw [kr _ _ _ _ hl] at hlen
        exact tA s.H B 0 hlen
structure Ref (m s:St AV):Prop where
 H:m.H=s.H
 E:∀k,look m.E k=.unk \/ (look s.E k≠.unk /\ ∀ρ:Nm,(look m.E k).den ρ=(look s.E k).den ρ)
theorem Ref.em {m s:St AV} (h:Ref m s) {ρ:Nm} {nt:Nat} {a:Act} (he:EM ρ nt s.E a):EM ρ nt m.E a :=
 ⟨he.size,fun k hk=>by
   rcases h.E k with hu | ⟨h1,h2⟩
   ·exact absurd hu hk
   ·rw [h2 ρ];exact he.get k h1⟩
theorem xP {s m:St AV} {t:T (St AV×Bool)} (hcl:Closed N s) (h:(GO s t).val=some m)
 (hq:∀s' q,t.val=some (s',q)->Closed N s' /\ (∃X,s'.E=X++s.E) /\ (q=true->s'.H=s.H)):∃s' q,t.val=some (s',q) /\ Ref m s' /\ Closed N m:=by
 have triv:(t.map fun r=>r.1).val=some m->∃s' q,t.val=some (s',q) /\ Ref m s' /\ Closed N m:=fun h=>by
  rw [T.val_map] at h
  obtain⟨⟨s',q⟩,h1,rfl⟩:=Option.map_eq_some_iff.1 h
  exact⟨s',q,h1,⟨rfl,fun k=>by
   by_cases hk:look s'.E k=.unk
   ·exact .inl hk
   ·exact .inr ⟨hk,fun _=>rfl⟩⟩,(hq s' q h1).1⟩
 have main:∀(n:Option Bool) (W:Ev),mo s.E t=some (n,W)->oh n->∃s' q,t.val=some (s',q) /\ Ref ({s with E:=W++s.E}:St AV) s' /\ Closed N ({s with E:=W++s.E}:St AV):=by
  intro n W hj hn
  obtain⟨s',hs',k⟩:=kL s.H s.E hcl.E hj hn
  obtain⟨hcs,⟨X,hX⟩,hH⟩:=hq s' true hs'
  have hH:=hH rfl
  obtain⟨k1,k2⟩:=k X hX (fun k=>by have:=hcs.E k;rw [hH] at this;exact this)
  exact⟨s',true,hs',⟨hH.symm,k2⟩,⟨k1,hcl.H⟩⟩
 unfold GO at h
 split at h
 ·exact triv h
 ·split at h
  ·rename_i W hj
   simp only [T.val,Option.some.injEq] at h
   subst h
   exact main none W hj trivial
  ·rename_i n W hj
   obtain⟨hb,h⟩:=cZ h
   simp only [T.val,Option.some.injEq] at h
   subst h
   exact main (some n) W hj hb
  ·exact triv h
end
section
variable {AV:Type} {N:Env AV}
def Cons (A:Asm) (E:Ev):Prop:=∀d x,ou A d=some x->∃c k,look E d=.v (.c c) /\ gq c=some (x,k)
theorem qG:∀(A:Asm) (n d:Nat),ou (Ak A n) d=if n=d then none else ou A d
 | [],n,d=>by simp [Ak,ou]
 | (k,b)::r,n,d=>by
   simp only [Ak]
   by_cases h:k=n
   ·subst h
    rw [Nat.beq_refl]
    simp only [ou]
    rw [qG r k d]
    by_cases e:k=d
    ·simp [e]
    ·rw [if_neg e,if_neg e,(aR k d).2 e]
   ·rw [(aR k n).2 h]
    simp only [ou]
    by_cases e:k=d
    ·subst e
     rw [Nat.beq_refl]
     simp only
     rw [if_neg (Ne.symm h)]
    ·rw [(aR k d).2 e]
     simp only
     exact qG r n d
theorem Cons.put {A:Asm} {E:Ev} (h:Cons A E) (dst:Option Nat) (v:SV):Cons (uO A dst) (fS E dst v):=by
 intro d x hd
 cases dst with
 | none=>exact h d x hd
 | some n =>
   simp only [uO,qG] at hd
   split at hd
   ·cases hd
   ·rename_i hne
    rw [rN,if_neg hne]
    exact h d x hd
theorem Cons.cons {A:Asm} {E:Ev} (h:Cons A E) {d:Nat} {x:Bool} (hd:∃c k,look E d=.v (.c c) /\ gq c=some (x,k)):Cons ((d,x)::A) E:=by
 intro n y hn
 simp only [ou] at hn
 split at hn
 ·rename_i he
  cases hn
  rw [<- (ai _ _).1 he]
  exact hd
 ·exact h n y hn
theorem II {cal:Callee AV} {base:Nat} {all:List Oper} {i:Nat} {o:Oper} {A B:Asm} {s:St AV} (hA:Cons A s.E) :
 (Af N cal base all i o A B s).val=((iL N cal (jL all base i) o s).val.map fun s'=>(s',dp N (jL all base i) (evl N.G s.H s.E) s.H s'.H o.op,uO B o.dst)):=by
 unfold Af
 split
 ·rename_i t ht
  unfold Rr at ht
  split at ht
  ·rename_i c a b hop
   split at ht
   ·cases ht
   ·rename_i x hx
    simp only [Option.some.injEq] at ht
    subst ht
    obtain⟨cc,k,hl,hb⟩:=hA c x hx
    have hent:∀H':Hp AV,dp N (jL all base i) (evl N.G s.H s.E) s.H H' o.op=.pure:=fun _=>by rw [hop];rfl
    simp only [hent]
    unfold iL
    rw [hop]
    simp only [callee?,xW,RD,gi,nX,T.val_bind,T.val_map]
    have hev:evl N.G s.H s.E (.tmp c)=some (.v (.c cc)):=by simp [evl,hl]
    rw [hev]
    cases evl N.G s.H s.E a with
    | none=>rfl
    | some p =>
      cases evl N.G s.H s.E b with
      | none=>rfl
      | some q =>
        simp only [hb]
        cases x<;>cases k<;>simp [T.val,du]
  ·cases ht
 ·rw [T.val_map]
theorem Dd {all:List Oper} {o:Oper} {E:Ev} {b:Bool} (h:ec all o E=some (b,false)):∃d want c x,TJ all o=some (d,want) /\ look E d=.v (.c c) /\ gq c=some (x,false) /\ b=(x==want):=by
 unfold ec at h
 unfold TJ
 cases hg:o.guard with
 | none=>simp [hg] at h
 | some p =>
   obtain⟨j,want⟩:=p
   simp only [hg] at h ⊢
   cases hj:nth all j with
   | none=>simp [hj] at h
   | some oj =>
     simp only [hj] at h ⊢
     cases hd:oj.dst with
     | none=>simp [hd] at h
     | some d =>
       simp only [hd] at h ⊢
       split at h
       ·cases h
       ·rename_i c hl
        split at h
        ·rename_i x k hb
         simp only [Option.some.injEq,Prod.mk.injEq] at h
         obtain⟨h1,rfl⟩:=h
         exact⟨d,want,c,x,rfl,hl,hb,h1.symm⟩
        ·simp at h
       ·simp at h
theorem wx {cal:Callee AV} {base:Nat} {all:List Oper} {i:Nat} {o:Oper} {A:Asm} {s:St AV} (hA:Cons A s.E) :
 (∀s' en B,(A4 N cal base all i o A s).val=some (s',en,B)->(hZ N cal base all i o s).val=some (s',en) /\ Cons B s'.E):=by
 intro s' en B h
 rw [oV]
 unfold sP
 unfold A4 at h
 have fin:∀C,Cons C s.E->(Af N cal base all i o A C s).val=some (s',en,B)->((iL N cal (jL all base i) o s).val.map fun s'=>(s',dp N (jL all base i) (evl N.G s.H s.E) s.H s'.H o.op))=some (s',en) /\ Cons B s'.E:=by
  intro C hC he
  rw [II hA] at he
  obtain⟨s1,hs,he⟩:=Option.map_eq_some_iff.1 he
  cases he
  refine⟨by rw [hs];rfl,?_⟩
  have:∃v,s'.E=fS s.E o.dst v:=by
   unfold iL at hs
   split at hs
   ·obtain⟨r,_,hs⟩:=T.bind_some hs
    simp only [T.val,Option.some.injEq] at hs
    exact⟨r.1,by rw [<- hs]⟩
   ·simp [T.val] at hs
   ·obtain⟨r,_,hs⟩:=T.bind_some hs
    simp only [T.val,Option.some.injEq] at hs
    exact⟨r.1,by rw [<- hs]⟩
  obtain⟨v,hv⟩:=this
  rw [hv]
  exact hC.put _ _
 split at h
 ·simp [T.val] at h
 ·rename_i b hw
  simp only [hw]
  cases b with
  | true=>exact fin A hA h
  | false =>
    simp only [T.val,Option.some.injEq,Prod.mk.injEq] at h
    obtain⟨rfl,rfl,rfl⟩:=h
    exact⟨rfl,hA.put _ _⟩
 ·rename_i b hw
  simp only [hw]
  obtain⟨d,want,c,x,hg,hl,hb,rfl⟩:=Dd hw
  simp only [hg] at h
  split at h
  ·rename_i y hy
   obtain⟨c',k',hl',hb'⟩:=hA d y hy
   rw [hl] at hl'
   cases hl'
   rw [hb] at hb'
   cases hb'
   cases hxw:(x==want) with
   | true=>simp only [hxw] at h ⊢;exact fin A hA h
   | false =>
     simp only [hxw,T.val,Option.some.injEq,Prod.mk.injEq] at h ⊢
     obtain⟨rfl,rfl,rfl⟩:=h
     exact⟨rfl,hA.put _ _⟩
  ·have hx:∀y,x=y->Cons ((d,y)::A) s.E:=fun y e=>hA.cons ⟨c,false,hl,by rw [hb,e]⟩
   cases hxw:(x==want) with
   | true =>
     have e:x=want:=by simpa using hxw
     simp only [hxw,T.val] at h ⊢
     exact fin _ (hx want e) h
   | false =>
     have e:x=!want:=by cases x<;>cases want<;>simp_all
     simp only [hxw,T.val,Option.some.injEq,Prod.mk.injEq] at h ⊢
     obtain⟨rfl,rfl,rfl⟩:=h
     exact⟨rfl,(hx _ e).put _ _⟩
theorem qZ {cal:Callee AV} {base:Nat} {all:List Oper} (s₀:St AV):∀(r:List Oper) (i:Nat) (A:Asm) (q:Bool) (s s':St AV) (q':Bool),Cons A s.E->(∃X,s.E=X++s₀.E)->(q=true->s.H=s₀.H)->(nM N cal base all i r A q s).val=some (s',q') ->
 (jW N cal base all i r s).val=some s' /\ (∃X,s'.E=X++s₀.E) /\ (q'=true->s'.H=s₀.H)
 | [],_,_,q,s,s',q',_,hX,hq,h=>by
   simp only [nM,T.val,Option.some.injEq,Prod.mk.injEq] at h
   obtain⟨rfl,rfl⟩:=h
   exact⟨rfl,hX,hq⟩
 | o::r,i,A,q,s,s',q',hA,⟨X,hX⟩,hq,h=>by
   simp only [nM] at h
   obtain⟨⟨s1,en,B⟩,h1,h2⟩:=T.bind_some h
   obtain⟨k1,k2⟩:=wx hA s1 en B h1
   obtain⟨⟨Y,hY⟩,hH⟩:=ux k1
   simp only [jW]
   rw [T.val_bind,k1]
   refine qZ s₀ r (i+1) B _ s1 s' q' k2 ⟨Y++X,by rw [hY,hX,List.append_assoc]⟩ (fun hqs=>?_) h2
   cases q with
   | false=>simp [sY] at hqs
   | true=>rw [hH hqs,hq rfl]
theorem pT {cal:Callee AV} {base:Nat} {all:List Oper} (s₀:St AV):∀(r:List Oper) (i:Nat) (log:List (Nat×Ent)) (A:Asm) (q:Bool) (s s':St AV) (q':Bool),Cons A s.E->(∃X,s.E=X++s₀.E)->(q=true->s.H=s₀.H)->(lZ N cal base all i r log A q s).val=some (s',q') ->
 (hP N cal base all i r log s).val=some s' /\ (∃X,s'.E=X++s₀.E) /\ (q'=true->s'.H=s₀.H)
 | [],_,_,_,q,s,s',q',_,hX,hq,h=>by
   simp only [lZ,T.val,Option.some.injEq,Prod.mk.injEq] at h
   obtain⟨rfl,rfl⟩:=h
   exact⟨rfl,hX,hq⟩
 | o::r,i,log,A,q,s,s',q',hA,⟨X,hX⟩,hq,h=>by
   simp only [lZ] at h
   simp only [hP]
   split at h
   ·simp [T.val] at h
   ·obtain⟨⟨s1,en,B⟩,h1,h2⟩:=T.bind_some h
    obtain⟨k1,k2⟩:=wx hA s1 en B h1
    obtain⟨⟨Y,hY⟩,hH⟩:=ux k1
    simp only at h2
    split at h2
    ·rename_i lc hlc
     obtain⟨hall,h2⟩:=xi h2
     have hlog:=rO hlc hall
     rw [T.val_bind,k1]
     simp only [Option.bind_some,hlog]
     refine pT s₀ r (i+1) _ B _ s1 s' q' k2 ⟨Y++X,by rw [hY,hX,List.append_assoc]⟩ (fun hqs=>?_) h2
     cases q with
     | false=>simp [sY] at hqs
     | true=>rw [hH hqs,hq rfl]
    ·simp [T.val] at h2
theorem Dt (E:Ev):Cons [] E:=fun d x h=>by simp [ou] at h
end
end Go.Sx
