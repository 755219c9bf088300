import Derived.Test.YtcpdipfepeccgaaGreatDoorSxK
set_option linter.unusedVariables false
set_option linter.unusedSimpArgs false
set_option maxHeartbeats 4000000
namespace Go.Sx
variable {AV:Type} {P:Program} {N:Env AV}
theorem qP {cal:Callee AV} {base:Nat} {all:List Oper}:∀(r:List Oper) (i:Nat) (s s':St AV),(hI N cal base all i r s).val=some s'->s.H.length<=s'.H.length
 | [],i,s,s',h=>by
   simp only [hI,T.val,Option.some.injEq] at h
   subst h;exact Nat.le_refl _
 | o::r,i,s,s',h=>by
   simp only [hI] at h
   obtain⟨⟨s₁,en⟩,h1,h2⟩:=T.bind_some h
   exact Nat.le_trans (jO h1) (qP r (i+1) s₁ s' h2)
structure Like (s t:St AV):Prop where
 H:s.H=t.H
 E:∀k,look s.E k=look t.E k
theorem Like.refl (s:St AV):Like s s:=⟨rfl,fun _=>rfl⟩
theorem Like.evl {s t:St AV} (h:Like s t) (G:Nat):evl G s.H s.E=evl G t.H t.E:=by
 funext x
 rw [h.H]
 cases x<;>simp only [Sx.evl]
 rw [h.E]
theorem Like.wanted {s t:St AV} (h:Like s t) (all:List Oper) (o:Oper):wantedS all o s.E=wantedS all o t.E:=by
 unfold wantedS
 cases o.guard with
 | none=>rfl
 | some p =>
   obtain⟨j,w⟩:=p
   simp only
   cases nth all j with
   | none=>rfl
   | some oj =>
     simp only
     cases oj.dst with
     | none=>rfl
     | some d=>simp only;rw [h.E]
theorem j5 (E:Ev) (dst:Option Nat) (v:SV) (k:Nat):look (dv E dst v) k=if dst=some k then v else look E k:=by
 cases dst with
 | none=>simp [dv]
 | some d=>rw [pj];simp
theorem Like.put {E E':Ev} (h:∀k,look E k=look E' k) (dst:Option Nat) (v:SV):∀k,look (dv E dst v) k=look (dv E' dst v) k:=by
 intro k;rw [j5,j5,h]
section
variable (N) (cal:Callee AV) (base:Nat) (ops:Array Oper)
def nA (Φ:St AV->Prop):Nat->Array Bool->List (Nat×Ent)->St AV->Prop
 | 0,listed,_,s=>Region.ready .any ops listed=[] /\ Φ s
 | f+1,listed,log,s=>(Region.ready .any ops listed=[]->Φ s) /\
     ∀i∈Region.ready .any ops listed,∀o,ops[i]?=some o->∃s' en,(gB N cal base ops.toList i o s).val=some (s',en) /\
       (∀p∈log,isAnc ops.toList 12 i p.1=false->compatE p.2 en=true) /\ nA Φ f (listed.setIfInBounds i true) ((i,en)::log) s'
end
theorem BA {cal:Callee AV} {base:Nat} {all:List Oper} {i:Nat} {o:Oper} {s t s':St AV} {en:Ent} (hl:Like s t) (h:(gB N cal base all i o s).val=some (s',en)) :
 ∃t',(gB N cal base all i o t).val=some (t',en) /\ Like s' t':=by
 rw [iq] at h
 obtain⟨p,hp,h⟩:=Option.bind_eq_some_iff.1 h
 obtain⟨⟨v,H',e⟩,he,hr⟩:=Option.map_eq_some_iff.1 h
 cases hr
 refine⟨{E:=dv t.E o.dst v,H:=H'},?_,⟨rfl,Like.put hl.E _ _⟩⟩
 rw [iq,<- hl.wanted,hp,<- hl.evl,<- hl.H]
 simp only [Option.bind_some,he]
 rfl
theorem oF {cal:Callee AV} {base:Nat} {ops:Array Oper} {Φ:St AV->Prop} (hΦ:∀s t,Like s t->Φ s->Φ t):∀(f:Nat) (listed:Array Bool) (log log':List (Nat×Ent)) (s t:St AV),Like s t->(∀p∈log',p∈log) ->
 nA N cal base ops Φ f listed log s->nA N cal base ops Φ f listed log' t
 | 0,_,_,_,s,t,hl,_,h=>⟨h.1,hΦ s t hl h.2⟩
 | f+1,listed,log,log',s,t,hl,hsub,h=>by
   refine⟨fun hr=>hΦ s t hl (h.1 hr),fun i hi o ho=>?_⟩
   obtain⟨s',en,h1,h2,h3⟩:=h.2 i hi o ho
   obtain⟨t',h1',hl'⟩:=BA hl h1
   refine⟨t',en,h1',fun p hp=>h2 p (hsub p hp),oF hΦ f _ _ _ s' t' hl' ?_ h3⟩
   intro p hp
   rcases List.mem_cons.1 hp with rfl | hp
   ·simp
   ·exact List.mem_cons_of_mem _ (hsub p hp)
def Qr (ops:Array Oper) (listed:Array Bool):Prop:=∀j o,ops[j]?=some o->listed.getD j false=true->∀e∈o.after,Region.binds .any e=true->listed.getD e.on false=true
theorem ib:∀{l:List Edge} {i:Nat},hasEdge l i=true->∃e∈l,Region.binds .any e=true /\ e.on=i
 | [],_,h=>by simp [hasEdge] at h
 | e::r,i,h=>by
   simp only [hasEdge] at h
   split at h
   ·rename_i hb
    split at h
    ·rename_i he;exact⟨e,by simp,hb,(af _ _).1 he⟩
    ·obtain⟨e',h1,h2⟩:=ib h;exact⟨e',by simp [h1],h2⟩
   ·obtain⟨e',h1,h2⟩:=ib h;exact⟨e',by simp [h1],h2⟩
theorem qI {rec:Nat->Bool}:∀{l:List Edge},anyE rec l=true->∃e∈l,Region.binds .any e=true /\ rec e.on=true
 | [],h=>by simp [anyE] at h
 | e::r,h=>by
   simp only [anyE] at h
   split at h
   ·rename_i hb
    split at h
    ·rename_i he;exact⟨e,by simp,hb,he⟩
    ·obtain⟨e',h1,h2⟩:=qI h;exact⟨e',by simp [h1],h2⟩
   ·obtain⟨e',h1,h2⟩:=qI h;exact⟨e',by simp [h1],h2⟩
theorem uU {ops:Array Oper} {listed:Array Bool} (hd:Qr ops listed):∀(f j i:Nat) (o:Oper),ops[j]?=some o->(∀e∈o.after,Region.binds .any e=true->listed.getD e.on false=true)->isAnc ops.toList f j i=true->listed.getD i false=true
 | 0,_,_,_,_,_,h=>by simp [isAnc] at h
 | f+1,j,i,o,ho,hall,h=>by
   simp only [isAnc,nth_eq,Array.getElem?_toList,ho] at h
   split at h
   ·rename_i he
    obtain⟨e,h1,h2,rfl⟩:=ib he
    exact hall e (Array.mem_toList_iff.1 h1) h2
   ·obtain⟨e,h1,h2,h3⟩:=qI h
    have hl:=hall e (Array.mem_toList_iff.1 h1) h2
    cases hoe:ops[e.on]? with
    | none =>
      cases f with
      | zero=>simp [isAnc] at h3
      | succ f=>simp [isAnc,nth_eq,hoe] at h3
    | some o'=>exact uU hd f e.on i o' hoe (fun e' he' hb'=>hd e.on o' hoe hl e' he' hb') h3
def J7 (ops:Array Oper):Prop:=∀i j oi oj,i≠j->ops[i]?=some oi->ops[j]?=some oj->(∀e∈oj.after,Region.binds .any e=true->e.on≠i)->(∀e∈oi.after,Region.binds .any e=true->e.on≠j) ->
 (∀d,oi.dst=some d->d ∉ oj.looksAt ops) /\ (∀d,oj.dst=some d->d ∉ oi.looksAt ops) /\ (∀d,oi.dst=some d->oj.dst≠some d)
theorem jc {ops:Array Oper} {j:Nat} {oj:Oper}:∀{l:List Oper} {k:Nat},iA ops j oj k l=true->∀m oi,l[m]?=some oi->k+m < j->hasEdge oj.after.toList (k+m)=true \/ oi.apart ops oj=true
 | [],_,_,m,oi,hm,_=>by simp at hm
 | x::r,k,h,m,oi,hm,hlt=>by
   simp only [iA] at h
   split at h
   ·rename_i hb
    have:=(dN _ _).1 hb
    omega
   ·split at h
    ·rename_i he
     cases m with
     | zero=>exact .inl he
     | succ m=>have:=jc h m oi (by simpa using hm) (by omega);rw [show k+(m+1)=k+1+m from by omega];exact this
    ·split at h
     ·rename_i hap
      cases m with
      | zero=>simp at hm;subst hm;exact .inr hap
      | succ m=>have:=jc h m oi (by simpa using hm) (by omega);rw [show k+(m+1)=k+1+m from by omega];exact this
     ·cases h
theorem nr {ops:Array Oper} {all:List Oper}:∀{l:List Oper} {k:Nat},jd ops all k l=true->∀m oj,l[m]?=some oj->iA ops (k+m) oj 0 all=true
 | [],_,_,m,oj,hm=>by simp at hm
 | x::r,k,h,m,oj,hm=>by
   simp only [jd] at h
   split at h
   ·rename_i hx
    cases m with
    | zero=>simp at hm;subst hm;exact hx
    | succ m=>have:=nr h m oj (by simpa using hm);rw [show k+(m+1)=k+1+m from by omega];exact this
   ·cases h
theorem JS {ops:Array Oper} (h:jd ops ops.toList 0 ops.toList=true):J7 ops:=by
 have key:∀i j oi oj,i < j->ops[i]?=some oi->ops[j]?=some oj->(∀e∈oj.after,Region.binds .any e=true->e.on≠i)->oi.apart ops oj=true:=by
  intro i j oi oj hlt hi hj hno
  have h1:=nr h j oj (by simpa using hj)
  rw [Nat.zero_add] at h1
  rcases jc h1 i oi (by simpa using hi) (by omega) with h2 | h2
  ·rw [Nat.zero_add] at h2
   obtain⟨e,h3,h4,h5⟩:=ib h2
   exact absurd h5 (hno e (Array.mem_toList_iff.1 h3) h4)
  ·exact h2
 intro i j oi oj hne hi hj h1 h2
 rcases Nat.lt_or_gt_of_ne hne with hlt | hlt
 ·obtain⟨a1,a2,a3⟩:=Oper.apart_spec (key i j oi oj hlt hi hj h1)
  exact⟨a1,a3,a2⟩
 ·obtain⟨a1,a2,a3⟩:=Oper.apart_spec (key j i oj oi hlt hj hi h2)
  exact⟨a3,a1,fun d hd he=>a2 d he hd⟩
theorem DM {G:Nat} {H H':Hp AV} {E:Ev} {dst:Option Nat} {v:SV} {x:Operand} (h:∀d,dst=some d->x≠.tmp d) (hg:∀g,g < G->(hget H' g).isSome=(hget H g).isSome):evl G H' (dv E dst v) x=evl G H E x:=by
 cases x with
 | tmp t =>
   simp only [evl,j5]
   rw [if_neg]
   intro e
   exact h t e rfl
 | const c=>rfl
 | global g =>
   simp only [evl]
   cases hb:Nat.blt g G with
   | false=>rfl
   | true =>
     have:=hg g ((b4 _ _).1 hb)
     cases h1:hget H' g<;>cases h2:hget H g<;>simp_all
 | func f=>rfl
theorem Aa {ops:Array Oper} {o:Oper} {d:Nat} (h:d ∉ o.looksAt ops):∀x∈o.op.operands,x≠.tmp d:=by
 intro x hx e
 subst e
 refine h ?_
 unfold Oper.looksAt
 refine List.mem_append.2 (.inl (List.mem_filterMap.2 ⟨.tmp d,Array.mem_toList_iff.2 hx,rfl⟩))
theorem qN {ops:Array Oper} {o:Oper} {E:Ev} {dst:Option Nat} {v:SV} (h:∀d,dst=some d->d ∉ o.looksAt ops):wantedS ops.toList o (dv E dst v)=wantedS ops.toList o E:=by
 unfold wantedS
 cases hg:o.guard with
 | none=>rfl
 | some p =>
   obtain⟨j,w⟩:=p
   simp only [nth_eq,Array.getElem?_toList]
   cases hj:ops[j]? with
   | none=>rfl
   | some oj =>
     simp only
     cases hd:oj.dst with
     | none=>rfl
     | some d =>
       simp only
       rw [j5,if_neg]
       intro e
       refine h d e ?_
       unfold Oper.looksAt
       refine List.mem_append.2 (.inr ?_)
       simp [hg,hj,hd]
theorem yf:∀(all:List Oper) (b i:Nat) (o:Oper),all[i]?=some o->lP o.op=true->nmOf all b i < b+countMk all
 | [],_,_,_,h,_=>by simp at h
 | x::r,b,0,o,h,hm=>by
   simp at h
   subst h
   simp only [nmOf,countMk,hm]
   omega
 | x::r,b,i+1,o,h,hm=>by
   simp only [nmOf,countMk]
   cases hx:lP x.op with
   | true=>have:=yf r (b+1) i o (by simpa using h) hm;simp only;omega
   | false=>have:=yf r b i o (by simpa using h) hm;simp only;omega
theorem BB {cal:Callee AV} {base:Nat} {ops:Array Oper} {i j:Nat} {oi oj:Oper} {s s1 s12:St AV} {ei ej:Ent} (hcl:Closed N s) (hGb:N.G<=base) (hroom:base+countMk ops.toList<=s.H.length)
 (hoi:ops[i]?=some oi) (hoj:ops[j]?=some oj) (hap:(∀d,oi.dst=some d->d ∉ oj.looksAt ops) /\ (∀d,oj.dst=some d->d ∉ oi.looksAt ops) /\ (∀d,oi.dst=some d->oj.dst≠some d))
 (h1:(gB N cal base ops.toList i oi s).val=some (s1,ei)) (h2:(gB N cal base ops.toList j oj s1).val=some (s12,ej)) (hc:compatE ei ej=true) :
 ∃s2 s21,(gB N cal base ops.toList j oj s).val=some (s2,ej) /\ (gB N cal base ops.toList i oi s2).val=some (s21,ei) /\ Like s12 s21:=by
 obtain⟨p1,p2,p3⟩:=hap
 rw [iq] at h1 h2
 obtain⟨wi,hwi,h1⟩:=Option.bind_eq_some_iff.1 h1
 obtain⟨wj,hwj,h2⟩:=Option.bind_eq_some_iff.1 h2
 obtain⟨⟨vi,Hi,ei'⟩,he1,hr1⟩:=Option.map_eq_some_iff.1 h1
 cases hr1
 obtain⟨⟨vj,Hij,ej'⟩,he2,hr2⟩:=Option.map_eq_some_iff.1 h2
 cases hr2
 simp only at he2 hwj
 rw [qN p1] at hwj
 have nmi:N.G<=nmOf ops.toList base i:=Nat.le_trans hGb (pd _ _ _)
 have nmj:N.G<=nmOf ops.toList base j:=Nat.le_trans hGb (pd _ _ _)
 have hGH:N.G<=s.H.length:=by omega
 rw [xd (ev':=evl N.G s.H s.E) (fun x hx=>DM (fun d hd=>Aa (p1 d hd) x hx) (DP he1 nmi hGH))] at he2
 have clx:∀x v,evl N.G s.H s.E x=some v->ClV s.H v:=fun x v hx=>oe hcl hx
 have fits:∀k o,ops[k]?=some o->Fits N o.op (nmOf ops.toList base k) (evl N.G s.H s.E) s.H:=fun k o ho =>
  ⟨fun x _ v hv=>clx x v hv,fun hm=>Nat.lt_of_lt_of_le (yf ops.toList base k o (by simpa using ho) hm) hroom⟩
 obtain⟨Hj,k1,k2⟩:=Jm (fits i oi hoi) (fits j oj hoj) he1 he2 hc
 refine⟨{E:=dv s.E oj.dst vj,H:=Hj},{E:=dv (dv s.E oj.dst vj) oi.dst vi,H:=Hij},?_,?_,⟨rfl,fun k=>?_⟩⟩
 ·rw [iq,hwj]
  simp only [Option.bind_some,k1]
  rfl
 ·rw [iq]
  simp only
  rw [qN p2,hwi]
  simp only [Option.bind_some]
  rw [xd (ev':=evl N.G s.H s.E) (fun x hx=>DM (fun d hd=>Aa (p2 d hd) x hx) (DP k1 nmj hGH)),k2]
  rfl
 ·simp only [j5]
  by_cases h1:oj.dst=some k
  ·rw [if_pos h1,if_neg (fun h=>p3 k h h1),if_pos h1]
  ·rw [if_neg h1,if_neg h1]
section sound
variable (hT:TblOk P N) {cal:Callee AV} (hcal:cP P N cal) {base:Nat} {ops:Array Oper}
include hT hcal in
theorem Eb {nt L:Nat} (hL:L<=base) (hGb:N.G<=base) {Φ:St AV->Prop} (hΦ:∀s t,Like s t->Φ s->Φ t) (hap:J7 ops) (hd:∀(k:Nat) (o:Oper),ops[k]?=some o->∀d,o.dst=some d->d < nt) {i:Nat} {oi:Oper} (hoi:ops[i]?=some oi) :
 ∀(f:Nat) (listed:Array Bool) (log:List (Nat×Ent)) (s s1:St AV) (en:Ent),listed.size=ops.size->Qr ops listed->Closed N s->L<=s.H.length->base+countMk ops.toList<=s.H.length->i∈Region.ready .any ops listed ->
   (gB N cal base ops.toList i oi s).val=some (s1,en)->(∀p∈log,isAnc ops.toList 12 i p.1=false->compatE p.2 en=true) ->
   nA N cal base ops Φ f (listed.setIfInBounds i true) ((i,en)::log) s1->nA N cal base ops Φ (f+1) listed log s:=by
 intro f
 induction f with
 | zero =>
   intro listed log s s1 en _ _ _ _ _ hr h1 hlog H
   refine⟨fun h0=>(by rw [h0] at hr;cases hr),fun j hj o ho=>?_⟩
   by_cases hji:j=i
   ·subst hji
    rw [hoi] at ho;cases ho
    exact⟨s1,en,h1,hlog,H⟩
   ·have:=ready_mono hj hji
    rw [H.1] at this
    cases this
 | succ f ih =>
   intro listed log s s1 en hsz hdown hcl hH hroom hr h1 hlog H
   refine⟨fun h0=>(by rw [h0] at hr;cases hr),fun j hj oj hoj=>?_⟩
   by_cases hji:j=i
   ·subst hji
    rw [hoi] at hoj;cases hoj
    exact⟨s1,en,h1,hlog,H⟩
   ·obtain⟨s12,ej,h2,hlog2,H2⟩:=H.2 j (ready_mono hj hji) oj hoj
    obtain⟨ui,oi',hoi',alli⟩:=mem_ready.1 hr
    rw [hoi] at hoi';cases hoi'
    obtain⟨uj,oj',hoj',allj⟩:=mem_ready.1 hj
    rw [hoj] at hoj';cases hoj'
    have hisz:i < ops.size:=(Array.getElem?_eq_some_iff.1 hoi).1
    have hjsz:j < ops.size:=(Array.getElem?_eq_some_iff.1 hoj).1
    have nl:∀k,k < ops.size->listed.getD k true=false->listed.getD k false=false:=by
     intro k hk h
     have hk':k < listed.size:=by omega
     simp [hk'] at h ⊢
     exact h
    have ui':=nl i hisz ui
    have uj':=nl j hjsz uj
    have noij:∀e∈oj.after,Region.binds .any e=true->e.on≠i:=fun e he hb heq=>by
     have:=allj e he hb;rw [heq,ui'] at this;cases this
    have noji:∀e∈oi.after,Region.binds .any e=true->e.on≠j:=fun e he hb heq=>by
     have:=alli e he hb;rw [heq,uj'] at this;cases this
    have notanc:isAnc ops.toList 12 j i=false:=by
     cases ha:isAnc ops.toList 12 j i with
     | false=>rfl
     | true=>have:=uU hdown 12 j i oj hoj allj ha;rw [ui'] at this;cases this
    have hcompat:=hlog2 (i,en) (by simp) notanc
    obtain⟨s2,s21,k1,k2,hlike⟩:=BB hcl hGb hroom hoi hoj (hap i j oi oj (Ne.symm hji) hoi hoj noij noji) h1 h2 hcompat
    refine⟨s2,ej,k1,fun p hp=>hlog2 p (List.mem_cons_of_mem _ hp),?_⟩
    have hcl2:Closed N s2:=(oK (P:=P) (nt:=nt) (L:=L) hT hcal k1 hcl hL hH (hd j oj hoj)).1
    have hlen2:=jO k1
    refine ih (listed.setIfInBounds j true) ((j,ej)::log) s2 s21 en (by simp [hsz]) ?_ hcl2 (Nat.le_trans hH hlen2) (Nat.le_trans hroom hlen2) (ready_mono hr (Ne.symm hji)) k2 ?_ ?_
    ·-- down
     intro k ok hok hk e he hb
     by_cases hkj:k=j
     ·subst hkj
      rw [hoj] at hok;cases hok
      exact getD_set_true (allj e he hb)
     ·rw [getD_set_ne false (Ne.symm hkj)] at hk
      exact getD_set_true (hdown k ok hok hk e he hb)
    ·intro p hp hpa
     rcases List.mem_cons.1 hp with rfl | hp
     ·exact AO hcompat
     ·exact hlog p hp hpa
    ·rw [Array.setIfInBounds_comm _ _ hji]
     refine oF hΦ f _ _ _ s12 s21 hlike ?_ H2
     intro p hp
     rcases List.mem_cons.1 hp with rfl | hp
     ·simp
     ·rcases List.mem_cons.1 hp with rfl | hp
      ·simp
      ·simp [hp]
def mO (n i:Nat):Array Bool:=((List.range n).map fun k=>decide (k < i)).toArray
theorem D6 (n i:Nat):(mO n i).size=n:=by simp [mO]
theorem kZ (n i k:Nat) (d:Bool):(mO n i).getD k d=if k < n then decide (k < i) else d:=by
 unfold mO
 by_cases h:k < n
 ·simp [h]
 ·simp [h]
theorem D5 (n i:Nat):(mO n i).setIfInBounds i true=mO n (i+1):=by
 apply Array.ext
 ·simp [mO]
 ·intro k h1 h2
  have hk:k < n:=by simpa [mO] using h2
  simp only [mO,List.getElem_toArray,List.getElem_map,List.getElem_range]
  by_cases e:i=k
  ·subst e;simp
  ·simp [e];omega
theorem Cz (a b:Ent):(compatC a b).ok=compatE a b:=by
 cases a<;>cases b
 case rd.call n R U=>cases h:sees R n<;>simp [compatC,compatE,h,Tri.ok]
 case call.rd R U n=>cases h:sees R n<;>simp [compatC,compatE,h,Tri.ok]
 case rd.wr n m=>cases h:Nat.beq n m<;>simp [compatC,compatE,h,Tri.ok]
 case wr.rd n m=>cases h:Nat.beq n m<;>simp [compatC,compatE,h,Tri.ok]
 case wr.wr n m=>cases h:Nat.beq n m<;>simp [compatC,compatE,h,Tri.ok]
 case wr.call n R U=>cases h:sees R n<;>simp [compatC,compatE,h,Tri.ok]
 case call.wr R U n=>cases h:sees R n<;>simp [compatC,compatE,h,Tri.ok]
 all_goals rfl
theorem pn {all:List Oper} {j:Nat} {en:Ent}:∀{log:List (Nat×Ent)} {l:List Bool},logC all j en log=some l->(∀b∈l,b=true)->tY all j en log=true
 | [],l,_,_=>rfl
 | (i,x)::r,l,h,hb=>by
   have hc:=Cz x en
   simp only [logC] at h
   simp only [tY]
   split at h
   ·rename_i e
    rw [e] at hc
    rw [<- hc]
    exact pn h hb
   ·rename_i e
    rw [e] at hc
    rw [<- hc]
    split at h
    ·exact pn h hb
    ·cases h
   ·rename_i b e
    rw [e] at hc
    rw [<- hc]
    split at h
    ·cases b<;>exact pn h hb
    ·split at h
     ·rename_i l' hl
      cases h
      have h1:b=true:=hb b (List.mem_cons_self ..)
      subst h1
      exact pn hl fun c hc=>hb c (List.mem_cons_of_mem _ hc)
     ·cases h
theorem tG {α:Type}:∀{l:List Bool} {t:T α} {r:α},(needs l t).val=some r->(∀b∈l,b=true) /\ t.val=some r
 | [],t,r,h=>⟨fun b hb=>(by cases hb),h⟩
 | b::l,t,r,h=>by
   cases b with
   | false=>cases h
   | true =>
     obtain⟨h1,h2⟩:=tG (l:=l) (t:=t) h
     exact⟨fun c hc=>(List.mem_cons.1 hc).elim id (h1 c),h2⟩
theorem nV {all:List Oper} {j:Nat} {en:Ent}:∀{log:List (Nat×Ent)},tY all j en log=true->∀p∈log,isAnc all 12 j p.1=false->compatE p.2 en=true
 | [],_,p,hp,_=>by cases hp
 | (i,x)::r,h,p,hp,ha=>by
   simp only [tY] at h
   split at h
   ·rename_i hc
    rcases List.mem_cons.1 hp with rfl | hp
    ·exact hc
    ·exact nV h p hp ha
   ·split at h
    ·rename_i han
     rcases List.mem_cons.1 hp with rfl | hp
     ·rw [han] at ha;cases ha
     ·exact nV h p hp ha
    ·cases h
theorem oh {i:Nat}:∀{l:List Edge},edgesBelow i l=true->∀e∈l,Region.binds .any e=true->e.on < i
 | [],_,e,he,_=>by cases he
 | x::r,h,e,he,hb=>by
   simp only [edgesBelow] at h
   split at h
   ·rename_i hx
    split at h
    ·rename_i hlt
     rcases List.mem_cons.1 he with rfl | he
     ·exact(b4 _ _).1 hlt
     ·exact oh h e he hb
    ·cases h
   ·rename_i hx
    rcases List.mem_cons.1 he with rfl | he
    ·rw [hb] at hx;cases hx
    ·exact oh h e he hb
def Below (ops:Array Oper):Prop:=∀(j:Nat) (o:Oper),ops[j]?=some o->∀e∈o.after,Region.binds .any e=true->e.on < j
theorem AY {cal:Callee AV}:∀(r:List Oper) (i:Nat) (log:List (Nat×Ent)) (s s':St AV),(fE N cal base ops.toList i r log s).val=some s'->∀(k:Nat) (o:Oper),r[k]?=some o->∀e∈o.after,Region.binds .any e=true->e.on < i+k
 | [],_,_,_,_,_,k,o,hk=>by simp at hk
 | x::r,i,log,s,s',h,k,o,hk=>by
   simp only [fE] at h
   split at h
   ·simp [T.val] at h
   ·rename_i hed
    obtain⟨⟨s1,en⟩,h1,h2⟩:=T.bind_some h
    simp only at h2
    split at h2
    ·cases k with
     | zero =>
       simp at hk
       subst hk
       intro e he hb
       exact oh hed e (Array.mem_toList_iff.2 he) hb
     | succ k =>
       have:=AY r (i+1) _ s1 s' h2 k o (by simpa using hk)
       rw [show i+(k+1)=i+1+k from by omega]
       exact this
    ·simp [T.val] at h2
theorem Fk {i:Nat} (hb:Below ops):Qr ops (mO ops.size i):=by
 intro j o ho hj e he hbe
 have hjs:j < ops.size:=(Array.getElem?_eq_some_iff.1 ho).1
 have:=hb j o ho e he hbe
 rw [kZ,if_pos hjs] at hj
 rw [kZ,if_pos (by omega)]
 simp at hj ⊢
 omega
include hT hcal in
theorem N8 {nt L:Nat} (hL:L<=base) (hGb:N.G<=base) (hap:J7 ops) (hb:Below ops) (hd:∀(k:Nat) (o:Oper),ops[k]?=some o->∀d,o.dst=some d->d < nt) (s':St AV) :
 ∀(r:List Oper) (i:Nat) (log:List (Nat×Ent)) (s:St AV),ops.toList.drop i=r->i+r.length=ops.size->(fE N cal base ops.toList i r log s).val=some s'->Closed N s->L<=s.H.length->base+countMk ops.toList<=s.H.length ->
   nA N cal base ops (fun t=>Like s' t) r.length (mO ops.size i) log s /\ Closed N s' /\ L<=s'.H.length
 | [],i,log,s,hr,hi,h,hcl,hH,_=>by
   simp only [fE,T.val,Option.some.injEq] at h
   subst h
   refine⟨⟨?_,Like.refl s⟩,hcl,hH⟩
   have hi':i=ops.size:=by simpa using hi
   subst hi'
   apply List.eq_nil_iff_forall_not_mem.2
   intro j hj
   obtain⟨h0,o,ho,_⟩:=mem_ready.1 hj
   have hjs:j < ops.size:=(Array.getElem?_eq_some_iff.1 ho).1
   rw [kZ,if_pos hjs] at h0
   simp at h0
   omega
 | x::r,i,log,s,hr,hi,h,hcl,hH,hroom=>by
   have hx:ops[i]?=some x:=by
    have:=congrArg (fun l=>l[0]?) hr
    simpa using this
   have hr':ops.toList.drop (i+1)=r:=by
    have:=congrArg List.tail hr
    simpa [List.tail_drop] using this
   simp only [fE] at h
   split at h
   ·simp [T.val] at h
   ·rename_i hed
    obtain⟨⟨s1,en⟩,h1,h2⟩:=T.bind_some h
    simp only at h2
    split at h2
    ·rename_i hlog
     have hcl1:Closed N s1:=(oK (P:=P) (nt:=nt) (L:=L) hT hcal h1 hcl hL hH (hd i x hx)).1
     have hlen1:=jO h1
     obtain⟨ih,c',l'⟩:=N8 hL hGb hap hb hd s' r (i+1) ((i,en)::log) s1 hr' (by simp at hi;omega) h2 hcl1 (Nat.le_trans hH hlen1) (Nat.le_trans hroom hlen1)
     refine⟨?_,c',l'⟩
     have his:i < ops.size:=(Array.getElem?_eq_some_iff.1 hx).1
     refine Eb (P:=P) (nt:=nt) (L:=L) hT hcal hL hGb (fun s t hst h=>⟨h.H.trans hst.H,fun k=>(h.E k).trans (hst.E k)⟩) hap hd hx r.length (mO ops.size i) log s s1 en (D6 _ _) (Fk hb) hcl hH hroom ?_ h1 (nV hlog) ?_
     ·refine mem_ready.2 ⟨by rw [kZ,if_pos his];simp,x,hx,fun e he hbe=>?_⟩
      have:=hb i x hx e he hbe
      rw [kZ,if_pos (by omega)]
      simp;exact this
     ·rw [D5];exact ih
    ·simp [T.val] at h2
include hT hcal in
theorem Gv {nt L:Nat} (hL:L<=base) (hd:∀(k:Nat) (o:Oper),ops[k]?=some o->∀d,o.dst=some d->d < nt) {Φ:St AV->Prop} {Q:Exit->Act->World->Prop} {ρ₀:Nm} {s₀:St AV} {a₀:Act} {w₀:World}
 (hQ:∀t a w,Φ t->Lands N nt L ρ₀ s₀ w₀ a₀ t a w->Q .normal a w) :
 ∀(f:Nat) (listed:Array Bool) (log:List (Nat×Ent)) (s:St AV),nA N cal base ops Φ f listed log s->Closed N s->L<=s.H.length->∀(ρ:Nm) (a:Act) (w:World),At N nt ρ s a w->Evo N L ρ₀ s₀.H w₀ ρ s.H w->a.defers=a₀.defers->wpAny P .any ops Q f listed a w
 | 0,listed,log,s,h,hcl,hH,ρ,a,w,hat,hev,hdf=>⟨h.1,hQ s a w h.2 ⟨⟨ρ,hat.em,hat.own,hev⟩,hdf⟩⟩
 | f+1,listed,log,s,h,hcl,hH,ρ,a,w,hat,hev,hdf=>by
   refine⟨fun hr=>hQ s a w (h.1 hr) ⟨⟨ρ,hat.em,hat.own,hev⟩,hdf⟩,fun i hi=>?_⟩
   obtain⟨_,o,ho,_⟩:=mem_ready.1 hi
   obtain⟨s1,en,h1,_,h3⟩:=h.2 i hi o ho
   obtain⟨c1,k1⟩:=oK (P:=P) (nt:=nt) (L:=L) hT hcal h1 hcl hL hH (hd i o ho)
   have:=k1 hat (K:=wpAny P .any ops Q f (listed.setIfInBounds i true)) (Q:=Q) (fun a1 w1 hl=>by
    obtain⟨⟨ρ1,e1,o1,v1⟩,d1⟩:=hl
    exact Gv hL hd hQ f _ _ s1 h3 c1 (Nat.le_trans hH (jO h1)) ρ1 a1 w1 ⟨e1,o1⟩ (hev.trans v1) (d1.trans hdf))
   unfold wpOp
   simp only [ho]
   split
   ·rename_i hw;rw [if_pos hw] at this;exact .inl this
   ·rename_i hw;rw [if_neg hw] at this;exact this
end sound
theorem zf (hT:TblOk P N) {cal:Callee AV} (hcal:cP P N cal) {nt L base:Nat} (ops:Array Oper) (hap:jd ops ops.toList 0 ops.toList=true) (hL:L<=base) (hGb:N.G<=base) {s s':St AV} (h:(fE N cal base ops.toList 0 ops.toList [] s).val=some s')
 (hcl:Closed N s) (hH:L<=s.H.length) (hd:∀o∈ops.toList,∀d,o.dst=some d->d < nt) (hroom:s.H.length=base+countMk ops.toList) :
 Closed N s' /\ L<=s'.H.length /\ ∀{id:Nat} {ρ:Nm} {a:Act} {w:World},At N nt ρ s a w->∀{Q:Exit->Act->World->Prop},(∀a' w',Lands N nt L ρ s w a s' a' w'->Q .normal a' w')->(Code.region id ops true).wp P Q a w:=by
 have hb:Below ops:=fun j o ho e he hbe=>by
  have:=AY ops.toList 0 [] s s' h j o (by simpa using ho) e he hbe
  omega
 have hd':∀(k:Nat) (o:Oper),ops[k]?=some o->∀d,o.dst=some d->d < nt:=fun k o ho=>hd o (Array.mem_toList_iff.2 (Array.mem_of_getElem? ho))
 obtain⟨hsym,c',l'⟩:=N8 (P:=P) (nt:=nt) (L:=L) hT hcal hL hGb (JS hap) hb hd' s' ops.toList 0 [] s rfl (by simp) h hcl hH (by omega)
 refine⟨c',l',fun {id ρ a w} hat Q hQ=>wp_region_any hT.mix ?_⟩
 have hrep:Array.replicate ops.size false=mO ops.size 0:=by
  apply Array.ext
  ·simp [mO]
  ·intro k h1 h2;simp [mO]
 rw [hrep]
 have hlen:ops.toList.length=ops.size:=by simp
 rw [hlen] at hsym
 refine Gv (P:=P) (nt:=nt) (L:=L) hT hcal hL hd' (Φ:=fun t=>Like s' t) (Q:=Q) (ρ₀:=ρ) (s₀:=s) (a₀:=a) (w₀:=w) ?_ ops.size (mO ops.size 0) [] s hsym hcl hH ρ a _ ⟨hat.em,hat.own.drew⟩ (Evo.drew' (Evo.refl _ _ _ _)) rfl
 intro t a' w' hlike hl
 refine hQ a' w' ?_
 obtain⟨⟨ρ1,e1,o1,v1⟩,d1⟩:=hl
 refine⟨⟨ρ1,⟨e1.size,fun k hk=>by rw [hlike.E k] at hk ⊢;exact e1.get k hk⟩,by rw [hlike.H];exact o1,by rw [hlike.H];exact v1⟩,d1⟩
end Go.Sx

namespace Go.Sx
variable {AV:Type} {N:Env AV}
theorem um {b:Bool} {x y c:Cell} (h:wG b x y=some c):c.name=none /\ ∀ρ:Nm,c.den ρ=(if b=true then x else y).den ρ:=by
 unfold wG at h
 split at h
 ·rename_i p kp q kq h1 h2
  split at h
  ·rename_i hk
   have hpq:p=q:=by
    unfold qJ at hk
    split at hk
    ·exact eq_of_beq hk
    ·cases hk
   subst hpq
   cases h
   refine⟨rfl,fun ρ=>?_⟩
   cases b
   ·simp [Cell.den,bY ρ h2]
   ·simp [Cell.den,bY ρ h1]
  ·cases h
   refine⟨rfl,fun ρ=>?_⟩
   cases b
   ·simp [Cell.den,bY ρ h2]
   ·simp [Cell.den,bY ρ h1]
 ·split at h
  ·rename_i k p _ k' q _ h1 h2
   split at h
   ·rename_i hk
    have hk:=of_decide_eq_true hk
    subst hk
    cases h
    refine⟨rfl,fun ρ=>?_⟩
    cases b
    ·simp [Cell.den,b6 ρ h2]
    ·simp [Cell.den,b6 ρ h1]
   ·cases h
  ·cases h
theorem uk {b:Bool}:∀{x y c:List Cell},joinL b x y=some c->(∀d∈c,d.name=none) /\ ∀ρ:Nm,ae ρ c=ae ρ (if b=true then x else y)
 | [],[],c,h=>by
   simp only [joinL,Option.some.injEq] at h;subst h
   cases b<;>simp [ae]
 | [],_::_,_,h=>by simp [joinL] at h
 | _::_,[],_,h=>by simp [joinL] at h
 | x::xs,y::ys,c,h=>by
   simp only [joinL] at h
   split at h
   ·rename_i d hd
    split at h
    ·rename_i l hl
     cases h
     obtain⟨a1,a2⟩:=um hd
     obtain⟨b1,b2⟩:=uk hl
     refine⟨fun e he=>?_,fun ρ=>?_⟩
     ·rcases List.mem_cons.1 he with rfl | he
      ·exact a1
      ·exact b1 e he
     ·have e1:=a2 ρ
      have e2:=b2 ρ
      cases b<;>simp [ae] at e1 e2 ⊢<;>exact⟨e1,e2⟩
    ·cases h
   ·cases h
theorem nZ (H:Hp AV) (b:Bool) (x y:SV):ClV H (joinV b x y) /\ (joinV b x y=.unk \/ ((if b=true then x else y)≠.unk /\ joinV b x y≠.unk /\ ∀ρ:Nm,(joinV b x y).den ρ=(if b=true then x else y).den ρ)):=by
 unfold joinV
 split
 ·split
  ·rename_i hc
   obtain⟨a1,a2⟩:=um hc
   refine⟨cw a1,.inr ⟨by cases b<;>simp,by simp,fun ρ=>?_⟩⟩
   have:=a2 ρ
   cases b<;>simpa [SV.den,V1.den] using this
  ·exact⟨trivial,.inl rfl⟩
 ·split
  ·rename_i hc
   obtain⟨a1,a2⟩:=uk hc
   refine⟨dk a1,.inr ⟨by cases b<;>simp,by simp,fun ρ=>?_⟩⟩
   have:=a2 ρ
   cases b<;>simp [SV.den,V1.den] at this ⊢<;>rw [this]
  ·exact⟨trivial,.inl rfl⟩
 ·exact⟨trivial,.inl rfl⟩
theorem ug (b:Bool) (E:Ev):∀{W X Z:Ev},joinZ b W X=some Z->∀k,look (Z++E) k=joinV b (look (W++E) k) (look (X++E) k) \/ (look (Z++E) k=look E k /\ look (W++E) k=look E k /\ look (X++E) k=look E k)
 | [],[],Z,h,k=>by
   simp only [joinZ,Option.some.injEq] at h
   subst h
   exact .inr ⟨rfl,rfl,rfl⟩
 | [],_::_,_,h,_=>by simp [joinZ] at h
 | _::_,[],_,h,_=>by simp [joinZ] at h
 | (j,v)::r,(j',u)::q,Z,h,k=>by
   simp only [joinZ] at h
   split at h
   ·rename_i hj
    have hj:=(af _ _).1 hj
    subst hj
    split at h
    ·rename_i z hz
     cases h
     simp only [List.cons_append,look]
     by_cases e:j=k
     ·subst e
      rw [Nat.beq_refl]
      exact .inl rfl
     ·rw [(aD j k).2 e]
      exact ug b E hz k
    ·cases h
   ·cases h
theorem mN {n m:Option Bool} {z:Option Ev} {W:Ev} (h:uX n z=some (m,W)):n=m /\ z=some W:=by
 cases z with
 | none=>simp [uX] at h
 | some x=>simp only [uX,Option.some.injEq,Prod.mk.injEq] at h;exact⟨h.1,by rw [h.2]⟩
theorem nh:∀(X E:Ev),firstN ((X++E).length - E.length) (X++E)=X
 | [],E=>by simp [firstN]
 | x::X,E=>by
   have:=nh X E
   have e:((x::X)++E).length - E.length=X.length+1:=by simp;omega
   have e':(X++E).length - E.length=X.length:=by simp
   rw [e'] at this
   rw [e]
   simp only [List.cons_append,firstN,this]
def lN:Option Bool->Prop
 | none=>True
 | some b=>b=true
theorem iQ (H:Hp AV) (E:Ev) (hE:∀k,ClV H (look E k)):∀{t:T (St AV×Bool)} {n:Option Bool} {W:Ev},joinT E t=some (n,W)->lN n ->
 ∃s,t.val=some (s,true) /\ ((∀X,s.E=X++E->(∀k,ClV H (look s.E k))->(∀k,ClV H (look (W++E) k)) /\ ∀k,look (W++E) k=.unk \/ (look s.E k≠.unk /\ ∀ρ:Nm,(look (W++E) k).den ρ=(look s.E k).den ρ)))
 | .leaf (s,q),n,W,h,hn=>by
   cases q with
   | false=>simp [joinT] at h
   | true =>
   simp only [joinT,Option.some.injEq,Prod.mk.injEq] at h
   obtain⟨rfl,rfl⟩:=h
   refine⟨s,rfl,fun X hX hc=>?_⟩
   rw [hX,nh]
   rw [hX] at hc
   refine⟨hc,fun k=>?_⟩
   by_cases hk:look (X++E) k=.unk
   ·exact .inl hk
   ·exact .inr ⟨hk,fun _=>rfl⟩
 | .need b t,n,W,h,hn=>by
   simp only [joinT] at h
   split at h
   ·rename_i W' ht
    cases h
    have hb:b=true:=hn
    subst hb
    obtain⟨s,hs,k⟩:=iQ H E hE ht trivial
    exact⟨s,hs,k⟩
   ·rename_i m W' ht
    cases h
    cases b with
    | false=>cases hn
    | true =>
      obtain⟨s,hs,k⟩:=iQ H E hE ht hn
      exact⟨s,hs,k⟩
   ·cases h
 | .ite b t e,n,W,h,hn=>by
   have key:∀(n1 n2:Option Bool) (W1 W2:Ev),joinT E t=some (n1,W1)->joinT E e=some (n2,W2)->(b=true->lN n1)->(b=false->lN n2)->joinZ b W1 W2=some W ->
    ∃s,(T.ite b t e).val=some (s,true) /\ ((∀X,s.E=X++E->(∀k,ClV H (look s.E k))->(∀k,ClV H (look (W++E) k)) /\ ∀k,look (W++E) k=.unk \/ (look s.E k≠.unk /\ ∀ρ:Nm,(look (W++E) k).den ρ=(look s.E k).den ρ))):=by
    intro n1 n2 W1 W2 h1 h2 ht he hW
    have main:∀(Wb:Ev) (s:St AV),(Wb=if b=true then W1 else W2)->(∀X,s.E=X++E->(∀k,ClV H (look s.E k))->(∀k,ClV H (look (Wb++E) k)) /\ ∀k,look (Wb++E) k=.unk \/ (look s.E k≠.unk /\ ∀ρ:Nm,(look (Wb++E) k).den ρ=(look s.E k).den ρ)) ->
     (∀X,s.E=X++E->(∀k,ClV H (look s.E k))->(∀k,ClV H (look (W++E) k)) /\ ∀k,look (W++E) k=.unk \/ (look s.E k≠.unk /\ ∀ρ:Nm,(look (W++E) k).den ρ=(look s.E k).den ρ)):=by
     intro Wb s hWb hs X hX hc
     obtain⟨_,hs2⟩:=hs X hX hc
     have hl:=ug b E hW
     refine⟨fun k=>?_,fun k=>?_⟩
     ·rcases hl k with h | ⟨h,_,_⟩
      ·rw [h];exact(nZ H b _ _).1
      ·rw [h];exact hE k
     ·rcases hl k with h | ⟨h,hw,hx⟩
      ·rw [h]
       rcases (nZ H b (look (W1++E) k) (look (W2++E) k)).2 with hj | ⟨hj1,hj2,hj3⟩
       ·exact .inl hj
       ·have hsel:(if b=true then look (W1++E) k else look (W2++E) k)=look (Wb++E) k:=by rw [hWb];cases b<;>rfl
        rw [hsel] at hj1 hj3
        rcases hs2 k with hu | ⟨hu1,hu2⟩
        ·exact absurd hu hj1
        ·exact .inr ⟨hu1,fun ρ=>(hj3 ρ).trans (hu2 ρ)⟩
      ·rw [h]
       have hb:look (Wb++E) k=look E k:=by
        rw [hWb]
        cases b
        ·exact hx
        ·exact hw
       have:=hs2 k
       rw [hb] at this
       exact this
    cases b with
    | true =>
      obtain⟨s,hs,k⟩:=iQ H E hE h1 (ht rfl)
      exact⟨s,hs,main W1 s rfl k⟩
    | false =>
      obtain⟨s,hs,k⟩:=iQ H E hE h2 (he rfl)
      exact⟨s,hs,main W2 s rfl k⟩
   simp only [joinT] at h
   split at h
   ·rename_i W1 W2 h1 h2
    obtain⟨rfl,hz⟩:=mN h
    exact key none none W1 W2 h1 h2 (fun _=>trivial) (fun _=>trivial) hz
   ·rename_i n1 W1 W2 h1 h2
    obtain⟨rfl,hz⟩:=mN h
    exact key (some n1) none W1 W2 h1 h2 (fun hb=>by subst hb;exact hn) (fun _=>trivial) hz
   ·rename_i W1 n2 W2 h1 h2
    obtain⟨rfl,hz⟩:=mN h
    exact key none (some n2) W1 W2 h1 h2 (fun _=>trivial) (fun hb=>by subst hb;exact hn) hz
   ·rename_i n1 W1 n2 W2 h1 h2
    obtain⟨rfl,hz⟩:=mN h
    exact key (some n1) (some n2) W1 W2 h1 h2 (fun hb=>by subst hb;exact hn) (fun hb=>by subst hb;exact hn) hz
   ·cases h
 | .fail _,_,_,h,_=>by simp [joinT] at h
theorem qi:∀(H B:Hp AV) (i:Nat),H.length=B.length->mergeH [] i H B=H
 | [],[],_,_=>rfl
 | [],_::_,_,h=>by simp at h
 | _::_,[],_,h=>by simp at h
 | none::r,y::q,i,h=>by simp [mergeH,qi r q (i+1) (by simpa using h)]
 | some x::r,y::q,i,h=>by simp [mergeH,zl,bitsOf,qi r q (i+1) (by simpa using h)]
theorem qR {cal:Callee AV} {base:Nat} {all:List Oper} {i:Nat} {o:Oper} {s s':St AV} {en:Ent} (h:(gB N cal base all i o s).val=some (s',en)):(∃X,s'.E=X++s.E) /\ (quietS true en s.H s'.H=true->s'.H=s.H):=by
 rw [iq] at h
 obtain⟨p,hp,h⟩:=Option.bind_eq_some_iff.1 h
 obtain⟨⟨v,H',en⟩,he,hr⟩:=Option.map_eq_some_iff.1 h
 cases hr
 refine⟨?_,fun hq=>?_⟩
 ·cases o.dst with
  | none=>exact⟨[],rfl⟩
  | some d=>exact⟨[(d,v)],rfl⟩
 ·cases hi:n5 en with
  | false =>
    obtain⟨u,hu,hw,_⟩:=kg he hi
    simp only at hu ⊢
    rcases hw with rfl | ⟨n,c,rfl,hen,_⟩
    ·exact hu
    ·rw [hen] at hq;cases hq
  | true =>
    cases en with
    | pure=>cases hi
    | rd _=>cases hi
    | wr _=>cases hi
    | call R =>
      cases R with
      | cons _ _=>cases hq
      | nil =>
        obtain⟨_,B,_,hl,hH,_⟩:=pC he
        simp only [quietS] at hq
        have hlen:=(af _ _).1 hq
        simp only at hlen ⊢
        subst hH
        rw [iw _ _ _ _ hl] at hlen
        exact qi s.H B 0 hlen
structure Ref (m s:St AV):Prop where
 H:m.H=s.H
 E:∀k,look m.E k=.unk \/ (look s.E k≠.unk /\ ∀ρ:Nm,(look m.E k).den ρ=(look s.E k).den ρ)
theorem Ref.em {m s:St AV} (h:Ref m s) {ρ:Nm} {nt:Nat} {a:Act} (he:EM ρ nt s.E a):EM ρ nt m.E a :=
 ⟨he.size,fun k hk=>by
   rcases h.E k with hu | ⟨h1,h2⟩
   ·exact absurd hu hk
   ·rw [h2 ρ];exact he.get k h1⟩
theorem uh {s m:St AV} {t:T (St AV×Bool)} (hcl:Closed N s) (h:(joinR s t).val=some m)
 (hq:∀s' q,t.val=some (s',q)->Closed N s' /\ (∃X,s'.E=X++s.E) /\ (q=true->s'.H=s.H)):∃s' q,t.val=some (s',q) /\ Ref m s' /\ Closed N m:=by
 have triv:(t.map fun r=>r.1).val=some m->∃s' q,t.val=some (s',q) /\ Ref m s' /\ Closed N m:=fun h=>by
  rw [T.val_map] at h
  obtain⟨⟨s',q⟩,h1,rfl⟩:=Option.map_eq_some_iff.1 h
  exact⟨s',q,h1,⟨rfl,fun k=>by
   by_cases hk:look s'.E k=.unk
   ·exact .inl hk
   ·exact .inr ⟨hk,fun _=>rfl⟩⟩,(hq s' q h1).1⟩
 have main:∀(n:Option Bool) (W:Ev),joinT s.E t=some (n,W)->lN n->∃s' q,t.val=some (s',q) /\ Ref ({s with E:=W++s.E}:St AV) s' /\ Closed N ({s with E:=W++s.E}:St AV):=by
  intro n W hj hn
  obtain⟨s',hs',k⟩:=iQ s.H s.E hcl.E hj hn
  obtain⟨hcs,⟨X,hX⟩,hH⟩:=hq s' true hs'
  have hH:=hH rfl
  obtain⟨k1,k2⟩:=k X hX (fun k=>by have:=hcs.E k;rw [hH] at this;exact this)
  exact⟨s',true,hs',⟨hH.symm,k2⟩,⟨k1,hcl.H⟩⟩
 unfold joinR at h
 split at h
 ·exact triv h
 ·split at h
  ·rename_i W hj
   simp only [T.val,Option.some.injEq] at h
   subst h
   exact main none W hj trivial
  ·rename_i n W hj
   obtain⟨hb,h⟩:=cm h
   simp only [T.val,Option.some.injEq] at h
   subst h
   exact main (some n) W hj hb
  ·exact triv h
end Go.Sx

namespace Go.Sx
variable {AV:Type} {N:Env AV}
def Cons (A:Asm) (E:Ev):Prop:=∀d x,lookA A d=some x->∃c k,look E d=.v (.c c) /\ di c=some (x,k)
theorem oo:∀(A:Asm) (n d:Nat),lookA (dropA A n) d=if n=d then none else lookA A d
 | [],n,d=>by simp [dropA,lookA]
 | (k,b)::r,n,d=>by
   simp only [dropA]
   by_cases h:k=n
   ·subst h
    rw [Nat.beq_refl]
    simp only [lookA]
    rw [oo r k d]
    by_cases e:k=d
    ·simp [e]
    ·rw [if_neg e,if_neg e,(aD k d).2 e]
   ·rw [(aD k n).2 h]
    simp only [lookA]
    by_cases e:k=d
    ·subst e
     rw [Nat.beq_refl]
     simp only
     rw [if_neg (Ne.symm h)]
    ·rw [(aD k d).2 e]
     simp only
     exact oo r n d
theorem Cons.put {A:Asm} {E:Ev} (h:Cons A E) (dst:Option Nat) (v:SV):Cons (dropD A dst) (dv E dst v):=by
 intro d x hd
 cases dst with
 | none=>exact h d x hd
 | some n =>
   simp only [dropD,oo] at hd
   split at hd
   ·cases hd
   ·rename_i hne
    rw [pj,if_neg hne]
    exact h d x hd
theorem Cons.cons {A:Asm} {E:Ev} (h:Cons A E) {d:Nat} {x:Bool} (hd:∃c k,look E d=.v (.c c) /\ di c=some (x,k)):Cons ((d,x)::A) E:=by
 intro n y hn
 simp only [lookA] at hn
 split at hn
 ·rename_i he
  cases hn
  rw [<- (af _ _).1 he]
  exact hd
 ·exact h n y hn
theorem Fg {cal:Callee AV} {base:Nat} {all:List Oper} {i:Nat} {o:Oper} {A B:Asm} {s:St AV} (hA:Cons A s.E) :
 (execA N cal base all i o A B s).val=((stepOp N cal (nmOf all base i) o s).val.map fun s'=>(s',entOf N (nmOf all base i) (evl N.G s.H s.E) s.H s'.H o.op,dropD B o.dst)):=by
 unfold execA
 split
 ·rename_i t ht
  unfold pickK at ht
  split at ht
  ·rename_i c a b hop
   split at ht
   ·cases ht
   ·rename_i x hx
    simp only [Option.some.injEq] at ht
    subst ht
    obtain⟨cc,k,hl,hb⟩:=hA c x hx
    have hent:∀H':Hp AV,entOf N (nmOf all base i) (evl N.G s.H s.E) s.H H' o.op=.pure:=fun _=>by rw [hop];rfl
    simp only [hent]
    unfold stepOp
    rw [hop]
    simp only [callee?,heavyE,heavy,light,pureOp,T.val_bind,T.val_map]
    have hev:evl N.G s.H s.E (.tmp c)=some (.v (.c cc)):=by simp [evl,hl]
    rw [hev]
    cases evl N.G s.H s.E a with
    | none=>rfl
    | some p =>
      cases evl N.G s.H s.E b with
      | none=>rfl
      | some q =>
        simp only [hb]
        cases x<;>cases k<;>simp [T.val,updH]
  ·cases ht
 ·rw [T.val_map]
theorem Au {all:List Oper} {o:Oper} {E:Ev} {b:Bool} (h:wantedS all o E=some (b,false)):∃d want c x,gTmp all o=some (d,want) /\ look E d=.v (.c c) /\ di c=some (x,false) /\ b=(x==want):=by
 unfold wantedS at h
 unfold gTmp
 cases hg:o.guard with
 | none=>simp [hg] at h
 | some p =>
   obtain⟨j,want⟩:=p
   simp only [hg] at h ⊢
   cases hj:nth all j with
   | none=>simp [hj] at h
   | some oj =>
     simp only [hj] at h ⊢
     cases hd:oj.dst with
     | none=>simp [hd] at h
     | some d =>
       simp only [hd] at h ⊢
       split at h
       ·cases h
       ·rename_i c hl
        split at h
        ·rename_i x k hb
         simp only [Option.some.injEq,Prod.mk.injEq] at h
         obtain⟨h1,rfl⟩:=h
         exact⟨d,want,c,x,rfl,hl,hb,h1.symm⟩
        ·simp at h
       ·simp at h
theorem sL {cal:Callee AV} {base:Nat} {all:List Oper} {i:Nat} {o:Oper} {A:Asm} {s:St AV} (hA:Cons A s.E) :
 (∀s' en B,(step1A N cal base all i o A s).val=some (s',en,B)->(gB N cal base all i o s).val=some (s',en) /\ Cons B s'.E):=by
 intro s' en B h
 rw [mg]
 unfold pW
 unfold step1A at h
 have fin:∀C,Cons C s.E->(execA N cal base all i o A C s).val=some (s',en,B)->((stepOp N cal (nmOf all base i) o s).val.map fun s'=>(s',entOf N (nmOf all base i) (evl N.G s.H s.E) s.H s'.H o.op))=some (s',en) /\ Cons B s'.E:=by
  intro C hC he
  rw [Fg hA] at he
  obtain⟨s1,hs,he⟩:=Option.map_eq_some_iff.1 he
  cases he
  refine⟨by rw [hs];rfl,?_⟩
  have:∃v,s'.E=dv s.E o.dst v:=by
   unfold stepOp at hs
   split at hs
   ·obtain⟨r,_,hs⟩:=T.bind_some hs
    simp only [T.val,Option.some.injEq] at hs
    exact⟨r.1,by rw [<- hs]⟩
   ·simp [T.val] at hs
   ·obtain⟨r,_,hs⟩:=T.bind_some hs
    simp only [T.val,Option.some.injEq] at hs
    exact⟨r.1,by rw [<- hs]⟩
  obtain⟨v,hv⟩:=this
  rw [hv]
  exact hC.put _ _
 split at h
 ·simp [T.val] at h
 ·rename_i b hw
  simp only [hw]
  cases b with
  | true=>exact fin A hA h
  | false =>
    simp only [T.val,Option.some.injEq,Prod.mk.injEq] at h
    obtain⟨rfl,rfl,rfl⟩:=h
    exact⟨rfl,hA.put _ _⟩
 ·rename_i b hw
  simp only [hw]
  obtain⟨d,want,c,x,hg,hl,hb,rfl⟩:=Au hw
  simp only [hg] at h
  split at h
  ·rename_i y hy
   obtain⟨c',k',hl',hb'⟩:=hA d y hy
   rw [hl] at hl'
   cases hl'
   rw [hb] at hb'
   cases hb'
   cases hxw:(x==want) with
   | true=>simp only [hxw] at h ⊢;exact fin A hA h
   | false =>
     simp only [hxw,T.val,Option.some.injEq,Prod.mk.injEq] at h ⊢
     obtain⟨rfl,rfl,rfl⟩:=h
     exact⟨rfl,hA.put _ _⟩
  ·have hx:∀y,x=y->Cons ((d,y)::A) s.E:=fun y e=>hA.cons ⟨c,false,hl,by rw [hb,e]⟩
   cases hxw:(x==want) with
   | true =>
     have e:x=want:=by simpa using hxw
     simp only [hxw,T.val] at h ⊢
     exact fin _ (hx want e) h
   | false =>
     have e:x=!want:=by cases x<;>cases want<;>simp_all
     simp only [hxw,T.val,Option.some.injEq,Prod.mk.injEq] at h ⊢
     obtain⟨rfl,rfl,rfl⟩:=h
     exact⟨rfl,(hx _ e).put _ _⟩
theorem oI {cal:Callee AV} {base:Nat} {all:List Oper} (s₀:St AV):∀(r:List Oper) (i:Nat) (A:Asm) (q:Bool) (s s':St AV) (q':Bool),Cons A s.E->(∃X,s.E=X++s₀.E)->(q=true->s.H=s₀.H)->(stepOpsA N cal base all i r A q s).val=some (s',q') ->
 (hI N cal base all i r s).val=some s' /\ (∃X,s'.E=X++s₀.E) /\ (q'=true->s'.H=s₀.H)
 | [],_,_,q,s,s',q',_,hX,hq,h=>by
   simp only [stepOpsA,T.val,Option.some.injEq,Prod.mk.injEq] at h
   obtain⟨rfl,rfl⟩:=h
   exact⟨rfl,hX,hq⟩
 | o::r,i,A,q,s,s',q',hA,⟨X,hX⟩,hq,h=>by
   simp only [stepOpsA] at h
   obtain⟨⟨s1,en,B⟩,h1,h2⟩:=T.bind_some h
   obtain⟨k1,k2⟩:=sL hA s1 en B h1
   obtain⟨⟨Y,hY⟩,hH⟩:=qR k1
   simp only [hI]
   rw [T.val_bind,k1]
   refine oI s₀ r (i+1) B _ s1 s' q' k2 ⟨Y++X,by rw [hY,hX,List.append_assoc]⟩ (fun hqs=>?_) h2
   cases q with
   | false=>simp [quietS] at hqs
   | true=>rw [hH hqs,hq rfl]
theorem mZ {cal:Callee AV} {base:Nat} {all:List Oper} (s₀:St AV):∀(r:List Oper) (i:Nat) (log:List (Nat×Ent)) (A:Asm) (q:Bool) (s s':St AV) (q':Bool),Cons A s.E->(∃X,s.E=X++s₀.E)->(q=true->s.H=s₀.H)->(stepOpsDA N cal base all i r log A q s).val=some (s',q') ->
 (fE N cal base all i r log s).val=some s' /\ (∃X,s'.E=X++s₀.E) /\ (q'=true->s'.H=s₀.H)
 | [],_,_,_,q,s,s',q',_,hX,hq,h=>by
   simp only [stepOpsDA,T.val,Option.some.injEq,Prod.mk.injEq] at h
   obtain⟨rfl,rfl⟩:=h
   exact⟨rfl,hX,hq⟩
 | o::r,i,log,A,q,s,s',q',hA,⟨X,hX⟩,hq,h=>by
   simp only [stepOpsDA] at h
   simp only [fE]
   split at h
   ·simp [T.val] at h
   ·obtain⟨⟨s1,en,B⟩,h1,h2⟩:=T.bind_some h
    obtain⟨k1,k2⟩:=sL hA s1 en B h1
    obtain⟨⟨Y,hY⟩,hH⟩:=qR k1
    simp only at h2
    split at h2
    ·rename_i lc hlc
     obtain⟨hall,h2⟩:=tG h2
     have hlog:=pn hlc hall
     rw [T.val_bind,k1]
     simp only [Option.bind_some,hlog]
     refine mZ s₀ r (i+1) _ B _ s1 s' q' k2 ⟨Y++X,by rw [hY,hX,List.append_assoc]⟩ (fun hqs=>?_) h2
     cases q with
     | false=>simp [quietS] at hqs
     | true=>rw [hH hqs,hq rfl]
    ·simp [T.val] at h2
theorem AN (E:Ev):Cons [] E:=fun d x h=>by simp [lookA] at h
end Go.Sx
