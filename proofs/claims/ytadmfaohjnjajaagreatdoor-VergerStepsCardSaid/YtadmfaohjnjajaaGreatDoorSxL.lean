import Derived.Test.YtadmfaohjnjajaaGreatDoorSxL1
set_option linter.unusedVariables false
set_option linter.unusedSimpArgs false
set_option maxHeartbeats 0
set_option maxRecDepth 100000
namespace Go.Sx
section
variable {AV:Type} {P:Program} {N:dV AV}
theorem Bo {cP:Callee AV} {base:Nat} {all:List Oper}:∀(r:List Oper) (i:Nat) (s s':St AV),(oW N cP base all i r s).val=some s'->s.H.length<=s'.H.length
 | [],i,s,s',h=>by
   simp only [oW,T.val,aaC] at h
   subst h;exact abV _
 | o::r,i,s,s',h=>by
   simp only [oW] at h
   obtain⟨⟨s₁,en⟩,h1,h2⟩:=T.bf h
   exact abL (rl h1) (Bo r (i+1) s₁ s' h2)
structure vk (s t:St AV):Prop where
 H:s.H=t.H
 E:∀k,aF s.E k=aF t.E k
theorem vk.refl (s:St AV):vk s s:=⟨rfl,fun _=>rfl⟩
theorem vk.qP {s t:St AV} (h:vk s t) (G:Nat):qP G s.H s.E=qP G t.H t.E:=by
 funext x
 rw [h.H]
 cases x<;>simp only [Sx.qP]
 rw [h.E]
theorem vk.wanted {s t:St AV} (h:vk s t) (all:List Oper) (o:Oper):iu all o s.E=iu all o t.E:=by
 unfold iu
 cases o.guard with
 | none=>rfl
 | some p =>
   obtain⟨j,w⟩:=p
   simp only
   cases yc all j with
   | none=>rfl
   | some oj =>
     simp only
     cases oj.dst with
     | none=>rfl
     | some d=>simp only;rw [h.E]
theorem rL (E:Ev) (dst:Option Nat) (v:SV) (k:Nat):aF (jY E dst v) k=if dst=some k then v else aF E k:=by
 cases dst with
 | none=>simp [jY]
 | some d=>rw [yZ];simp
theorem vk.put {E E':Ev} (h:∀k,aF E k=aF E' k) (dst:Option Nat) (v:SV):∀k,aF (jY E dst v) k=aF (jY E' dst v) k:=by
 intro k;rw [rL,rL,h]
section
variable (N) (cP:Callee AV) (base:Nat) (bZ:Array Oper)
def xp (Φ:St AV->Prop):Nat->Array Bool->List (Nat×qC)->St AV->Prop
 | 0,listed,_,s=>Region.ready .any bZ listed=[] /\ Φ s
 | f+1,listed,log,s=>(Region.ready .any bZ listed=[]->Φ s) /\
     ∀i∈Region.ready .any bZ listed,∀o,bZ[i]?=some o->∃s' en,(mT N cP base bZ.toList i o s).val=some (s',en) /\
       (∀p∈log,qv bZ.toList 12 i p.1=false->ek p.2 en=true) /\ xp Φ f (listed.setIfInBounds i true) ((i,en)::log) s'
end
theorem NA {cP:Callee AV} {base:Nat} {all:List Oper} {i:Nat} {o:Oper} {s t s':St AV} {en:qC} (hl:vk s t) (h:(mT N cP base all i o s).val=some (s',en)) :
 ∃t',(mT N cP base all i o t).val=some (t',en) /\ vk s' t':=by
 rw [pj] at h
 obtain⟨p,hp,h⟩:=abi.1 h
 obtain⟨⟨v,H',e⟩,he,hr⟩:=abu.1 h
 cases hr
 refine⟨{E:=jY t.E o.dst v,H:=H'},?_,⟨rfl,vk.put hl.E _ _⟩⟩
 rw [pj,<- hl.wanted,hp,<- hl.qP,<- hl.H]
 simp only [Option.bind_some,he]
 rfl
theorem yq {cP:Callee AV} {base:Nat} {bZ:Array Oper} {Φ:St AV->Prop} (hΦ:∀s t,vk s t->Φ s->Φ t):∀(f:Nat) (listed:Array Bool) (log agq:List (Nat×qC)) (s t:St AV),vk s t->(∀p∈agq,p∈log) ->
 xp N cP base bZ Φ f listed log s->xp N cP base bZ Φ f listed agq t
 | 0,_,_,_,s,t,hl,_,h=>⟨h.1,hΦ s t hl h.2⟩
 | f+1,listed,log,agq,s,t,hl,zb,h=>by
   refine⟨fun hr=>hΦ s t hl (h.1 hr),fun i hi o ho=>?_⟩
   obtain⟨s',en,h1,h2,h3⟩:=h.2 i hi o ho
   obtain⟨t',h1',AM⟩:=NA hl h1
   refine⟨t',en,h1',fun p hp=>h2 p (zb p hp),yq hΦ f _ _ _ s' t' AM ?_ h3⟩
   intro p hp
   rcases abk.1 hp with rfl | hp
   ·simp
   ·exact aby _ (zb p hp)
def aif (bZ:Array Oper) (listed:Array Bool):Prop:=∀j o,bZ[j]?=some o->listed.getD j false=true->∀e∈o.after,Region.binds .any e=true->listed.getD e.on false=true
theorem o6:∀{l:List Edge} {i:Nat},qx l i=true->∃e∈l,Region.binds .any e=true /\ e.on=i
 | [],_,h=>by simp [qx] at h
 | e::r,i,h=>by
   simp only [qx] at h
   split at h
   ·rename_i hb
    split at h
    ·rename_i he;exact⟨e,by simp,hb,(aC _ _).1 he⟩
    ·obtain⟨e',h1,h2⟩:=o6 h;exact⟨e',by simp [h1],h2⟩
   ·obtain⟨e',h1,h2⟩:=o6 h;exact⟨e',by simp [h1],h2⟩
theorem Bh {rec:Nat->Bool}:∀{l:List Edge},Tk rec l=true->∃e∈l,Region.binds .any e=true /\ rec e.on=true
 | [],h=>by simp [Tk] at h
 | e::r,h=>by
   simp only [Tk] at h
   split at h
   ·rename_i hb
    split at h
    ·rename_i he;exact⟨e,by simp,hb,he⟩
    ·obtain⟨e',h1,h2⟩:=Bh h;exact⟨e',by simp [h1],h2⟩
   ·obtain⟨e',h1,h2⟩:=Bh h;exact⟨e',by simp [h1],h2⟩
theorem Fm {bZ:Array Oper} {listed:Array Bool} (hd:aif bZ listed):∀(f j i:Nat) (o:Oper),bZ[j]?=some o->(∀e∈o.after,Region.binds .any e=true->listed.getD e.on false=true)->qv bZ.toList f j i=true->listed.getD i false=true
 | 0,_,_,_,_,_,h=>by simp [qv] at h
 | f+1,j,i,o,ho,Cb,h=>by
   simp only [qv,nth_eq,Array.getElem?_toList,ho] at h
   split at h
   ·rename_i he
    obtain⟨e,h1,h2,rfl⟩:=o6 he
    exact Cb e (afP.1 h1) h2
   ·obtain⟨e,h1,h2,h3⟩:=Bh h
    have hl:=Cb e (afP.1 h1) h2
    cases hoe:bZ[e.on]? with
    | none =>
      cases f with
      | zero=>simp [qv] at h3
      | succ f=>simp [qv,nth_eq,hoe] at h3
    | some o'=>exact Fm hd f e.on i o' hoe (fun e' he' M1=>hd e.on o' hoe hl e' he' M1) h3
def Za (bZ:Array Oper):Prop:=∀i j oi oj,i≠j->bZ[i]?=some oi->bZ[j]?=some oj->(∀e∈oj.after,Region.binds .any e=true->e.on≠i)->(∀e∈oi.after,Region.binds .any e=true->e.on≠j) ->
 (∀d,oi.dst=some d->d ∉ oj.looksAt bZ) /\ (∀d,oj.dst=some d->d ∉ oi.looksAt bZ) /\ (∀d,oi.dst=some d->oj.dst≠some d)
theorem p8 {bZ:Array Oper} {j:Nat} {oj:Oper}:∀{l:List Oper} {k:Nat},pw bZ j oj k l=true->∀m oi,l[m]?=some oi->k+m < j->qx oj.after.toList (k+m)=true \/ oi.apart bZ oj=true
 | [],_,_,m,oi,hm,_=>by simp at hm
 | x::r,k,h,m,oi,hm,du=>by
   simp only [pw] at h
   split at h
   ·rename_i hb
    have:=(jo _ _).1 hb
    omega
   ·split at h
    ·rename_i he
     cases m with
     | zero=>exact .inl he
     | succ m=>have:=p8 h m oi (by simpa using hm) (by omega);rw [show k+(m+1)=k+1+m from by omega];exact this
    ·split at h
     ·rename_i hap
      cases m with
      | zero=>simp at hm;subst hm;exact .inr hap
      | succ m=>have:=p8 h m oi (by simpa using hm) (by omega);rw [show k+(m+1)=k+1+m from by omega];exact this
     ·cases h
theorem xh {bZ:Array Oper} {all:List Oper}:∀{l:List Oper} {k:Nat},rV bZ all k l=true->∀m oj,l[m]?=some oj->pw bZ (k+m) oj 0 all=true
 | [],_,_,m,oj,hm=>by simp at hm
 | x::r,k,h,m,oj,hm=>by
   simp only [rV] at h
   split at h
   ·rename_i hx
    cases m with
    | zero=>simp at hm;subst hm;exact hx
    | succ m=>have:=xh h m oj (by simpa using hm);rw [show k+(m+1)=k+1+m from by omega];exact this
   ·cases h
theorem YT {bZ:Array Oper} (h:rV bZ bZ.toList 0 bZ.toList=true):Za bZ:=by
 have key:∀i j oi oj,i < j->bZ[i]?=some oi->bZ[j]?=some oj->(∀e∈oj.after,Region.binds .any e=true->e.on≠i)->oi.apart bZ oj=true:=by
  intro i j oi oj du hi hj tC
  have h1:=xh h j oj (by simpa using hj)
  rw [abJ] at h1
  rcases p8 h1 i oi (by simpa using hi) (by omega) with h2 | h2
  ·rw [abJ] at h2
   obtain⟨e,h3,h4,h5⟩:=o6 h2
   exact absurd h5 (tC e (afP.1 h3) h4)
  ·exact h2
 intro i j oi oj dA hi hj h1 h2
 rcases Nat.lt_or_gt_of_ne dA with du | du
 ·obtain⟨a1,a2,a3⟩:=Oper.apart_spec (key i j oi oj du hi hj h1)
  exact⟨a1,a3,a2⟩
 ·obtain⟨a1,a2,a3⟩:=Oper.apart_spec (key j i oj oi du hj hi h2)
  exact⟨a3,a1,fun d hd he=>a2 d he hd⟩
theorem Qz {G:Nat} {H H':Hp AV} {E:Ev} {dst:Option Nat} {v:SV} {x:Operand} (h:∀d,dst=some d->x≠.tmp d) (hg:∀g,g < G->(ae H' g).isSome=(ae H g).isSome):qP G H' (jY E dst v) x=qP G H E x:=by
 cases x with
 | tmp t =>
   simp only [qP,rL]
   rw [if_neg]
   intro e
   exact h t e rfl
 | const c=>rfl
 | global g =>
   simp only [qP]
   cases hb:Nat.blt g G with
   | false=>rfl
   | true =>
     have:=hg g ((fw _ _).1 hb)
     cases h1:ae H' g<;>cases h2:ae H g<;>simp_all
 | func f=>rfl
theorem Lr {bZ:Array Oper} {o:Oper} {d:Nat} (h:d ∉ o.looksAt bZ):∀x∈o.op.operands,x≠.tmp d:=by
 intro x hx e
 subst e
 refine h ?_
 unfold Oper.looksAt
 refine aec.2 (.inl (List.mem_filterMap.2 ⟨.tmp d,afP.2 hx,rfl⟩))
theorem Bl {bZ:Array Oper} {o:Oper} {E:Ev} {dst:Option Nat} {v:SV} (h:∀d,dst=some d->d ∉ o.looksAt bZ):iu bZ.toList o (jY E dst v)=iu bZ.toList o E:=by
 unfold iu
 cases hg:o.guard with
 | none=>rfl
 | some p =>
   obtain⟨j,w⟩:=p
   simp only [nth_eq,Array.getElem?_toList]
   cases hj:bZ[j]? with
   | none=>rfl
   | some oj =>
     simp only
     cases hd:oj.dst with
     | none=>rfl
     | some d =>
       simp only
       rw [rL,if_neg]
       intro e
       refine h d e ?_
       unfold Oper.looksAt
       refine aec.2 (.inr ?_)
       simp [hg,hj,hd]
theorem Je:∀(all:List Oper) (b i:Nat) (o:Oper),all[i]?=some o->D2 o.op=true->oG all b i < b+fv all
 | [],_,_,_,h,_=>by simp at h
 | x::r,b,0,o,h,hm=>by
   simp at h
   subst h
   simp only [oG,fv,hm]
   omega
 | x::r,b,i+1,o,h,hm=>by
   simp only [oG,fv]
   cases hx:D2 x.op with
   | true=>have:=Je r (b+1) i o (by simpa using h) hm;simp only;omega
   | false=>have:=Je r b i o (by simpa using h) hm;simp only;omega
theorem NB {cP:Callee AV} {base:Nat} {bZ:Array Oper} {i j:Nat} {oi oj:Oper} {s s1 s12:St AV} {ei ej:qC} (hcl:bH N s) (hGb:N.G<=base) (pR:base+fv bZ.toList<=s.H.length)
 (hoi:bZ[i]?=some oi) (Tx:bZ[j]?=some oj) (hap:(∀d,oi.dst=some d->d ∉ oj.looksAt bZ) /\ (∀d,oj.dst=some d->d ∉ oi.looksAt bZ) /\ (∀d,oi.dst=some d->oj.dst≠some d))
 (h1:(mT N cP base bZ.toList i oi s).val=some (s1,ei)) (h2:(mT N cP base bZ.toList j oj s1).val=some (s12,ej)) (hc:ek ei ej=true) :
 ∃s2 s21,(mT N cP base bZ.toList j oj s).val=some (s2,ej) /\ (mT N cP base bZ.toList i oi s2).val=some (s21,ei) /\ vk s12 s21:=by
 obtain⟨p1,p2,p3⟩:=hap
 rw [pj] at h1 h2
 obtain⟨wi,hwi,h1⟩:=abi.1 h1
 obtain⟨wj,hwj,h2⟩:=abi.1 h2
 obtain⟨⟨vi,Hi,ei'⟩,he1,hr1⟩:=abu.1 h1
 cases hr1
 obtain⟨⟨vj,Hij,ej'⟩,Zk,qV⟩:=abu.1 h2
 cases qV
 simp only at Zk hwj
 rw [Bl p1] at hwj
 have nmi:N.G<=oG bZ.toList base i:=abL hGb (yS _ _ _)
 have nmj:N.G<=oG bZ.toList base j:=abL hGb (yS _ _ _)
 have hGH:N.G<=s.H.length:=by omega
 rw [HT (sI:=qP N.G s.H s.E) (fun x hx=>Qz (fun d hd=>Lr (p1 d hd) x hx) (QE he1 nmi hGH))] at Zk
 have clx:∀x v,qP N.G s.H s.E x=some v->fh s.H v:=fun x v hx=>xQ hcl hx
 have fits:∀k o,bZ[k]?=some o->acO N o.op (oG bZ.toList base k) (qP N.G s.H s.E) s.H:=fun k o ho =>
  ⟨fun x _ v hv=>clx x v hv,fun hm=>Nat.lt_of_lt_of_le (Je bZ.toList base k o (by simpa using ho) hm) pR⟩
 obtain⟨Hj,k1,k2⟩:=X8 (fits i oi hoi) (fits j oj Tx) he1 Zk hc
 refine⟨{E:=jY s.E oj.dst vj,H:=Hj},{E:=jY (jY s.E oj.dst vj) oi.dst vi,H:=Hij},?_,?_,⟨rfl,fun k=>?_⟩⟩
 ·rw [pj,hwj]
  simp only [Option.bind_some,k1]
  rfl
 ·rw [pj]
  simp only
  rw [Bl p2,hwi]
  simp only [Option.bind_some]
  rw [HT (sI:=qP N.G s.H s.E) (fun x hx=>Qz (fun d hd=>Lr (p2 d hd) x hx) (QE k1 nmj hGH)),k2]
  rfl
 ·simp only [rL]
  by_cases h1:oj.dst=some k
  ·rw [if_pos h1,if_neg (fun h=>p3 k h h1),if_pos h1]
  ·rw [if_neg h1,if_neg h1]
section sound
variable (hT:fD P N) {cP:Callee AV} (cH:gF P N cP) {base:Nat} {bZ:Array Oper}
include hT cH in
theorem Rn {nt L:Nat} (hL:L<=base) (hGb:N.G<=base) {Φ:St AV->Prop} (hΦ:∀s t,vk s t->Φ s->Φ t) (hap:Za bZ) (hd:∀(k:Nat) (o:Oper),bZ[k]?=some o->∀d,o.dst=some d->d < nt) {i:Nat} {oi:Oper} (hoi:bZ[i]?=some oi) :
 ∀(f:Nat) (listed:Array Bool) (log:List (Nat×qC)) (s s1:St AV) (en:qC),listed.size=bZ.size->aif bZ listed->bH N s->L<=s.H.length->base+fv bZ.toList<=s.H.length->i∈Region.ready .any bZ listed ->
   (mT N cP base bZ.toList i oi s).val=some (s1,en)->(∀p∈log,qv bZ.toList 12 i p.1=false->ek p.2 en=true) ->
   xp N cP base bZ Φ f (listed.setIfInBounds i true) ((i,en)::log) s1->xp N cP base bZ Φ (f+1) listed log s:=by
 intro f
 induction f with
 | zero =>
   intro listed log s s1 en _ _ _ _ _ hr h1 LR H
   refine⟨fun h0=>(by rw [h0] at hr;cases hr),fun j hj o ho=>?_⟩
   by_cases hji:j=i
   ·subst hji
    rw [hoi] at ho;cases ho
    exact⟨s1,en,h1,LR,H⟩
   ·have:=ready_mono hj hji
    rw [H.1] at this
    cases this
 | succ f ih =>
   intro listed log s s1 en sD aer hcl hH pR hr h1 LR H
   refine⟨fun h0=>(by rw [h0] at hr;cases hr),fun j hj oj Tx=>?_⟩
   by_cases hji:j=i
   ·subst hji
    rw [hoi] at Tx;cases Tx
    exact⟨s1,en,h1,LR,H⟩
   ·obtain⟨s12,ej,h2,aei,H2⟩:=H.2 j (ready_mono hj hji) oj Tx
    obtain⟨ui,oi',al4,asn⟩:=mem_ready.1 hr
    rw [hoi] at al4;cases al4
    obtain⟨uj,oj',al3,ah3⟩:=mem_ready.1 hj
    rw [Tx] at al3;cases al3
    have aqR:i < bZ.size:=(ad0.1 hoi).1
    have aqQ:j < bZ.size:=(ad0.1 Tx).1
    have nl:∀k,k < bZ.size->listed.getD k true=false->listed.getD k false=false:=by
     intro k hk h
     have dW:k < listed.size:=by omega
     simp [dW] at h ⊢
     exact h
    have ui':=nl i aqR ui
    have uj':=nl j aqQ uj
    have ap4:∀e∈oj.after,Region.binds .any e=true->e.on≠i:=fun e he hb heq=>by
     have:=ah3 e he hb;rw [heq,ui'] at this;cases this
    have ap3:∀e∈oi.after,Region.binds .any e=true->e.on≠j:=fun e he hb heq=>by
     have:=asn e he hb;rw [heq,uj'] at this;cases this
    have af5:qv bZ.toList 12 j i=false:=by
     cases ha:qv bZ.toList 12 j i with
     | false=>rfl
     | true=>have:=Fm aer 12 j i oj Tx ah3 ha;rw [ui'] at this;cases this
    have Qn:=aei (i,en) (by simp) af5
    obtain⟨s2,s21,k1,k2,LS⟩:=NB hcl hGb pR hoi Tx (hap i j oi oj (Ne.symm hji) hoi Tx ap4 ap3) h1 h2 Qn
    refine⟨s2,ej,k1,fun p hp=>aei p (aby _ hp),?_⟩
    have ara:bH N s2:=(yw (P:=P) (nt:=nt) (L:=L) hT cH k1 hcl hL hH (hd j oj Tx)).1
    have aek:=rl k1
    refine ih (listed.setIfInBounds j true) ((j,ej)::log) s2 s21 en (by simp [sD]) ?_ ara (abL hH aek) (abL pR aek) (ready_mono hr (Ne.symm hji)) k2 ?_ ?_
    ·-- down
     intro k ok oI hk e he hb
     by_cases hkj:k=j
     ·subst hkj
      rw [Tx] at oI;cases oI
      exact getD_set_true (ah3 e he hb)
     ·rw [getD_set_ne false (Ne.symm hkj)] at hk
      exact getD_set_true (aer k ok oI hk e he hb)
    ·intro p hp hpa
     rcases abk.1 hp with rfl | hp
     ·exact Mr Qn
     ·exact LR p hp hpa
    ·rw [Array.setIfInBounds_comm _ _ hji]
     refine yq hΦ f _ _ _ s12 s21 LS ?_ H2
     intro p hp
     rcases abk.1 hp with rfl | hp
     ·simp
     ·rcases abk.1 hp with rfl | hp
      ·simp
      ·simp [hp]
def wA (n i:Nat):Array Bool:=((List.range n).map fun k=>decide (k < i)).toArray
theorem Rc (n i:Nat):(wA n i).size=n:=by simp [wA]
theorem tQ (n i k:Nat) (d:Bool):(wA n i).getD k d=if k < n then decide (k < i) else d:=by
 unfold wA
 by_cases h:k < n
 ·simp [h]
 ·simp [h]
theorem Rb (n i:Nat):(wA n i).setIfInBounds i true=wA n (i+1):=by
 apply Array.ext
 ·simp [wA]
 ·intro k h1 h2
  have hk:k < n:=by simpa [wA] using h2
  simp only [wA,List.getElem_toArray,List.getElem_map,List.getElem_range]
  by_cases e:i=k
  ·subst e;simp
  ·simp [e];omega
theorem OP (a b:qC):(pa a b).ok=ek a b:=by
 cases a<;>cases b
 case rd.call n R U=>cases h:hZ R n<;>simp [pa,ek,h,QZ.ok]
 case call.rd R U n=>cases h:hZ R n<;>simp [pa,ek,h,QZ.ok]
 case rd.wr n m=>cases h:Nat.beq n m<;>simp [pa,ek,h,QZ.ok]
 case wr.rd n m=>cases h:Nat.beq n m<;>simp [pa,ek,h,QZ.ok]
 case wr.wr n m=>cases h:Nat.beq n m<;>simp [pa,ek,h,QZ.ok]
 case wr.call n R U=>cases h:hZ R n<;>simp [pa,ek,h,QZ.ok]
 case call.wr R U n=>cases h:hZ R n<;>simp [pa,ek,h,QZ.ok]
 all_goals rfl
theorem y3 {all:List Oper} {j:Nat} {en:qC}:∀{log:List (Nat×qC)} {l:List Bool},N9 all j en log=some l->(∀b∈l,b=true)->D9 all j en log=true
 | [],l,_,_=>rfl
 | (i,x)::r,l,h,hb=>by
   have hc:=OP x en
   simp only [N9] at h
   simp only [D9]
   split at h
   ·rename_i e
    rw [e] at hc
    rw [<- hc]
    exact y3 h hb
   ·rename_i e
    rw [e] at hc
    rw [<- hc]
    split at h
    ·exact y3 h hb
    ·cases h
   ·rename_i b e
    rw [e] at hc
    rw [<- hc]
    split at h
    ·cases b<;>exact y3 h hb
    ·split at h
     ·rename_i l' hl
      cases h
      have h1:b=true:=hb b (abw ..)
      subst h1
      exact y3 hl fun c hc=>hb c (aby _ hc)
     ·cases h
theorem DT {α:Type}:∀{l:List Bool} {t:T α} {r:α},(Wn l t).val=some r->(∀b∈l,b=true) /\ t.val=some r
 | [],t,r,h=>⟨fun b hb=>(by cases hb),h⟩
 | b::l,t,r,h=>by
   cases b with
   | false=>cases h
   | true =>
     obtain⟨h1,h2⟩:=DT (l:=l) (t:=t) h
     exact⟨fun c hc=>(abk.1 hc).elim id (h1 c),h2⟩
theorem xC {all:List Oper} {j:Nat} {en:qC}:∀{log:List (Nat×qC)},D9 all j en log=true->∀p∈log,qv all 12 j p.1=false->ek p.2 en=true
 | [],_,p,hp,_=>by cases hp
 | (i,x)::r,h,p,hp,ha=>by
   simp only [D9] at h
   split at h
   ·rename_i hc
    rcases abk.1 hp with rfl | hp
    ·exact hc
    ·exact xC h p hp ha
   ·split at h
    ·rename_i han
     rcases abk.1 hp with rfl | hp
     ·rw [han] at ha;cases ha
     ·exact xC h p hp ha
    ·cases h
theorem xV {i:Nat}:∀{l:List Edge},nG i l=true->∀e∈l,Region.binds .any e=true->e.on < i
 | [],_,e,he,_=>by cases he
 | x::r,h,e,he,hb=>by
   simp only [nG] at h
   split at h
   ·rename_i hx
    split at h
    ·rename_i du
     rcases abk.1 he with rfl | he
     ·exact(fw _ _).1 du
     ·exact xV h e he hb
    ·cases h
   ·rename_i hx
    rcases abk.1 he with rfl | he
    ·rw [hb] at hx;cases hx
    ·exact xV h e he hb
def Below (bZ:Array Oper):Prop:=∀(j:Nat) (o:Oper),bZ[j]?=some o->∀e∈o.after,Region.binds .any e=true->e.on < j
theorem MF {cP:Callee AV}:∀(r:List Oper) (i:Nat) (log:List (Nat×qC)) (s s':St AV),(mh N cP base bZ.toList i r log s).val=some s'->∀(k:Nat) (o:Oper),r[k]?=some o->∀e∈o.after,Region.binds .any e=true->e.on < i+k
 | [],_,_,_,_,_,k,o,hk=>by simp at hk
 | x::r,i,log,s,s',h,k,o,hk=>by
   simp only [mh] at h
   split at h
   ·simp [T.val] at h
   ·rename_i hed
    obtain⟨⟨s1,en⟩,h1,h2⟩:=T.bf h
    simp only at h2
    split at h2
    ·cases k with
     | zero =>
       simp at hk
       subst hk
       intro e he hb
       exact xV hed e (afP.2 he) hb
     | succ k =>
       have:=MF r (i+1) _ s1 s' h2 k o (by simpa using hk)
       rw [show i+(k+1)=i+1+k from by omega]
       exact this
    ·cases h2
theorem SR {i:Nat} (hb:Below bZ):aif bZ (wA bZ.size i):=by
 intro j o ho hj e he hbe
 have hjs:j < bZ.size:=(ad0.1 ho).1
 have:=hb j o ho e he hbe
 rw [tQ,if_pos hjs] at hj
 rw [tQ,if_pos (by omega)]
 simp at hj ⊢
 omega
include hT cH in
theorem aeT {nt L:Nat} (hL:L<=base) (hGb:N.G<=base) (hap:Za bZ) (hb:Below bZ) (hd:∀(k:Nat) (o:Oper),bZ[k]?=some o->∀d,o.dst=some d->d < nt) (s':St AV) :
 ∀(r:List Oper) (i:Nat) (log:List (Nat×qC)) (s:St AV),bZ.toList.drop i=r->i+r.length=bZ.size->(mh N cP base bZ.toList i r log s).val=some s'->bH N s->L<=s.H.length->base+fv bZ.toList<=s.H.length ->
   xp N cP base bZ (fun t=>vk s' t) r.length (wA bZ.size i) log s /\ bH N s' /\ L<=s'.H.length
 | [],i,log,s,hr,hi,h,hcl,hH,_=>by
   simp only [mh,T.val,aaC] at h
   subst h
   refine⟨⟨?_,vk.refl s⟩,hcl,hH⟩
   have hi':i=bZ.size:=by simpa using hi
   subst hi'
   apply List.eq_nil_iff_forall_not_mem.2
   intro j hj
   obtain⟨h0,o,ho,_⟩:=mem_ready.1 hj
   have hjs:j < bZ.size:=(ad0.1 ho).1
   rw [tQ,if_pos hjs] at h0
   simp at h0
   omega
 | x::r,i,log,s,hr,hi,h,hcl,hH,pR=>by
   have hx:bZ[i]?=some x:=by
    have:=congrArg (fun l=>l[0]?) hr
    simpa using this
   have Oj:bZ.toList.drop (i+1)=r:=by
    have:=congrArg List.tail hr
    simpa [List.tail_drop] using this
   simp only [mh] at h
   split at h
   ·cases h
   ·rename_i hed
    obtain⟨⟨s1,en⟩,h1,h2⟩:=T.bf h
    simp only at h2
    split at h2
    ·rename_i LR
     have arb:bH N s1:=(yw (P:=P) (nt:=nt) (L:=L) hT cH h1 hcl hL hH (hd i x hx)).1
     have ael:=rl h1
     obtain⟨ih,c',l'⟩:=aeT hL hGb hap hb hd s' r (i+1) ((i,en)::log) s1 Oj (by simp at hi;omega) h2 arb (abL hH ael) (abL pR ael)
     refine⟨?_,c',l'⟩
     have his:i < bZ.size:=(ad0.1 hx).1
     refine Rn (P:=P) (nt:=nt) (L:=L) hT cH hL hGb (fun s t uO h=>⟨h.H.trans uO.H,fun k=>(h.E k).trans (uO.E k)⟩) hap hd hx r.length (wA bZ.size i) log s s1 en (Rc _ _) (SR hb) hcl hH pR ?_ h1 (xC LR) ?_
     ·refine mem_ready.2 ⟨by rw [tQ,if_pos his];simp,x,hx,fun e he hbe=>?_⟩
      have:=hb i x hx e he hbe
      rw [tQ,if_pos (by omega)]
      simp;exact this
     ·rw [Rb];exact ih
    ·cases h2
include hT cH in
theorem Ur {nt L:Nat} (hL:L<=base) (hd:∀(k:Nat) (o:Oper),bZ[k]?=some o->∀d,o.dst=some d->d < nt) {Φ:St AV->Prop} {Q:Exit->Act->World->Prop} {ρ₀:Nm} {s₀:St AV} {a₀:Act} {w₀:World}
 (hQ:∀t a w,Φ t->oB N nt L ρ₀ s₀ w₀ a₀ t a w->Q .normal a w) :
 ∀(f:Nat) (listed:Array Bool) (log:List (Nat×qC)) (s:St AV),xp N cP base bZ Φ f listed log s->bH N s->L<=s.H.length->∀(ρ:Nm) (a:Act) (w:World),At N nt ρ s a w->iZ N L ρ₀ s₀.H w₀ ρ s.H w->a.defers=a₀.defers->wpAny P .any bZ Q f listed a w
 | 0,listed,log,s,h,hcl,hH,ρ,a,w,bC,dy,hdf=>⟨h.1,hQ s a w h.2 ⟨⟨ρ,bC.em,bC.own,dy⟩,hdf⟩⟩
 | f+1,listed,log,s,h,hcl,hH,ρ,a,w,bC,dy,hdf=>by
   refine⟨fun hr=>hQ s a w (h.1 hr) ⟨⟨ρ,bC.em,bC.own,dy⟩,hdf⟩,fun i hi=>?_⟩
   obtain⟨_,o,ho,_⟩:=mem_ready.1 hi
   obtain⟨s1,en,h1,_,h3⟩:=h.2 i hi o ho
   obtain⟨c1,k1⟩:=yw (P:=P) (nt:=nt) (L:=L) hT cH h1 hcl hL hH (hd i o ho)
   have:=k1 bC (K:=wpAny P .any bZ Q f (listed.setIfInBounds i true)) (Q:=Q) (fun a1 w1 hl=>by
    obtain⟨⟨ρ1,e1,o1,v1⟩,d1⟩:=hl
    exact Ur hL hd hQ f _ _ s1 h3 c1 (abL hH (rl h1)) ρ1 a1 w1 ⟨e1,o1⟩ (dy.trans v1) (d1.trans hdf))
   unfold wpOp
   simp only [ho]
   split
   ·rename_i hw;rw [if_pos hw] at this;exact .inl this
   ·rename_i hw;rw [if_neg hw] at this;exact this
end sound
theorem KD (hT:fD P N) {cP:Callee AV} (cH:gF P N cP) {nt L base:Nat} (bZ:Array Oper) (hap:rV bZ bZ.toList 0 bZ.toList=true) (hL:L<=base) (hGb:N.G<=base) {s s':St AV} (h:(mh N cP base bZ.toList 0 bZ.toList [] s).val=some s')
 (hcl:bH N s) (hH:L<=s.H.length) (hd:∀o∈bZ.toList,∀d,o.dst=some d->d < nt) (pR:s.H.length=base+fv bZ.toList) :
 bH N s' /\ L<=s'.H.length /\ ∀{id:Nat} {ρ:Nm} {a:Act} {w:World},At N nt ρ s a w->∀{Q:Exit->Act->World->Prop},(∀a' w',oB N nt L ρ s w a s' a' w'->Q .normal a' w')->(Code.region id bZ true).wp P Q a w:=by
 have hb:Below bZ:=fun j o ho e he hbe=>by
  have:=MF bZ.toList 0 [] s s' h j o (by simpa using ho) e he hbe
  omega
 have AR:∀(k:Nat) (o:Oper),bZ[k]?=some o->∀d,o.dst=some d->d < nt:=fun k o ho=>hd o (afP.2 (Array.mem_of_getElem? ho))
 obtain⟨alS,c',l'⟩:=aeT (P:=P) (nt:=nt) (L:=L) hT cH hL hGb (YT hap) hb AR s' bZ.toList 0 [] s rfl (by simp) h hcl hH (by omega)
 refine⟨c',l',fun {id ρ a w} bC Q hQ=>wp_region_any hT.mix ?_⟩
 have aqE:Array.replicate bZ.size false=wA bZ.size 0:=by
  apply Array.ext
  ·simp [wA]
  ·intro k h1 h2;simp [wA]
 rw [aqE]
 have hlen:bZ.toList.length=bZ.size:=by simp
 rw [hlen] at alS
 refine Ur (P:=P) (nt:=nt) (L:=L) hT cH hL AR (Φ:=fun t=>vk s' t) (Q:=Q) (ρ₀:=ρ) (s₀:=s) (a₀:=a) (w₀:=w) ?_ bZ.size (wA bZ.size 0) [] s alS hcl hH ρ a _ ⟨bC.em,bC.own.drew⟩ (iZ.anp (iZ.refl _ _ _ _)) rfl
 intro t a' w' LS hl
 refine hQ a' w' ?_
 obtain⟨⟨ρ1,e1,o1,v1⟩,d1⟩:=hl
 refine⟨⟨ρ1,⟨e1.size,fun k hk=>by rw [LS.E k] at hk ⊢;exact e1.get k hk⟩,by rw [LS.H];exact o1,by rw [LS.H];exact v1⟩,d1⟩
end
section
variable {AV:Type} {N:dV AV}
theorem Er {b:Bool} {x y c:Cell} (h:Qg b x y=some c):c.name=none /\ ∀ρ:Nm,c.aq ρ=(if b=true then x else y).aq ρ:=by
 unfold Qg at h
 split at h
 ·rename_i p kp q kq h1 h2
  split at h
  ·rename_i hk
   have hpq:p=q:=by
    unfold Fk at hk
    split at hk
    ·exact eq_of_beq hk
    ·cases hk
   subst hpq
   cases h
   refine⟨rfl,fun ρ=>?_⟩
   cases b
   ·simp [Cell.aq,ff ρ h2]
   ·simp [Cell.aq,ff ρ h1]
  ·cases h
   refine⟨rfl,fun ρ=>?_⟩
   cases b
   ·simp [Cell.aq,ff ρ h2]
   ·simp [Cell.aq,ff ρ h1]
 ·split at h
  ·rename_i k p _ k' q _ h1 h2
   split at h
   ·rename_i hk
    have hk:=aaV hk
    subst hk
    cases h
    refine⟨rfl,fun ρ=>?_⟩
    cases b
    ·simp [Cell.aq,fC ρ h2]
    ·simp [Cell.aq,fC ρ h1]
   ·cases h
  ·cases h
theorem En {b:Bool}:∀{x y c:List Cell},Ep b x y=some c->(∀d∈c,d.name=none) /\ ∀ρ:Nm,aA ρ c=aA ρ (if b=true then x else y)
 | [],[],c,h=>by
   simp only [Ep,aaC] at h;subst h
   cases b<;>simp [aA]
 | [],_::_,_,h=>by simp [Ep] at h
 | _::_,[],_,h=>by simp [Ep] at h
 | x::xs,y::ys,c,h=>by
   simp only [Ep] at h
   split at h
   ·rename_i d hd
    split at h
    ·rename_i l hl
     cases h
     obtain⟨a1,a2⟩:=Er hd
     obtain⟨b1,b2⟩:=En hl
     refine⟨fun e he=>?_,fun ρ=>?_⟩
     ·rcases abk.1 he with rfl | he
      ·exact a1
      ·exact b1 e he
     ·have e1:=a2 ρ
      have e2:=b2 ρ
      cases b<;>simp [aA] at e1 e2 ⊢<;>exact⟨e1,e2⟩
    ·cases h
   ·cases h
theorem xF (H:Hp AV) (b:Bool) (x y:SV):fh H (sZ b x y) /\ (sZ b x y=.lE \/ ((if b=true then x else y)≠.lE /\ sZ b x y≠.lE /\ ∀ρ:Nm,(sZ b x y).aq ρ=(if b=true then x else y).aq ρ)):=by
 unfold sZ
 split
 ·split
  ·rename_i hc
   obtain⟨a1,a2⟩:=Er hc
   refine⟨fV a1,.inr ⟨by cases b<;>simp,by simp,fun ρ=>?_⟩⟩
   have:=a2 ρ
   cases b<;>simpa [SV.aq,V1.aq] using this
  ·exact⟨trivial,.inl rfl⟩
 ·split
  ·rename_i hc
   obtain⟨a1,a2⟩:=En hc
   refine⟨iz a1,.inr ⟨by cases b<;>simp,by simp,fun ρ=>?_⟩⟩
   have:=a2 ρ
   cases b<;>simp [SV.aq,V1.aq] at this ⊢<;>rw [this]
  ·exact⟨trivial,.inl rfl⟩
 ·exact⟨trivial,.inl rfl⟩
theorem El (b:Bool) (E:Ev):∀{W X Z:Ev},uK b W X=some Z->∀k,aF (Z++E) k=sZ b (aF (W++E) k) (aF (X++E) k) \/ (aF (Z++E) k=aF E k /\ aF (W++E) k=aF E k /\ aF (X++E) k=aF E k)
 | [],[],Z,h,k=>by
   simp only [uK,aaC] at h
   subst h
   exact .inr ⟨rfl,rfl,rfl⟩
 | [],_::_,_,h,_=>by simp [uK] at h
 | _::_,[],_,h,_=>by simp [uK] at h
 | (j,v)::r,(j',u)::q,Z,h,k=>by
   simp only [uK] at h
   split at h
   ·rename_i hj
    have hj:=(aC _ _).1 hj
    subst hj
    split at h
    ·rename_i z hz
     cases h
     simp only [adF,aF]
     by_cases e:j=k
     ·subst e
      rw [agu]
      exact .inl rfl
     ·rw [(bE j k).2 e]
      exact El b E hz k
    ·cases h
   ·cases h
theorem wv {n m:Option Bool} {z:Option Ev} {W:Ev} (h:O3 n z=some (m,W)):n=m /\ z=some W:=by
 cases z with
 | none=>simp [O3] at h
 | some x=>simp only [O3,aaC,aaF] at h;exact⟨h.1,by rw [h.2]⟩
theorem xd:∀(X E:Ev),EC ((X++E).length - E.length) (X++E)=X
 | [],E=>by simp [EC]
 | x::X,E=>by
   have:=xd X E
   have e:((x::X)++E).length - E.length=X.length+1:=by simp;omega
   have e':(X++E).length - E.length=X.length:=by simp
   rw [e'] at this
   rw [e]
   simp only [adF,EC,this]
def uC:Option Bool->Prop
 | none=>True
 | some b=>b=true
theorem pO (H:Hp AV) (E:Ev) (hE:∀k,fh H (aF E k)):∀{t:T (St AV×Bool)} {n:Option Bool} {W:Ev},rN E t=some (n,W)->uC n ->
 ∃s,t.val=some (s,true) /\ ((∀X,s.E=X++E->(∀k,fh H (aF s.E k))->(∀k,fh H (aF (W++E) k)) /\ ∀k,aF (W++E) k=.lE \/ (aF s.E k≠.lE /\ ∀ρ:Nm,(aF (W++E) k).aq ρ=(aF s.E k).aq ρ)))
 | .aE (s,q),n,W,h,hn=>by
   cases q with
   | false=>simp [rN] at h
   | true =>
   simp only [rN,aaC,aaF] at h
   obtain⟨rfl,rfl⟩:=h
   refine⟨s,rfl,fun X hX hc=>?_⟩
   rw [hX,xd]
   rw [hX] at hc
   refine⟨hc,fun k=>?_⟩
   by_cases hk:aF (X++E) k=.lE
   ·exact .inl hk
   ·exact .inr ⟨hk,fun _=>rfl⟩
 | .aJ b t,n,W,h,hn=>by
   simp only [rN] at h
   split at h
   ·rename_i W' ht
    cases h
    have hb:b=true:=hn
    subst hb
    obtain⟨s,hs,k⟩:=pO H E hE ht trivial
    exact⟨s,hs,k⟩
   ·rename_i m W' ht
    cases h
    cases b with
    | false=>cases hn
    | true =>
      obtain⟨s,hs,k⟩:=pO H E hE ht hn
      exact⟨s,hs,k⟩
   ·cases h
 | .ite b t e,n,W,h,hn=>by
   have key:∀(n1 n2:Option Bool) (W1 W2:Ev),rN E t=some (n1,W1)->rN E e=some (n2,W2)->(b=true->uC n1)->(b=false->uC n2)->uK b W1 W2=some W ->
    ∃s,(T.ite b t e).val=some (s,true) /\ ((∀X,s.E=X++E->(∀k,fh H (aF s.E k))->(∀k,fh H (aF (W++E) k)) /\ ∀k,aF (W++E) k=.lE \/ (aF s.E k≠.lE /\ ∀ρ:Nm,(aF (W++E) k).aq ρ=(aF s.E k).aq ρ))):=by
    intro n1 n2 W1 W2 h1 h2 ht he hW
    have main:∀(Wb:Ev) (s:St AV),(Wb=if b=true then W1 else W2)->(∀X,s.E=X++E->(∀k,fh H (aF s.E k))->(∀k,fh H (aF (Wb++E) k)) /\ ∀k,aF (Wb++E) k=.lE \/ (aF s.E k≠.lE /\ ∀ρ:Nm,(aF (Wb++E) k).aq ρ=(aF s.E k).aq ρ)) ->
     (∀X,s.E=X++E->(∀k,fh H (aF s.E k))->(∀k,fh H (aF (W++E) k)) /\ ∀k,aF (W++E) k=.lE \/ (aF s.E k≠.lE /\ ∀ρ:Nm,(aF (W++E) k).aq ρ=(aF s.E k).aq ρ)):=by
     intro Wb s hWb hs X hX hc
     obtain⟨_,hs2⟩:=hs X hX hc
     have hl:=El b E hW
     refine⟨fun k=>?_,fun k=>?_⟩
     ·rcases hl k with h | ⟨h,_,_⟩
      ·rw [h];exact(xF H b _ _).1
      ·rw [h];exact hE k
     ·rcases hl k with h | ⟨h,hw,hx⟩
      ·rw [h]
       rcases (xF H b (aF (W1++E) k) (aF (W2++E) k)).2 with hj | ⟨hj1,hj2,hj3⟩
       ·exact .inl hj
       ·have aqD:(if b=true then aF (W1++E) k else aF (W2++E) k)=aF (Wb++E) k:=by rw [hWb];cases b<;>rfl
        rw [aqD] at hj1 hj3
        rcases hs2 k with hu | ⟨hu1,hu2⟩
        ·exact absurd hu hj1
        ·exact .inr ⟨hu1,fun ρ=>(hj3 ρ).trans (hu2 ρ)⟩
      ·rw [h]
       have hb:aF (Wb++E) k=aF E k:=by
        rw [hWb]
        cases b
        ·exact hx
        ·exact hw
       have:=hs2 k
       rw [hb] at this
       exact this
    cases b with
    | true =>
      obtain⟨s,hs,k⟩:=pO H E hE h1 (ht rfl)
      exact⟨s,hs,main W1 s rfl k⟩
    | false =>
      obtain⟨s,hs,k⟩:=pO H E hE h2 (he rfl)
      exact⟨s,hs,main W2 s rfl k⟩
   simp only [rN] at h
   split at h
   ·rename_i W1 W2 h1 h2
    obtain⟨rfl,hz⟩:=wv h
    exact key none none W1 W2 h1 h2 (fun _=>trivial) (fun _=>trivial) hz
   ·rename_i n1 W1 W2 h1 h2
    obtain⟨rfl,hz⟩:=wv h
    exact key (some n1) none W1 W2 h1 h2 (fun hb=>by subst hb;exact hn) (fun _=>trivial) hz
   ·rename_i W1 n2 W2 h1 h2
    obtain⟨rfl,hz⟩:=wv h
    exact key none (some n2) W1 W2 h1 h2 (fun _=>trivial) (fun hb=>by subst hb;exact hn) hz
   ·rename_i n1 W1 n2 W2 h1 h2
    obtain⟨rfl,hz⟩:=wv h
    exact key (some n1) (some n2) W1 W2 h1 h2 (fun hb=>by subst hb;exact hn) (fun hb=>by subst hb;exact hn) hz
   ·cases h
 | .fail _,_,_,h,_=>by simp [rN] at h
theorem Au:∀(H B:Hp AV) (i:Nat),H.length=B.length->di [] i H B=H
 | [],[],_,_=>rfl
 | [],_::_,_,h=>by simp at h
 | _::_,[],_,h=>by simp at h
 | none::r,y::q,i,h=>by simp [di,Au r q (i+1) (by simpa using h)]
 | some x::r,y::q,i,h=>by simp [di,KK,sO,Au r q (i+1) (by simpa using h)]
theorem Bp {cP:Callee AV} {base:Nat} {all:List Oper} {i:Nat} {o:Oper} {s s':St AV} {en:qC} (h:(mT N cP base all i o s).val=some (s',en)):(∃X,s'.E=X++s.E) /\ (z7 true en s.H s'.H=true->s'.H=s.H):=by
 rw [pj] at h
 obtain⟨p,hp,h⟩:=abi.1 h
 obtain⟨⟨v,H',en⟩,he,hr⟩:=abu.1 h
 cases hr
 refine⟨?_,fun hq=>?_⟩
 ·cases o.dst with
  | none=>exact⟨[],rfl⟩
  | some d=>exact⟨[(d,v)],rfl⟩
 ·cases hi:xG en with
  | false =>
    obtain⟨u,hu,hw,_⟩:=rT he hi
    simp only at hu ⊢
    rcases hw with rfl | ⟨n,c,rfl,xI,_⟩
    ·exact hu
    ·rw [xI] at hq;cases hq
  | true =>
    cases en with
    | pure=>cases hi
    | rd _=>cases hi
    | wr _=>cases hi
    | call R =>
      cases R with
      | cons _ _=>cases hq
      | nil =>
        obtain⟨_,B,_,hl,hH,_⟩:=zn he
        simp only [z7] at hq
        have hlen:=(aC _ _).1 hq
        simp only at hlen ⊢
        subst hH
        rw [pr _ _ _ _ hl] at hlen
        exact Au s.H B 0 hlen
structure Ref (m s:St AV):Prop where
 H:m.H=s.H
 E:∀k,aF m.E k=.lE \/ (aF s.E k≠.lE /\ ∀ρ:Nm,(aF m.E k).aq ρ=(aF s.E k).aq ρ)
theorem Ref.em {m s:St AV} (h:Ref m s) {ρ:Nm} {nt:Nat} {a:Act} (he:EM ρ nt s.E a):EM ρ nt m.E a :=
 ⟨he.size,fun k hk=>by
   rcases h.E k with hu | ⟨h1,h2⟩
   ·exact absurd hu hk
   ·rw [h2 ρ];exact he.get k h1⟩
theorem Em {s m:St AV} {t:T (St AV×Bool)} (hcl:bH N s) (h:(Qf s t).val=some m)
 (hq:∀s' q,t.val=some (s',q)->bH N s' /\ (∃X,s'.E=X++s.E) /\ (q=true->s'.H=s.H)):∃s' q,t.val=some (s',q) /\ Ref m s' /\ bH N m:=by
 have ajE:(t.map fun r=>r.1).val=some m->∃s' q,t.val=some (s',q) /\ Ref m s' /\ bH N m:=fun h=>by
  rw [T.fR] at h
  obtain⟨⟨s',q⟩,h1,rfl⟩:=abu.1 h
  exact⟨s',q,h1,⟨rfl,fun k=>by
   by_cases hk:aF s'.E k=.lE
   ·exact .inl hk
   ·exact .inr ⟨hk,fun _=>rfl⟩⟩,(hq s' q h1).1⟩
 have main:∀(n:Option Bool) (W:Ev),rN s.E t=some (n,W)->uC n->∃s' q,t.val=some (s',q) /\ Ref ({s with E:=W++s.E}:St AV) s' /\ bH N ({s with E:=W++s.E}:St AV):=by
  intro n W hj hn
  obtain⟨s',Ql,k⟩:=pO s.H s.E hcl.E hj hn
  obtain⟨hcs,⟨X,hX⟩,hH⟩:=hq s' true Ql
  have hH:=hH rfl
  obtain⟨k1,k2⟩:=k X hX (fun k=>by have:=hcs.E k;rw [hH] at this;exact this)
  exact⟨s',true,Ql,⟨hH.symm,k2⟩,⟨k1,hcl.H⟩⟩
 unfold Qf at h
 split at h
 ·exact ajE h
 ·split at h
  ·rename_i W hj
   cases h
   exact main none W hj trivial
  ·rename_i n W hj
   obtain⟨hb,h⟩:=fN h
   cases h
   exact main (some n) W hj hb
  ·exact ajE h
end
section
variable {AV:Type} {N:dV AV}
def yb (A:It) (E:Ev):Prop:=∀d x,uG A d=some x->∃c k,aF E d=.v (.c c) /\ kX c=some (x,k)
theorem xW:∀(A:It) (n d:Nat),uG (HV A n) d=if n=d then none else uG A d
 | [],n,d=>by simp [HV,uG]
 | (k,b)::r,n,d=>by
   simp only [HV]
   by_cases h:k=n
   ·subst h
    rw [agu]
    simp only [uG]
    rw [xW r k d]
    by_cases e:k=d
    ·simp [e]
    ·rw [if_neg e,if_neg e,(bE k d).2 e]
   ·rw [(bE k n).2 h]
    simp only [uG]
    by_cases e:k=d
    ·subst e
     rw [agu]
     simp only
     rw [if_neg (Ne.symm h)]
    ·rw [(bE k d).2 e]
     simp only
     exact xW r n d
theorem yb.put {A:It} {E:Ev} (h:yb A E) (dst:Option Nat) (v:SV):yb (BL A dst) (jY E dst v):=by
 intro d x hd
 cases dst with
 | none=>exact h d x hd
 | some n =>
   simp only [BL,xW] at hd
   split at hd
   ·cases hd
   ·rename_i dA
    rw [yZ,if_neg dA]
    exact h d x hd
theorem yb.cons {A:It} {E:Ev} (h:yb A E) {d:Nat} {x:Bool} (hd:∃c k,aF E d=.v (.c c) /\ kX c=some (x,k)):yb ((d,x)::A) E:=by
 intro n y hn
 simp only [uG] at hn
 split at hn
 ·rename_i he
  cases hn
  rw [<- (aC _ _).1 he]
  exact hd
 ·exact h n y hn
theorem SM {cP:Callee AV} {base:Nat} {all:List Oper} {i:Nat} {o:Oper} {A B:It} {s:St AV} (hA:yb A s.E) :
 (HO N cP base all i o A B s).val=((m4 N cP (oG all base i) o s).val.map fun s'=>(s',ga N (oG all base i) (qP N.G s.H s.E) s.H s'.H o.op,BL B o.dst)):=by
 unfold HO
 split
 ·rename_i t ht
  unfold adM at ht
  split at ht
  ·rename_i c a b oA
   split at ht
   ·cases ht
   ·rename_i x hx
    cases ht
    obtain⟨cc,k,hl,hb⟩:=hA c x hx
    have JA:∀H':Hp AV,ga N (oG all base i) (qP N.G s.H s.E) s.H H' o.op=.pure:=fun _=>by rw [oA];rfl
    simp only [JA]
    unfold m4
    rw [oA]
    simp only [qB,Ew,aep,kP,uk,T.n5,T.fR]
    have dy:qP N.G s.H s.E (.tmp c)=some (.v (.c cc)):=by simp [qP,hl]
    rw [dy]
    cases qP N.G s.H s.E a with
    | none=>rfl
    | some p =>
      cases qP N.G s.H s.E b with
      | none=>rfl
      | some q =>
        simp only [hb]
        cases x<;>cases k<;>simp [T.val,gf]
  ·cases ht
 ·rw [T.fR]
theorem L5 {all:List Oper} {o:Oper} {E:Ev} {b:Bool} (h:iu all o E=some (b,false)):∃d want c x,ahs all o=some (d,want) /\ aF E d=.v (.c c) /\ kX c=some (x,false) /\ b=(x==want):=by
 unfold iu at h
 unfold ahs
 cases hg:o.guard with
 | none=>simp [hg] at h
 | some p =>
   obtain⟨j,want⟩:=p
   simp only [hg] at h ⊢
   cases hj:yc all j with
   | none=>simp [hj] at h
   | some oj =>
     simp only [hj] at h ⊢
     cases hd:oj.dst with
     | none=>simp [hd] at h
     | some d =>
       simp only [hd] at h ⊢
       split at h
       ·cases h
       ·rename_i c hl
        split at h
        ·rename_i x k hb
         simp only [aaC,aaF] at h
         obtain⟨h1,rfl⟩:=h
         exact⟨d,want,c,x,rfl,hl,hb,h1.symm⟩
        ·simp at h
       ·simp at h
theorem De {cP:Callee AV} {base:Nat} {all:List Oper} {i:Nat} {o:Oper} {A:It} {s:St AV} (hA:yb A s.E) :
 (∀s' en B,(IK N cP base all i o A s).val=some (s',en,B)->(mT N cP base all i o s).val=some (s',en) /\ yb B s'.E):=by
 intro s' en B h
 rw [vA]
 unfold zV
 unfold IK at h
 have fin:∀C,yb C s.E->(HO N cP base all i o A C s).val=some (s',en,B)->((m4 N cP (oG all base i) o s).val.map fun s'=>(s',ga N (oG all base i) (qP N.G s.H s.E) s.H s'.H o.op))=some (s',en) /\ yb B s'.E:=by
  intro C hC he
  rw [SM hA] at he
  obtain⟨s1,hs,he⟩:=abu.1 he
  cases he
  refine⟨by rw [hs];rfl,?_⟩
  have:∃v,s'.E=jY s.E o.dst v:=by
   unfold m4 at hs
   split at hs
   ·obtain⟨r,_,hs⟩:=T.bf hs
    simp only [T.val,aaC] at hs
    exact⟨r.1,by rw [<- hs]⟩
   ·cases hs
   ·obtain⟨r,_,hs⟩:=T.bf hs
    simp only [T.val,aaC] at hs
    exact⟨r.1,by rw [<- hs]⟩
  obtain⟨v,hv⟩:=this
  rw [hv]
  exact hC.put _ _
 split at h
 ·cases h
 ·rename_i b hw
  simp only [hw]
  cases b with
  | true=>exact fin A hA h
  | false =>
    cases h
    exact⟨rfl,hA.put _ _⟩
 ·rename_i b hw
  simp only [hw]
  obtain⟨d,want,c,x,hg,hl,hb,rfl⟩:=L5 hw
  simp only [hg] at h
  split at h
  ·rename_i y hy
   obtain⟨c',k',AM,M1⟩:=hA d y hy
   rw [hl] at AM
   cases AM
   rw [hb] at M1
   cases M1
   cases hxw:(x==want) with
   | true=>simp only [hxw] at h ⊢;exact fin A hA h
   | false =>
     simp only [hxw,T.val,aaC,aaF] at h ⊢
     obtain⟨rfl,rfl,rfl⟩:=h
     exact⟨rfl,hA.put _ _⟩
  ·have hx:∀y,x=y->yb ((d,y)::A) s.E:=fun y e=>hA.cons ⟨c,false,hl,by rw [hb,e]⟩
   cases hxw:(x==want) with
   | true =>
     have e:x=want:=by simpa using hxw
     simp only [hxw,T.val] at h ⊢
     exact fin _ (hx want e) h
   | false =>
     have e:x=!want:=by cases x<;>cases want<;>simp_all
     simp only [hxw,T.val,aaC,aaF] at h ⊢
     obtain⟨rfl,rfl,rfl⟩:=h
     exact⟨rfl,(hx _ e).put _ _⟩
theorem yu {cP:Callee AV} {base:Nat} {all:List Oper} (s₀:St AV):∀(r:List Oper) (i:Nat) (A:It) (q:Bool) (s s':St AV) (q':Bool),yb A s.E->(∃X,s.E=X++s₀.E)->(q=true->s.H=s₀.H)->(tX N cP base all i r A q s).val=some (s',q') ->
 (oW N cP base all i r s).val=some s' /\ (∃X,s'.E=X++s₀.E) /\ (q'=true->s'.H=s₀.H)
 | [],_,_,q,s,s',q',_,hX,hq,h=>by
   simp only [tX,T.val,aaC,aaF] at h
   obtain⟨rfl,rfl⟩:=h
   exact⟨rfl,hX,hq⟩
 | o::r,i,A,q,s,s',q',hA,⟨X,hX⟩,hq,h=>by
   simp only [tX] at h
   obtain⟨⟨s1,en,B⟩,h1,h2⟩:=T.bf h
   obtain⟨k1,k2⟩:=De hA s1 en B h1
   obtain⟨⟨Y,hY⟩,hH⟩:=Bp k1
   simp only [oW]
   rw [T.n5,k1]
   refine yu s₀ r (i+1) B _ s1 s' q' k2 ⟨Y++X,by rw [hY,hX,acC]⟩ (fun hqs=>?_) h2
   cases q with
   | false=>simp [z7] at hqs
   | true=>rw [hH hqs,hq rfl]
theorem wQ {cP:Callee AV} {base:Nat} {all:List Oper} (s₀:St AV):∀(r:List Oper) (i:Nat) (log:List (Nat×qC)) (A:It) (q:Bool) (s s':St AV) (q':Bool),yb A s.E->(∃X,s.E=X++s₀.E)->(q=true->s.H=s₀.H)->(rh N cP base all i r log A q s).val=some (s',q') ->
 (mh N cP base all i r log s).val=some s' /\ (∃X,s'.E=X++s₀.E) /\ (q'=true->s'.H=s₀.H)
 | [],_,_,_,q,s,s',q',_,hX,hq,h=>by
   simp only [rh,T.val,aaC,aaF] at h
   obtain⟨rfl,rfl⟩:=h
   exact⟨rfl,hX,hq⟩
 | o::r,i,log,A,q,s,s',q',hA,⟨X,hX⟩,hq,h=>by
   simp only [rh] at h
   simp only [mh]
   split at h
   ·cases h
   ·obtain⟨⟨s1,en,B⟩,h1,h2⟩:=T.bf h
    obtain⟨k1,k2⟩:=De hA s1 en B h1
    obtain⟨⟨Y,hY⟩,hH⟩:=Bp k1
    simp only at h2
    split at h2
    ·rename_i lc hlc
     obtain⟨Cb,h2⟩:=DT h2
     have LR:=y3 hlc Cb
     rw [T.n5,k1]
     simp only [Option.bind_some,LR]
     refine wQ s₀ r (i+1) _ B _ s1 s' q' k2 ⟨Y++X,by rw [hY,hX,acC]⟩ (fun hqs=>?_) h2
     cases q with
     | false=>simp [z7] at hqs
     | true=>rw [hH hqs,hq rfl]
    ·cases h2
theorem Mq (E:Ev):yb [] E:=fun d x h=>by simp [uG] at h
