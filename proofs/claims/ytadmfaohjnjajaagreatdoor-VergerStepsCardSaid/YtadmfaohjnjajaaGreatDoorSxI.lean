import Derived.Test.YtadmfaohjnjajaaGreatDoorSxH
import Derived.Laws.Slices
set_option linter.unusedVariables false
set_option linter.unusedSimpArgs false
set_option maxHeartbeats 0
set_option maxRecDepth 100000
namespace Go.Sx
section
variable {AV:Type} {P:Program} {N:dV AV}
theorem yZ (E:Ev) (d:Nat) (v:SV) (k:Nat):aF (jY E (some d) v) k=if d=k then v else aF E k:=by
 simp only [jY,aF]
 by_cases h:d=k
 ·subst h;simp [agu]
 ·rw [(bE d k).2 h,if_neg h]
theorem EM.put {ρ ρ':Nm} {nt:Nat} {E:Ev} {a:Act} (h:EM ρ nt E a) {dst:Option Nat} (hd:∀d,dst=some d->d < nt) {H:Hp AV} (hc:∀k,fh H (aF E k)) (ha:∀n c,ae H n=some c->ρ'.L n=ρ.L n) (v:SV) :
 EM ρ' nt (jY E dst v) (a.put dst (v.aq ρ')):=by
 cases dst with
 | none=>exact⟨h.size,fun k hk=>by rw [show (aF (jY E none v) k)=aF E k from rfl,SV.b4 (hc k) ha];exact h.get k hk⟩
 | some d =>
   refine⟨by simp [Act.put,h.size],fun k hk=>?_⟩
   rw [yZ] at hk ⊢
   have du:d < a.tmps.size:=by rw [h.size];exact hd d rfl
   by_cases e:d=k
   ·subst e
    simp [Act.put,du]
   ·rw [if_neg e] at hk
    rw [if_neg e,SV.b4 (hc k) ha,<- h.get k hk]
    simp [Act.put,Array.getElem?_setIfInBounds_ne e]
theorem p4 {s:St AV} {H':Hp AV} (hE:∀k,fh s.H (aF s.E k)) (hp:∀n c,ae s.H n=some c->∃c',ae H' n=some c') {dst:Option Nat} {v:SV} (hv:fh H' v):∀k,fh H' (aF (jY s.E dst v) k):=by
 intro k
 cases dst with
 | none=>exact(hE k).mono hp
 | some d =>
   rw [yZ]
   split
   ·exact hv
   ·exact(hE k).mono hp
theorem mf (H:Hp AV):fh H dQ:=by intro x hx;cases hx
structure oB (N:dV AV) (nt L:Nat) (ρ:Nm) (s:St AV) (w:World) (a:Act) (s':St AV) (a':Act) (w':World):Prop where
 ex:∃ρ',EM ρ' nt s'.E a' /\ eZ N ρ' s'.H w' /\ iZ N L ρ s.H w ρ' s'.H w'
 df:a'.defers=a.defers
structure At (N:dV AV) (nt:Nat) (ρ:Nm) (s:St AV) (a:Act) (w:World):Prop where
 em:EM ρ nt s.E a
 own:eZ N ρ s.H w
theorem NF (row l ys:List Value) (o k j:Nat) (u:Value) (hl:o+l.length<=row.length) (hk:k+ys.length<=l.length) (h:∀(j:Nat) v,l[j]?=some v->row[o+j]?=some v)
 (hj:(l.take k++(ys++l.drop (k+ys.length)))[j]?=some u):(row.take (o+k)++(ys++row.drop (o+k+ys.length)))[o+j]?=some u:=by
 by_cases h1:j < k
 ·rw [acQ (by simp;omega),aeG,if_pos h1] at hj
  rw [acQ (by simp;omega),aeG,if_pos (by omega)]
  exact h j u hj
 ·rw [acR (by simp;omega)] at hj ⊢
  have e1:(l.take k).length=k:=by simp;omega
  have e2:(row.take (o+k)).length=o+k:=by simp;omega
  rw [e1] at hj
  rw [e2,show o+j - (o+k)=j - k by omega]
  by_cases h2:j - k < ys.length
  ·rw [acQ h2] at hj ⊢
   exact hj
  ·rw [acR (by omega)] at hj ⊢
   rw [af2] at hj ⊢
   have:=h _ _ hj
   rw [<- this]
   congr 1
   omega
theorem we {s:St AV} (h:bH N s):dM N s.H:=⟨h.H,trivial⟩
theorem YQ {nt L nm:Nat} {o:Oper} {s:St AV} {fW:Option Arr} {r:SV×Option (Nat×aG AV)} (h:(ov N nm s.H fW).val=some r) (hcl:bH N s) (hL:L<=nm) (hd:∀d,o.dst=some d->d < nt)
 (j7:∀a,fW=some a->mL s.H a.1 /\ ∀(ρ:Nm) (act:Act) (w:World),At N nt ρ s act w->∃row cap,(execOp act.eval o).run P w=.ok (.value (.slice (some ⟨w.heap.size,0,none⟩) a.2.2.2 cap)) (w.alloc (.cells row a.2.2.1)) /\ row.size=cap * a.2.1 /\ a.1.length<=cap * a.2.1 /\ ∀(j:Nat) v,(aA ρ a.1)[j]?=some v->row[j]?=some v) :
 bH N {E:=jY s.E o.dst r.1,H:=gf s.H r.2} /\
 ∀{ρ:Nm} {a:Act} {w:World},At N nt ρ s a w->∀{K:Act->World->Prop} {Q:Exit->Act->World->Prop},
   (∀a' w',oB N nt L ρ s w a {E:=jY s.E o.dst r.1,H:=gf s.H r.2} a' w'->K a' w')->o.wp P a w K Q:=by
 have hC:=we hcl
 unfold ov at h
 split at h
 ·rename_i l es e len
  split at h
  ·rename_i h2 h3 h4
   cases h
   obtain⟨hl,j7⟩:=j7 _ rfl
   simp only at hl j7
   have du:=(fw _ _).1 h3
   have hG:=(jo _ _).1 h4
   have dw:∀n c,ae s.H n=some c->∃c',ae (cV s.H nm (some (.kD l es e))) n=some c':=fun n c h=>⟨c,by rw [bp _ (fun e=>by subst e;rw [h2] at h;cases h)];exact h⟩
   have kv:=cg (H:=s.H) (.kD l es e) du
   have Yq:fh (cV s.H nm (some (.kD l es e))) (.v (.c (.vs nm 0 len es true))):=by
    intro c hc n hn
    simp [V1.cells] at hc;subst hc
    simp [Cell.name] at hn;subst hn
    exact⟨_,kv⟩
   constructor
   ·refine⟨p4 hcl.E dw Yq,?_⟩
    intro n x hc
    by_cases e:n=nm
    ·subst e
     simp only [gf] at hc ⊢
     rw [kv] at hc
     cases hc
     exact hl.mono dw
    ·simp only [gf] at hc ⊢
     rw [bp _ (Ne.symm e)] at hc
     exact(hcl.H n x hc).mono dw
   intro ρ a w bC K Q hK
   obtain⟨row,cap,hr,q1,q2,q3⟩:=j7 ρ a w bC
   obtain⟨o1,o2,_⟩:=aaG (es:=es) (cap:=cap) (e:=e) (row:=row) bC.own hC h2 du hG hl hL q1 q2 q3
   unfold Oper.wp
   rw [hr]
   refine hK _ _ ⟨⟨_,?_,o1,o2⟩,by cases o.dst<;>rfl⟩
   have:=bC.em.put (ρ':=ρ.set nm ⟨w.heap.size,0,cap+1⟩ fun k=>k=w.heap.size) hd hcl.E o2.jV (.v (.c (.vs nm 0 len es true)))
   rw [CT] at this
   exact this
  ·cases h
 ·cases h
theorem ah9 (hT:fD P N) {nt L nm:Nat} {o:Oper} {s:St AV} {z:Option (Bool×AV×Nat×Nat)} {r:SV×Option (Nat×aG AV)} (h:(uH N nm s.H z).val=some r) (hcl:bH N s) (hL:L<=nm) (hd:∀d,o.dst=some d->d < nt)
 (j7:∀g es len,z=some (true,g,es,len)->∀(ρ:Nm) (act:Act) (w:World),At N nt ρ s act w->∃(row:Array Value) (e:TypeId),(execOp act.eval o).run P w=.ok (.value (.slice (some ⟨w.heap.size,0,none⟩) len len)) (w.alloc (.cells row e)) /\ row.size=len * es /\ N.F.fW g=some (es,e,row.toList)) :
 bH N {E:=jY s.E o.dst r.1,H:=gf s.H r.2} /\
 ∀{ρ:Nm} {a:Act} {w:World},At N nt ρ s a w->∀{K:Act->World->Prop} {Q:Exit->Act->World->Prop},
   (∀a' w',oB N nt L ρ s w a {E:=jY s.E o.dst r.1,H:=gf s.H r.2} a' w'->K a' w')->o.wp P a w K Q:=by
 have hC:=we hcl
 unfold uH at h
 split at h
 ·rename_i b g es len
  split at h
  ·rename_i h2 h3 h4
   obtain⟨rfl,h⟩:=fN h
   cases h
   have j7:=j7 _ _ _ rfl
   have du:=(fw _ _).1 h3
   have hG:=(jo _ _).1 h4
   have dw:∀n c,ae s.H n=some c->∃c',ae (cV s.H nm (some (.bI g))) n=some c':=fun n c h=>⟨c,by rw [bp _ (fun e=>by subst e;rw [h2] at h;cases h)];exact h⟩
   have kv:=cg (H:=s.H) (.bI g) du
   have Yq:fh (cV s.H nm (some (.bI g))) (.v (.c (.vs nm 0 len es false))):=by
    intro c hc n hn
    simp [V1.cells] at hc;subst hc
    simp [Cell.name] at hn;subst hn
    exact⟨_,kv⟩
   constructor
   ·refine⟨p4 hcl.E dw Yq,?_⟩
    intro n x hc
    by_cases e:n=nm
    ·subst e
     simp only [gf] at hc ⊢
     rw [kv] at hc
     cases hc
     intro c hc;cases hc
    ·simp only [gf] at hc ⊢
     rw [bp _ (Ne.symm e)] at hc
     exact(hcl.H n x hc).mono dw
   intro ρ a w bC K Q hK
   obtain⟨row,e,hr,q1,q2⟩:=j7 ρ a w bC
   obtain⟨o1,o2,_⟩:=VU (cap:=len) bC.own hC h2 du hG hL q1 q2
   unfold Oper.wp
   rw [hr]
   refine hK _ _ ⟨⟨_,?_,o1,o2⟩,by cases o.dst<;>rfl⟩
   have:=bC.em.put (ρ':=ρ.set nm ⟨w.heap.size,0,len+1⟩ fun k=>k=w.heap.size) hd hcl.E o2.jV (.v (.c (.vs nm 0 len es false)))
   have hv:(SV.v (.c (.vs nm 0 len es false))).aq (ρ.set nm ⟨w.heap.size,0,len+1⟩ fun k=>k=w.heap.size)=.slice (some ⟨w.heap.size,0,none⟩) len len:=CT
   rw [hv] at this
   exact this
  ·cases h
 ·cases h
theorem iT {ev:Operand->Value} {o:Oper} {t:TypeId} {x:Operand} {lo hi mx:Option Operand} {w:World} (ho:o.op=.slice t x lo hi mx) {e:TypeId} {i:TypeInfo} (hu:P.underlying t=some (.slice e)) (hi':P.info? e=some i)
 {a:Option Addr} {len cap l h m:Nat} (hx:ev x=.slice a len cap)
 (hb:(Instr.sliceBounds true len cap (lo.map ev) (hi.map ev) (mx.map ev)).run P w=.ok (l,h,m) w) :
 (execOp ev o).run P w=.ok (.value (sliced a l h m i.size)) w:=by
 obtain⟨dst,op,ty,I5,after,guard⟩:=o
 simp only at ho
 subst ho
 have hel:P.elem t=e:=by simp [Program.elem,hu]
 have hu':P.underlying t=some (.slice (P.elem t)):=by rw [hel];exact hu
 simp [execOp,hx,run_sliceAt_slice w t _ _ _ _ hu',run_slice_any w t a len cap hu',hb,Result.andThen,sizeOf,typeInfo,hel,hi']
theorem Ij {ev:Operand->Option SV} {d n:Nat} {x:Operand} (h:Cg ev d (some x)=some n):∃k,ev x=some (.v (.c (.il k (n:Int)))):=by
 simp only [Cg] at h
 split at h
 ·rename_i k m hx
  split at h
  ·rename_i h0
   cases h
   refine⟨k,?_⟩
   rw [hx,Int.toNat_of_nonneg (aaV h0)]
  ·cases h
 ·cases h
theorem DD {ev:Operand->Option SV} {t:TypeId} {x:Operand} {lo hi mx:Option Operand} {p:SPt} (h:Bx ev (.slice t x lo hi mx)=some p) :
 mx=none /\ p.t=t /\ ev x=some (.v (.c (.vs p.n p.o p.len p.es true))) /\ Cg ev 0 lo=some p.l /\ Cg ev p.len hi=some p.h /\ p.l < p.h /\ p.h<=p.len:=by
 simp only [Bx] at h
 split at h
 ·cases h
 ·split at h
  ·rename_i n o len es hx
   split at h
   ·rename_i l hh h1 h2
    split at h
    ·rename_i h3 h4
     cases h
     exact⟨rfl,rfl,hx,h1,h2,(fw _ _).1 h3,adI h4⟩
    ·cases h
   ·cases h
  ·cases h
theorem y4 {H:Hp AV} {p:SPt} {r:SV×Option (Nat×aG AV)} (h:(CE N H p).val=some r):r=(.v (.c (.vs p.n (p.o+p.l) (p.h - p.l) p.es true)),none) /\
 ∃si lst ty,N.sl.get p.t=some si /\ ae H p.n=some (.kD lst p.es ty) /\ p.es=si.size /\ (p.o+p.len) * p.es<=lst.length:=by
 unfold CE at h
 split at h
 ·rename_i si lst es2 ty h1 h2
  split at h
  ·rename_i h3 h4 h5
   simp only [T.val,aaC] at h
   have h4:=(aC _ _).1 h4
   exact⟨h.symm,si,lst,ty,h1,by rw [h2,h4],(aC _ _).1 h3,adI h5⟩
  ·cases h
 ·cases h
theorem TZ {ρ:Nm} {H:Hp AV} {w:World} (hO:eZ N ρ H w) {es n m:Nat} {l:List Cell} {ty:TypeId} (Jz:0 < es) (h:ae H n=some (.kD l es ty)) (hle:m * es<=l.length):m<=(ρ.L n).c - 1:=by
 rcases hO.q n _ h with⟨_,Xs,_⟩ | ⟨_,_,row,_,_,hc,_⟩
 ·have Xs:aA ρ l=[]:=Xs
  have:l.length=0:=by have:=congrArg List.length Xs;simpa [aA] using this
  have h0:m * es=0:=by omega
  rcases Nat.mul_eq_zero.1 h0 with h0 | h0<;>omega
 ·have hc:(aA ρ l).length<=((ρ.L n).c - 1) * es:=hc
  simp only [aA,agR] at hc
  exact Nat.le_of_mul_le_mul_right (abL hle hc) Jz
theorem WJ (hT:fD P N) {nt L nm:Nat} {o:Oper} {s:St AV} {r:SV×Option (Nat×aG AV)} (h:(kP N nm (qP N.G s.H s.E) s.H o.op).val=some r) (hcl:bH N s) (hL:L<=nm) (hd:∀d,o.dst=some d->d < nt) :
 bH N {E:=jY s.E o.dst r.1,H:=gf s.H r.2} /\
 ∀{ρ:Nm} {a:Act} {w:World},At N nt ρ s a w->∀{K:Act->World->Prop} {Q:Exit->Act->World->Prop},
   (∀a' w',oB N nt L ρ s w a {E:=jY s.E o.dst r.1,H:=gf s.H r.2} a' w'->K a' w')->o.wp P a w K Q:=by
 have hC:=we hcl
 unfold kP at h
 split at h
 ·-- looks at no memory
  rename_i t ht
  rw [T.fR] at h
  obtain⟨v,hv,rfl⟩:=abu.1 h
  have cl:fh s.H v:=by
   have dy:Gg Nm.id s.H (qP N.G s.H s.E) (fun x=>match qP N.G s.H s.E x with | some v=>v.aq Nm.id | none=>undef) :=
    ⟨fun x v hx=>by simp [hx],fun x v hx=>xQ hcl hx⟩
   exact(DC (P:=P) hT dy (o:=o) ht hv default).2
  refine⟨⟨p4 hcl.E (fun n c h=>⟨c,h⟩) cl,hcl.H⟩,?_⟩
  intro ρ a w bC K Q hK
  have dy:=iU bC.em hcl bC.own.qW
  have hr:=(DC (P:=P) hT dy (o:=o) ht hv w).1
  unfold Oper.wp
  rw [hr]
  exact hK _ _ ⟨⟨ρ,bC.em.put hd hcl.E (fun _ _ _=>rfl) v,bC.own,iZ.refl _ _ _ _⟩,by cases o.dst<;>rfl⟩
 ·split at h
  ·-- alloc
   rename_i t oA
   split at h
   ·rename_i kd sz z fl h1 h2 h3 h4
    cases h
    have du:=(fw _ _).1 h3
    have hG:=(jo _ _).1 h4
    obtain⟨v0,hz,hzc,Jr⟩:=yo hT h1 rfl Nm.id
    have B8:mL s.H z:=iz Jr
    have dw:∀n c,ae s.H n=some c->∃c',ae (cV s.H nm (some (.cells z t))) n=some c':=fun n c h=>⟨c,by rw [bp _ (fun e=>by subst e;rw [h2] at h;cases h)];exact h⟩
    have kv:=cg (H:=s.H) (.cells z t) du
    have Yq:fh (cV s.H nm (some (.cells z t))) (.v (.c (.ptr nm 0))):=by
     intro c hc n hn
     simp [V1.cells] at hc;subst hc
     simp [Cell.name] at hn;subst hn
     exact⟨_,kv⟩
    constructor
    ·refine⟨p4 hcl.E dw Yq,?_⟩
     ·intro n x hc
      by_cases e:n=nm
      ·subst e
       simp only [gf] at hc ⊢
       rw [kv] at hc
       cases hc
       exact B8.mono dw
      ·simp only [gf] at hc ⊢
       rw [bp _ (Ne.symm e)] at hc
       exact(hcl.H n x hc).mono dw
    intro ρ a w bC K Q hK
    obtain⟨v0,hz,hzc,_⟩:=yo hT h1 rfl ρ
    obtain⟨o1,o2,_⟩:=GO bC.own hC h2 du hG t B8 hL
    have hr:(execOp a.eval o).run P w=.ok (.value (.pointer (some ⟨w.heap.size,0,none⟩))) (w.alloc (.cells (aA ρ z).toArray t)):=by
     obtain⟨dst,op,ty,I5,after,guard⟩:=o
     simp only at oA
     subst oA
     have Xd:v0.cells=(aA ρ z).toArray:=by rw [<- hzc]
     simp [execOp,Instr.alloc,hz,newVar,newRow,newObj,Sem.run,Xd]
    unfold Oper.wp
    rw [hr]
    refine hK _ _ ⟨⟨_,?_,o1,o2⟩,by cases o.dst<;>rfl⟩
    have:=bC.em.put (ρ':=ρ.set nm ⟨w.heap.size,0,0⟩ fun _=>False) hd hcl.E o2.jV (.v (.c (.ptr nm 0)))
    simpa [SV.aq,V1.aq,Cell.aq,Nm.f,Nm.set] using this
   ·cases h
  ·-- box
   rename_i t x oA
   split at h
   ·rename_i v h1 h2 h3 h4
    cases h
    have du:=(fw _ _).1 h3
    have hG:=(jo _ _).1 h4
    have Xf:mL s.H v.cells:=xQ hcl h1
    have dw:∀n c,ae s.H n=some c->∃c',ae (cV s.H nm (some (.cells v.cells t))) n=some c':=fun n c h=>⟨c,by rw [bp _ (fun e=>by subst e;rw [h2] at h;cases h)];exact h⟩
    have kv:=cg (H:=s.H) (.cells v.cells t) du
    have Yq:fh (cV s.H nm (some (.cells v.cells t))) (.v (.c (.ptr nm 0))):=by
     intro c hc n hn
     simp [V1.cells] at hc;subst hc
     simp [Cell.name] at hn;subst hn
     exact⟨_,kv⟩
    constructor
    ·refine⟨p4 hcl.E dw Yq,?_⟩
     ·intro n x hc
      by_cases e:n=nm
      ·subst e
       simp only [gf] at hc ⊢
       rw [kv] at hc
       cases hc
       exact Xf.mono dw
      ·simp only [gf] at hc ⊢
       rw [bp _ (Ne.symm e)] at hc
       exact(hcl.H n x hc).mono dw
    intro ρ a w bC K Q hK
    have dy:=iU bC.em hcl bC.own.qW
    obtain⟨o1,o2,_⟩:=GO bC.own hC h2 du hG t Xf hL
    have hr:(execOp a.eval o).run P w=.ok (.value (.pointer (some ⟨w.heap.size,0,none⟩))) (w.alloc (.cells (aA ρ v.cells).toArray t)):=by
     obtain⟨dst,op,ty,I5,after,guard⟩:=o
     simp only at oA
     subst oA
     have ard:(v.aq ρ).cells=(aA ρ v.cells).toArray:=by rw [<- V1.nH ρ v]
     simp [execOp,Instr.box,dy.aq _ _ h1,SV.aq,newVar,newRow,newObj,Sem.run,ard]
    unfold Oper.wp
    rw [hr]
    refine hK _ _ ⟨⟨_,?_,o1,o2⟩,by cases o.dst<;>rfl⟩
    have:=bC.em.put (ρ':=ρ.set nm ⟨w.heap.size,0,0⟩ fun _=>False) hd hcl.E o2.jV (.v (.c (.ptr nm 0)))
    simpa [SV.aq,V1.aq,Cell.aq,Nm.f,Nm.set] using this
   ·cases h
  ·-- load
   rename_i t x oA
   split at h
   ·rename_i p h1
    rw [T.fR] at h
    obtain⟨v,hv,rfl⟩:=abu.1 h
    have cl:fh s.H v:=by
     unfold Ea at hv
     split at hv
     ·split at hv
      ·rename_i hn
       obtain⟨x',hx,rfl⟩:=nP hv
       exact jO hx (hcl.H _ _ hn)
      ·rename_i a hn
       split at hv
       ·rename_i l hw
        obtain⟨x',hx,rfl⟩:=nP hv
        exact jO hx (iz fun c hc=>N.F.vp _ _ hw c hc)
       ·cases hv
      ·cases hv
     ·split at hv
      ·rename_i a hn
       split at hv
       ·rename_i t' ht
        unfold afU at ht
        split at ht
        ·rename_i i hi
         split at ht
         ·rename_i b l hp
          cases ht
          obtain⟨rfl,hv⟩:=fN hv
          obtain⟨x',hx,rfl⟩:=nP hv
          have Jt:rF N t l 0=some x':=by unfold rF;rw [hi];exact hx
          exact jO Jt (iz fun c hc=>N.F.Aa _ _ _ _ _ _ hp c hc)
         ·cases ht
        ·cases ht
       split at hv
       ·rename_i b l hr
        obtain⟨rfl,hv⟩:=fN hv
        obtain⟨x',hx,rfl⟩:=nP hv
        refine jO hx (iz fun c hc=>?_)
        exact N.F.ud _ _ _ _ hr c hc
       ·cases hv
      ·rename_i hn
       obtain⟨x',hx,rfl⟩:=nP hv
       exact jO hx (hcl.H _ _ hn)
      ·cases hv
     ·cases hv
    refine⟨⟨p4 hcl.E (fun n c h=>⟨c,h⟩) cl,hcl.H⟩,?_⟩
    intro ρ a w bC K Q hK
    have dy:=iU bC.em hcl bC.own.qW
    have hr:=(WC (P:=P) hT bC.own hC hv).1
    have Oj:(execOp a.eval o).run P w=.ok (.value (v.aq ρ)) w:=by
     obtain⟨dst,op,ty,I5,after,guard⟩:=o
     simp only at oA
     subst oA
     simp only [execOp,abA,dy.aq _ _ h1,hr,abz,abC]
    unfold Oper.wp
    rw [Oj]
    exact hK _ _ ⟨⟨ρ,bC.em.put hd hcl.E (fun _ _ _=>rfl) v,bC.own,iZ.refl _ _ _ _⟩,by cases o.dst<;>rfl⟩
   ·cases h
  ·-- store
   rename_i t x y oA
   split at h
   ·rename_i n off v h1 h2
    split at h
    ·rename_i l ty i h3 h4
     split at h
     ·rename_i h5
      split at h
      ·rename_i l' h6
       cases h
       have h5:=(aC _ _).1 h5
       have Xf:mL s.H v.cells:=xQ hcl h2
       have AM:mL s.H l':=by
        intro c hc
        rw [(lput_eq h6).1] at hc
        rcases aec.1 hc with hc | hc
        ·rcases aec.1 hc with hc | hc
         ·exact hcl.H n _ h3 c (List.mem_of_mem_take hc)
         ·exact Xf c hc
        ·exact hcl.H n _ h3 c (List.mem_of_mem_drop hc)
       have kv:=cg (H:=s.H) (.cells l' ty) (bQ h3)
       have dw:∀m c,ae s.H m=some c->∃c',ae (cV s.H n (some (.cells l' ty))) m=some c':=fun m c h=>by
        by_cases e:m=n
        ·subst e;exact⟨_,kv⟩
        ·exact⟨c,by rw [bp _ (Ne.symm e)];exact h⟩
       constructor
       ·refine⟨p4 hcl.E dw (mf _),?_⟩
        ·intro m x2 hc
         simp only [gf] at hc ⊢
         by_cases e:m=n
         ·subst e
          rw [kv] at hc
          cases hc
          exact AM.mono dw
         ·rw [bp _ (Ne.symm e)] at hc
          exact(hcl.H m x2 hc).mono dw
       intro ρ a w bC K Q hK
       have dy:=iU bC.em hcl bC.own.qW
       obtain⟨o1,o2,_⟩:=RV bC.own hC h3 AM L
       have hr:=Rq (P:=P) (v:=v) hT bC.own h3 h4 h5 h6
       have Oj:(execOp a.eval o).run P w=.ok .skip (w.setRow (ρ n) (aA ρ l').toArray):=by
        obtain⟨dst,op,ty,I5,after,guard⟩:=o
        simp only at oA
        subst oA
        simp only [execOp,abA,dy.aq _ _ h1,dy.aq _ _ h2,SV.aq,V1.aq,Cell.aq]
        erw [hr]
        rfl
       unfold Oper.wp
       rw [Oj]
       exact hK _ _ ⟨⟨ρ,bC.em.put hd hcl.E (fun _ _ _=>rfl) dQ,o1,o2⟩,by cases o.dst<;>rfl⟩
      ·cases h
     ·cases h
    ·cases h
   ·-- an aoK element
    rename_i n idx es off v h1 h2
    have Xf:mL s.H v.cells:=xQ hcl h2
    have shut:∀ck JP:aG AV,ae s.H n=some ck->mL s.H JP.cellsOf->bH N {E:=jY s.E o.dst dQ,H:=gf s.H (some (n,JP))}:=by
     intro ck JP h3 AM
     have kv:=cg (H:=s.H) JP (bQ h3)
     have dw:∀m c,ae s.H m=some c->∃c',ae (cV s.H n (some JP)) m=some c':=fun m c h=>by
      by_cases e:m=n
      ·subst e;exact⟨_,kv⟩
      ·exact⟨c,by rw [bp _ (Ne.symm e)];exact h⟩
     refine⟨p4 hcl.E dw (mf _),?_⟩
     intro m x2 hc
     simp only [gf] at hc ⊢
     by_cases e:m=n
     ·subst e
      rw [kv] at hc
      cases hc
      exact AM.mono dw
     ·rw [bp _ (Ne.symm e)] at hc
      exact(hcl.H m x2 hc).mono dw
    split at h
    ·rename_i l ve ty i h3 h4
     split at h
     ·rename_i h5
      have h5:=(aC _ _).1 h5
      split at h
      ·cases h
      rename_i h50
      have h50:=(bE _ _).1 h50
      split at h
      ·rename_i l' h6
       cases h
       obtain⟨e1,e2⟩:=lput_eq h6
       have AM:mL s.H l':=by
        intro c hc
        rw [e1] at hc
        rcases aec.1 hc with hc | hc
        ·rcases aec.1 hc with hc | hc
         ·exact hcl.H n _ h3 c (List.mem_of_mem_take hc)
         ·exact Xf c hc
        ·exact hcl.H n _ h3 c (List.mem_of_mem_drop hc)
       refine⟨shut _ (.kD l' ve ty) h3 AM,?_⟩
       intro ρ a w bC K Q hK
       have dy:=iU bC.em hcl bC.own.qW
       have hq:=bC.own.q n _ h3
       rcases hq with⟨_,h0,_⟩ | ⟨q1,q2,row,q3,q4,q5,q6⟩
       ·have Ty:l=[]:=by simpa [aA] using h0
        subst Ty
        have e2':idx * es+off+v.cells.length<=0:=e2
        omega
       ·have hll:l.length<=((ρ.L n).c - 1) * ve:=by simpa [aA] using q5
        have hr:=yr (P:=P) (ρ:=ρ) (off:=(ρ.L n).o+(idx * es+off)) (v:=v) hT q3 h4 h5 (by omega)
        have hlen:l'.length=l.length:=by rw [e1];simp;omega
        obtain⟨o1,o2,_⟩:=Ac bC.own hC h3 (JP:=.kD l' ve ty) AM L (row:=(row.take ((ρ.L n).o+(idx * es+off))++(aA ρ v.cells++row.drop ((ρ.L n).o+(idx * es+off)+v.cells.length))).toArray) ((q2 _).2 rfl) (fun _ h=>h) (by
         refine .inr ⟨q1,q2,_,setRow_heap w (ρ n) _ _ ty (0,0) q3,?_,?_,?_⟩
         ·simp [ee];omega
         ·rw [ee,hlen];exact hll
         ·intro j u hj
          rw [e1] at hj
          simp only [aA,aen,List.map_take,List.map_drop] at hj
          have hlr:(ρ.L n).o+l.length<=row.length:=by omega
          rw [acC] at hj
          have:=NF row (aA ρ l) (aA ρ v.cells) (ρ.L n).o (idx * es+off) j u (by simpa [aA] using hlr) (by simpa [aA] using e2) q6 (by simpa [aA] using hj)
          simpa [ee] using this)
        have Oj:(execOp a.eval o).run P w=.ok .skip (w.setRow (ρ n) (row.take ((ρ.L n).o+(idx * es+off))++(aA ρ v.cells++row.drop ((ρ.L n).o+(idx * es+off)+v.cells.length))).toArray):=by
         obtain⟨dst,op,ty,I5,after,guard⟩:=o
         simp only at oA
         subst oA
         have e0:(ρ.L n).o+idx * es+off=(ρ.L n).o+(idx * es+off):=by omega
         simp only [execOp,abA,dy.aq _ _ h1,dy.aq _ _ h2,SV.aq,V1.aq,Cell.aq,e0]
         erw [hr]
         rfl
        unfold Oper.wp
        rw [Oj]
        exact hK _ _ ⟨⟨ρ,bC.em.put hd hcl.E (fun _ _ _=>rfl) dQ,o1,o2⟩,by cases o.dst<;>rfl⟩
      ·cases h
     ·cases h
    ·rename_i a i h3 h4
     split at h
     ·rename_i h5
      have h5:=(aC _ _).1 h5
      split at h
      ·rename_i b a' h6
       obtain⟨rfl,h⟩:=fN h
       cases h
       refine⟨shut _ (.bI a') h3 (by intro c hc;cases hc),?_⟩
       intro ρ act w bC K Q hK
       have dy:=iU bC.em hcl bC.own.qW
       have hq:N.F.q a (ρ.L n) (ρ.S n) w:=bC.own.q n _ h3
       obtain⟨u1,u2,row,ty,u3,u4,u5⟩:=N.F.mY a (ρ.L n) (ρ.S n) w idx es off v.cells a' hq h6
       have Oq:aA ρ v.cells=aA Nm.id v.cells:=by
        unfold aA
        apply ad7
        intro c hc
        exact b4 c fun m hm=>by rw [u1 c hc] at hm;cases hm
       have hr:=yr (P:=P) (ρ:=ρ) (off:=(ρ.L n).o+idx * es+off) (v:=v) hT u3 h4 h5 u4
       rw [Oq] at hr
       obtain⟨o1,o2,_⟩:=Ac bC.own hC h3 (JP:=.bI a') (by intro c hc;cases hc) L u2 (fun _ h=>h) u5
       have Oj:(execOp act.eval o).run P w=.ok .skip (w.setRow (ρ n) (row.take ((ρ.L n).o+idx * es+off)++(aA Nm.id v.cells++row.drop ((ρ.L n).o+idx * es+off+v.cells.length))).toArray):=by
        obtain⟨dst,op,ty,I5,after,guard⟩:=o
        simp only at oA
        subst oA
        simp only [execOp,abA,dy.aq _ _ h1,dy.aq _ _ h2,SV.aq,V1.aq,Cell.aq]
        erw [hr]
        rfl
       unfold Oper.wp
       rw [Oj]
       exact hK _ _ ⟨⟨ρ,bC.em.put hd hcl.E (fun _ _ _=>rfl) dQ,o1,o2⟩,by cases o.dst<;>rfl⟩
      ·cases h
     ·cases h
    ·cases h
   ·cases h
  ·-- make
   rename_i t x y oA
   unfold y5 at h
   split at h
   ·rename_i awe amy
    refine YQ (P:=P) h hcl hL hd fun fW F9=>?_
    rw [<- amy] at F9
    obtain⟨_,_,_,_,_,_,tH,_⟩:=Lo (P:=P) hT F9 default Nm.id
    refine⟨iz tH,fun ρ act w bC=>?_⟩
    obtain⟨kl,kc,n,c,h1,h2,_,row,cap,hr,q⟩:=Lo (P:=P) hT F9 w ρ
    have dy:=iU bC.em hcl bC.own.qW
    refine⟨row,cap,?_,q⟩
    obtain⟨dst,op,ty,I5,after,guard⟩:=o
    simp only at oA
    subst oA
    simp only [execOp,dy.aq _ _ h1,dy.aq _ _ h2,SV.aq,V1.aq,Cell.aq,abA,hr,abz,abC]
   ·refine ah9 (P:=P) hT h hcl hL hd fun g es len hz ρ act w bC=>?_
    obtain⟨vx,vy,kl,kc,n,c,h1,h2,d1,d2,row,e,hr,q⟩:=VW (P:=P) hT hz w
    have dy:=iU bC.em hcl bC.own.qW
    refine⟨row,e,?_,q⟩
    obtain⟨dst,op,ty,I5,after,guard⟩:=o
    simp only at oA
    subst oA
    simp only [execOp,dy.aq _ _ h1,dy.aq _ _ h2,SV.aq,V1.aq,d1,d2,abA,hr,abz,abC]
  ·-- the YF of a slice
   rename_i t len parts oA
   refine YQ (P:=P) h hcl hL hd fun fW F9=>?_
   have aq0:Gg Nm.id s.H (qP N.G s.H s.E) (fun x=>match qP N.G s.H s.E x with | some v=>v.aq Nm.id | none=>undef) :=
    ⟨fun x v hx=>by simp [hx],fun x v hx=>xQ hcl hx⟩
   refine⟨(E7 (P:=P) hT aq0 F9 default).1,fun ρ act w bC=>?_⟩
   have dy:=iU bC.em hcl bC.own.qW
   obtain⟨_,row,cap,hr,q⟩:=E7 (P:=P) hT dy F9 w
   refine⟨row,cap,?_,q⟩
   obtain⟨dst,op,ty,I5,after,guard⟩:=o
   simp only at oA
   subst oA
   simp only [execOp,abA]
   erw [hr]
   rfl
  ·-- a part of a known slice
   rename_i t x lo hi mx oA
   split at h
   ·rename_i p hp
    obtain⟨rfl,ht,hx,hlo,hhi,du,hle⟩:=DD hp
    obtain⟨rfl,si,lst,ty,hs,hn,Jz,hfit⟩:=y4 h
    obtain⟨hu,i,z,Xy,_,e1,_,fq,_⟩:=jZ (hT.sl _ si hs)
    have Yq:fh s.H (.v (.c (.vs p.n (p.o+p.l) (p.h - p.l) p.es true))):=by
     intro c hc m hm
     simp [V1.cells] at hc;subst hc
     simp [Cell.name] at hm;subst hm
     exact⟨_,hn⟩
    refine⟨⟨p4 hcl.E (fun n c h=>⟨c,h⟩) Yq,hcl.H⟩,?_⟩
    intro ρ a w bC K Q hK
    have dy:=iU bC.em hcl bC.own.qW
    have hf:=TZ bC.own (by omega) hn hfit
    have hxd:a.eval x=.slice (some ⟨ρ p.n,(ρ.L p.n).o+p.o * p.es,none⟩) p.len ((ρ.L p.n).c - 1 - p.o):=by
     rw [dy.aq _ _ hx]
     show bN (ρ.L p.n) p.o p.len p.es=_
     unfold bN
     rw [if_neg (by omega)]
    have hb:(Instr.sliceBounds true p.len ((ρ.L p.n).c - 1 - p.o) (lo.map a.eval) (hi.map a.eval) (none:Option Value)).run P w=.ok (p.l,p.h,(ρ.L p.n).c - 1 - p.o) w:=by
     have b1:∀y:Operand,lo=some y->∃k,a.eval y=.int k (p.l:Int):=fun y hy=>by
      subst hy
      obtain⟨k,hk⟩:=Ij hlo
      exact⟨k,by rw [dy.aq _ _ hk];rfl⟩
     have b2:∀y:Operand,hi=some y->∃k,a.eval y=.int k (p.h:Int):=fun y hy=>by
      subst hy
      obtain⟨k,hk⟩:=Ij hhi
      exact⟨k,by rw [dy.aq _ _ hk];rfl⟩
     have c1:p.h<=(ρ.L p.n).c - 1 - p.o:=by omega
     have c2:p.l<=p.h:=by omega
     cases lo with
     | none =>
       simp only [Cg,aaC] at hlo
       cases hi with
       | none =>
         simp only [Cg,aaC] at hhi
         simp [Instr.sliceBounds,<- hhi,<- hlo,run_sliceBound]
       | some y =>
         obtain⟨k,hk⟩:=b2 y rfl
         simp [Instr.sliceBounds,hk,run_sliceBound,c1,<- hlo]
     | some y =>
       obtain⟨k,hk⟩:=b1 y rfl
       cases hi with
       | none =>
         simp only [Cg,aaC] at hhi
         simp [Instr.sliceBounds,hk,run_sliceBound,hhi,c2]
       | some y2 =>
         obtain⟨k2,hk2⟩:=b2 y2 rfl
         simp [Instr.sliceBounds,hk,hk2,run_sliceBound,c1,c2]
    have hr:=iT (P:=P) (ev:=a.eval) (o:=o) (w:=w) oA (by rw [<- ht];exact hu) Xy hxd hb
    unfold Oper.wp
    rw [hr]
    refine hK _ _ ⟨⟨ρ,?_,bC.own,iZ.refl _ _ _ _⟩,by cases o.dst<;>rfl⟩
    have:=bC.em.put (ρ':=ρ) hd hcl.E (fun _ _ _=>rfl) (.v (.c (.vs p.n (p.o+p.l) (p.h - p.l) p.es true)))
    have hv:(SV.v (.c (.vs p.n (p.o+p.l) (p.h - p.l) p.es true))).aq ρ=sliced (some ⟨ρ p.n,(ρ.L p.n).o+p.o * p.es,none⟩) p.l p.h ((ρ.L p.n).c - 1 - p.o) i.size:=by
     simp only [SV.aq,V1.aq,Cell.aq,bN,sliced]
     have z1:¬(p.h - p.l=0 /\ (ρ.L p.n).c=0):=fun h=>by omega
     have z3:¬((ρ.L p.n).c - 1 - p.o=p.l):=by omega
     rw [if_neg z1,e1,<- Jz]
     by_cases q4:p.l=0
     ·simp [q4,Addr.add,Nm.f]
     ·have dA:p.l * p.es≠0:=Nat.mul_ne_zero q4 (by omega)
      rw [show (p.o+p.l) * p.es=p.o * p.es+p.l * p.es from aey _ _ _,show (ρ.L p.n).c - 1 - (p.o+p.l)=(ρ.L p.n).c - 1 - p.o - p.l by omega,<- aej]
      simp [Addr.add,dA,z3,Nm.f]
    rw [hv] at this
    exact this
   ·cases h
  ·cases h
end
section
variable {AV:Type} {P:Program} {N:dV AV}
theorem rP (R:List Nat):∀(H:Hp AV) (i n:Nat),ae (jD R i H) n=if hZ R (i+n)=true then ae H n else none
 | [],i,n=>by simp [jD,ae]
 | x::r,i,0=>by
   simp only [jD,ae,Nat.add_zero]
   cases hZ R i<;>simp
 | x::r,i,n+1=>by
   simp only [jD,ae]
   rw [rP R r (i+1) n]
   simp only [aej,Nat.add_comm 1 n]
theorem pL (R:List Nat):∀(H:Hp AV) (i:Nat),(jD R i H).length=H.length
 | [],_=>rfl
 | _::r,i=>by simp [jD,pL R r (i+1)]
theorem pn:∀{A B:Hp AV},wW A B=true->A.length<=B.length /\ (∀n c,ae A n=some c->∃c',ae B n=some c') /\ (∀n,n < A.length->ae A n=none->ae B n=none)
 | [],B,_=>by simp [ae]
 | x::r,[],h=>by cases x<;>simp [wW] at h
 | none::r,none::q,h=>by
   simp only [wW] at h
   obtain⟨h1,h2,h3⟩:=pn h
   refine⟨by simp;exact h1,fun n c hc=>?_,fun n hn hc=>?_⟩
   ·cases n with
    | zero=>simp [ae] at hc
    | succ n=>exact h2 n c hc
   ·cases n with
    | zero=>rfl
    | succ n=>exact h3 n (by simpa using hn) hc
 | none::r,some y::q,h=>by simp [wW] at h
 | some x::r,none::q,h=>by simp [wW] at h
 | some x::r,some y::q,h=>by
   simp only [wW] at h
   obtain⟨h1,h2,h3⟩:=pn h
   refine⟨by simp;exact h1,fun n c hc=>?_,fun n hn hc=>?_⟩
   ·cases n with
    | zero=>exact⟨y,rfl⟩
    | succ n=>exact h2 n c hc
   ·cases n with
    | zero=>simp [ae] at hc
    | succ n=>exact h3 n (by simpa using hn) hc
theorem lN (R:List Nat):∀(H B:Hp AV) (i n:Nat),H.length<=B.length ->
 ae (di R i H B) n=if n < H.length then(match ae H n with | none=>none | some x=>if hZ R (i+n)=true then ae B n else some x) else ae B n
 | [],B,i,n,_=>by simp [di]
 | x::r,[],i,n,h=>by simp at h
 | none::r,y::q,i,0,_=>by simp [di,ae]
 | some x::r,y::q,i,0,_=>by
   simp only [di,ae,Nat.add_zero,abn,Nat.zero_lt_succ,if_true]
   cases hZ R i<;>simp
 | none::r,y::q,i,n+1,h=>by
   simp only [di,ae]
   rw [lN R r q (i+1) n (by simpa using h)]
   simp only [aej,Nat.add_comm 1 n,abn,Nat.add_lt_add_iff_right]
 | some x::r,y::q,i,n+1,h=>by
   simp only [di,ae]
   rw [lN R r q (i+1) n (by simpa using h)]
   simp only [aej,Nat.add_comm 1 n,abn,Nat.add_lt_add_iff_right]
theorem pr (R:List Nat):∀(H B:Hp AV) (i:Nat),H.length<=B.length->(di R i H B).length=B.length
 | [],B,_,_=>by simp [di]
 | x::r,[],i,h=>by simp at h
 | none::r,y::q,i,h=>by simp [di,pr R r q (i+1) (by simpa using h)]
 | some x::r,y::q,i,h=>by simp [di,pr R r q (i+1) (by simpa using h)]
def J0 (P:Program) (g:Tgt) (vs:List Value) (w:World) (K:Value->World->Prop):Prop :=
 match g with
 | .fn f=>Calls P f vs.toArray w fun e w'=>∃v,e=.returned v /\ K v w'
 | .op op=>∀(ev:Operand->Value) (o:Oper),o.op=op->op.operands.toList.map ev=vs->∃v w',((execOp ev o).run P w=.ok (.value v) w' \/ ((execOp ev o).run P w=.ok .skip w' /\ v=undef)) /\ K v w'
theorem J0.mono {P:Program} {g:Tgt} {vs:List Value} {w:World} {K K':Value->World->Prop} (h:J0 P g vs w K) (hk:∀v w',K v w'->K' v w'):J0 P g vs w K':=by
 cases g with
 | fn f=>exact Calls.mono h fun e w' ⟨v,he,hv⟩=>⟨v,he,hk v w' hv⟩
 | op o=>exact fun ev o' ho hv=>let ⟨v,w',h1,h2⟩:=h ev o' ho hv;⟨v,w',h1,hk v w' h2⟩
def gF (P:Program) (N:dV AV) (cP:Callee AV):Prop :=
 ∀(f:Tgt) (args:List SV) (H:Hp AV) (v:SV) (H':Hp AV),(cP f args H).val=some (v,H')->(∀x∈args,fh H x)->dM N H ->
   fh H' v /\ dM N H' /\ ∀(ρ:Nm) (w:World),eZ N ρ H w ->
    J0 P f (args.map (SV.aq ρ)) w fun e w'=>∃ρ',e=v.aq ρ' /\ eZ N ρ' H' w' /\ iZ N H.length ρ H w ρ' H' w'
theorem Mz {cP:Callee AV} (cH:gF P N cP) {gn:List Nat} {f:Tgt} {args:List SV} {H:Hp AV} {v:SV} {H':Hp AV} (h:(xf cP gn f args H).val=some (v,H')) (hC:dM N H) :
 fh H' v /\ dM N H' /\ (∀n c,ae H n=some c->∃c',ae H' n=some c') /\ ∀(ρ:Nm) (w:World),eZ N ρ H w ->
  J0 P f (args.map (SV.aq ρ)) w fun e w'=>∃ρ',e=v.aq ρ' /\ eZ N ρ' H' w' /\ iZ N H.length ρ H w ρ' H' w':=by
 unfold xf at h
 generalize km H 400 (iw args++gn) []=R at h
 simp only at h
 split at h
 ·cases h
 ·rename_i bM
  split at h
  ·cases h
  ·rename_i Hu
   obtain⟨⟨v',B⟩,hr,h⟩:=T.bf h
   simp only at h
   split at h
   ·cases h
   ·rename_i s8
    cases h
    obtain⟨hlen,hp1,hp2⟩:=pn s8
    rw [pL] at hlen
    have hA:∀n,ae (jD R 0 H) n=if hZ R n=true then ae H n else none:=fun n=>by rw [rP,abJ]
    have hM:∀n,ae (di R 0 H B) n=if n < H.length then(match ae H n with | none=>none | some x=>if hZ R n=true then ae B n else some x) else ae B n:=fun n=>by rw [lN _ _ _ _ _ hlen,abJ]
    have hCA:dM N (jD R 0 H):=by
     exact⟨jh.1 Hu,trivial⟩
    obtain⟨hv,hCB,AU⟩:=cH f args _ _ _ hr (p5.1 bM) hCA
    have seen:∀n c,ae B n=some c->n < H.length->hZ R n=true /\ ∃x,ae H n=some x:=by
     intro n c hc hn
     cases hAn:ae (jD R 0 H) n with
     | none =>
       have:=hp2 n (by rw [pL];exact hn) hAn
       rw [this] at hc;cases hc
     | some x =>
       rw [hA] at hAn
       split at hAn
       ·rename_i hs;exact⟨hs,x,hAn⟩
       ·cases hAn
    have toM:∀n c,ae B n=some c->ae (di R 0 H B) n=some c:=by
     intro n c hc
     rw [hM]
     by_cases hn:n < H.length
     ·obtain⟨hs,x,hx⟩:=seen n c hc hn
      rw [if_pos hn,hx]
      simp only [hs,if_true]
      exact hc
     ·rw [if_neg hn];exact hc
    have VO:∀n c,ae H n=some c->∃c',ae (di R 0 H B) n=some c':=by
     intro n c hc
     have hn:=bQ hc
     by_cases hs:hZ R n=true
     ·obtain⟨c',nC⟩:=hp1 n c (by rw [hA,if_pos hs];exact hc)
      exact⟨c',toM n c' nC⟩
     ·exact⟨c,by rw [hM,if_pos hn,hc];simp [hs]⟩
    have rq:∀n c,ae (di R 0 H B) n=some c->(ae B n=some c /\ ¬(n < H.length /\ ¬hZ R n=true)) \/ (ae H n=some c /\ n < H.length /\ ¬hZ R n=true):=by
     intro n c hc
     rw [hM] at hc
     split at hc
     ·rename_i hn
      split at hc
      ·cases hc
      ·rename_i x hx
       split at hc
       ·rename_i hs;exact .inl ⟨hc,fun h=>h.2 hs⟩
       ·rename_i hs;cases hc;exact .inr ⟨hx,hn,hs⟩
     ·rename_i hn;exact .inl ⟨hc,fun h=>hn h.1⟩
    have hCM:dM N (di R 0 H B):=by
     refine⟨fun n x hc=>?_,trivial⟩
     rcases rq n _ hc with⟨hb,_⟩ | ⟨hh,_⟩
     ·exact(hCB.1 n x hb).mono fun m c hm=>⟨c,toM m c hm⟩
     ·exact(hC.1 n x hh).mono VO
    refine⟨hv.mono fun m c hm=>⟨c,toM m c hm⟩,hCM,VO,?_⟩
    intro ρ w hO
    have hOA:eZ N ρ (jD R 0 H) w:=by
     have sub:∀n c,ae (jD R 0 H) n=some c->ae H n=some c:=fun n c hc=>by
      rw [hA] at hc
      split at hc
      ·exact hc
      ·cases hc
     exact hO.sub ⟨fun n c hc=>hO.q n c (sub n c hc),fun n m c d tH hc hd=>hO.qz n m c d tH (sub n c hc) (sub m d hd),hO.qW⟩ fun n c k hc hk=>⟨n,c,sub n c hc,hk⟩
    have sub:∀n c,ae (jD R 0 H) n=some c->ae H n=some c /\ hZ R n=true:=fun n c hc=>by
     rw [hA] at hc
     split at hc
     ·rename_i hs;exact⟨hc,hs⟩
     ·cases hc
    refine(AU ρ w hOA).mono ?_
    rintro e w₁ ⟨ρ₁,rfl,XJ,hE⟩
    let ρ':Nm:=⟨fun n=>if n < H.length /\ ¬hZ R n=true then ρ.L n else ρ₁.L n,fun n=>if n < H.length /\ ¬hZ R n=true then ρ.S n else ρ₁.S n⟩
    have hB2:∀n c,ae B n=some c->¬(n < H.length /\ ¬hZ R n=true):=fun n c hc ⟨hn,hs⟩=>hs (seen n c hc hn).1
    have hB':∀n c,ae B n=some c->ρ'.L n=ρ₁.L n:=fun n c hc=>if_neg (hB2 n c hc)
    have hBS:∀n c,ae B n=some c->ρ'.S n=ρ₁.S n:=fun n c hc=>if_neg (hB2 n c hc)
    have hH':∀n c,ae H n=some c->ρ'.L n=ρ.L n:=by
     intro n c hc
     show (if _ then _ else _)=_
     by_cases hs:hZ R n=true
     ·rw [if_neg (fun h=>h.2 hs)]
      exact hE.jV n c (by rw [hA,if_pos hs];exact hc)
     ·rw [if_pos ⟨bQ hc,hs⟩]
    have hHS:∀n c,ae H n=some c->¬hZ R n=true->ρ'.S n=ρ.S n:=fun n c hc hs=>if_pos ⟨bQ hc,hs⟩
    refine⟨ρ',by rw [SV.b4 hv hB'],hO.up2 ⟨⟨?_,?_,?_⟩,⟨VO,hH',?_,?_,?_,?_,hE.os,hE.tape,hE.output,hE.size⟩⟩⟩
    ·intro n c hc
     rcases rq n c hc with⟨hb,tC⟩ | ⟨hh,hn,hs⟩
     ·exact oF (XJ.q n c hb) (hB' n c hb) (hBS n c hb) (dF (hCB.1 n c hb) hB') (fun _ _=>rfl)
     ·refine oF (hO.q n c hh) (hH' n c hh) (hHS n c hh hs) (dF (hC.1 n c hh) hH') (fun k hk=>?_)
      refine hE.mE k (hO.lt hh hk) fun m d hd dW=>?_
      obtain⟨AR,Ql⟩:=sub m d hd
      exact hO.qz m n d c (fun e=>hs (e▸Ql)) AR hh k dW hk
    ·intro n m c d tH hc hd k hk dW
     rcases rq n c hc with⟨hb,_⟩ | ⟨hh,hn,hs⟩
     ·rw [cQ (hB' n c hb) (hBS n c hb)] at hk
      rcases rq m d hd with⟨XG,_⟩ | ⟨hh2,hn2,hs2⟩
      ·rw [cQ (hB' m d XG) (hBS m d XG)] at dW
       exact XJ.qz n m c d tH hb XG k hk dW
      ·rw [cQ (hH' m d hh2) (hHS m d hh2 hs2)] at dW
       rcases hE.new n c k hb hk with h1 | ⟨q,x,hq,hkq⟩
       ·have:=hO.lt hh2 dW;omega
       ·obtain⟨hq',hsq⟩:=sub q x hq
        exact hO.qz q m x d (fun e=>hs2 (e▸hsq)) hq' hh2 k hkq dW
     ·rw [cQ (hH' n c hh) (hHS n c hh hs)] at hk
      rcases rq m d hd with⟨XG,_⟩ | ⟨hh2,hn2,hs2⟩
      ·rw [cQ (hB' m d XG) (hBS m d XG)] at dW
       rcases hE.new m d k XG dW with h1 | ⟨q,x,hq,hkq⟩
       ·have:=hO.lt hh hk;omega
       ·obtain⟨hq',hsq⟩:=sub q x hq
        exact hO.qz q n x c (fun e=>hs (e▸hsq)) hq' hh k hkq hk
      ·rw [cQ (hH' m d hh2) (hHS m d hh2 hs2)] at dW
       exact hO.qz n m c d tH hh hh2 k hk dW
    ·intro g hg
     show (if _ then _ else _:l8).b=_
     split
     ·exact hO.qW g hg
     ·exact XJ.qW g hg
    ·intro n hn hh
     rw [hM,if_pos hn,hh]
    ·rw [pr _ _ _ _ hlen];exact hlen
    ·intro k hk tC
     exact hE.mE k hk fun m d hd dW=>tC m d (sub m d hd).1 dW
    ·intro n c k hc hk
     rcases rq n c hc with⟨hb,_⟩ | ⟨hh,_,hs⟩
     ·rw [cQ (hB' n c hb) (hBS n c hb)] at hk
      rcases hE.new n c k hb hk with h1 | ⟨q,x,hq,hkq⟩
      ·exact .inl h1
      ·exact .inr ⟨q,x,(sub q x hq).1,hkq⟩
     ·rw [cQ (hH' n c hh) (hHS n c hh hs)] at hk
      exact .inr ⟨n,c,hh,hk⟩
theorem iZ.xo {L L':Nat} {ρ ρ':Nm} {H H':Hp AV} {w w':World} (h:iZ N L ρ H w ρ' H' w') (hL:L'<=L):iZ N L' ρ H w ρ' H' w' :=
 ⟨h.dw,h.jV,fun n hn=>h.GY n (Nat.lt_of_lt_of_le hn hL),h.len,h.mE,h.new,h.os,h.tape,h.output,h.size⟩
theorem Tg {cP:Callee AV} {G:List Nat} {f:Tgt} {args:List SV} {H:Hp AV} {v:SV} {H':Hp AV} (h:(xf cP G f args H).val=some (v,H')):H.length<=H'.length:=by
 unfold xf at h
 simp only at h
 split at h
 ·cases h
 ·split at h
  ·cases h
  ·obtain⟨⟨v',B⟩,hr,h⟩:=T.bf h
   simp only at h
   split at h
   ·cases h
   ·rename_i s8
    cases h
    obtain⟨hlen,_⟩:=pn s8
    rw [pL] at hlen
    rw [pr _ _ _ _ hlen];exact hlen
theorem Nv {cP:Callee AV} {nm:Nat} {o:Oper} {s s':St AV} (h:(m4 N cP nm o s).val=some s'):s.H.length<=s'.H.length:=by
 unfold m4 at h
 split at h
 ·obtain⟨⟨v,H'⟩,hr,h⟩:=T.bf h
  cases h
  exact Tg hr
 ·cases h
 ·obtain⟨r,hr,h⟩:=T.bf h
  cases h
  show s.H.length<=(gf s.H r.2).length
  cases r.2 with
  | none=>exact abV _
  | some p=>simp [gf,ec]
theorem Pv (ρ:Nm):∀cs:List Cell,(svs cs).map (SV.aq ρ)=aA ρ cs
 | []=>rfl
 | c::r=>by rw [svs,abv,Pv ρ r];rfl
theorem Rs (hT:fD P N) {cP:Callee AV} (cH:gF P N cP) {nt L nm:Nat} {o:Oper} {s s':St AV} (h:(m4 N cP nm o s).val=some s') (hcl:bH N s) (hL:L<=nm) (hH:L<=s.H.length) (hd:∀d,o.dst=some d->d < nt) :
 bH N s' /\
 ∀{ρ:Nm} {a:Act} {w:World},At N nt ρ s a w->∀{K:Act->World->Prop} {Q:Exit->Act->World->Prop},
   (∀a' w',oB N nt L ρ s w a s' a' w'->K a' w')->o.wp P a w K Q:=by
 unfold m4 at h
 split at h
 ·-- a call
  rename_i g l iG
  obtain⟨⟨v,H'⟩,hr,h⟩:=T.bf h
  cases h
  obtain⟨hv,hC',hp,AU⟩:=Mz (P:=P) cH hr (we hcl)
  refine⟨⟨p4 hcl.E hp hv,hC'.1⟩,?_⟩
  intro ρ a w bC K Q hK
  have dy:=iU bC.em hcl bC.own.qW
  unfold qB at iG
  split at iG
  ·-- an operation of more than one step
   simp only [aaC] at iG
   split at iG
   ·rename_i l' h2
    cases iG
    have bM:=(rQ dy h2).1
    obtain⟨v',w',j7,ρ',rfl,LZ,M3⟩:=AU ρ w bC.own a.eval o rfl bM
    unfold Oper.wp
    rcases j7 with j7 | ⟨j7,hu⟩
    ·rw [j7]
     exact hK _ _ ⟨⟨ρ',bC.em.put hd hcl.E M3.jV v,LZ,M3.xo hH⟩,by cases o.dst<;>rfl⟩
    ·rw [j7,Oper.upon_skip,<- hu]
     exact hK _ _ ⟨⟨ρ',bC.em.put hd hcl.E M3.jV v,LZ,M3.xo hH⟩,by cases o.dst<;>rfl⟩
   ·cases iG
  ·split at iG
   ·rename_i c oA
    split at iG
    ·rename_i f hf
     simp only [aaC] at iG
     split at iG
     ·rename_i g' l' h1 h2
      split at iG
      ·rename_i fn Zj
       cases iG
       obtain⟨k1,k2,k3⟩:=hT.fn g' fn Zj
       have bM:=(rQ dy h2).1
       have hfv:=dy.aq _ _ h1
       have Oj:(execOp a.eval o).run P w=.ok (.enter g' (l.map (SV.aq ρ)).toArray) w:=by
        obtain⟨dst,op,ty,I5,after,guard⟩:=o
        simp only at oA
        subst oA
        obtain⟨anF,args,tys⟩:=c
        simp only at hf h2 bM
        subst hf
        have ha:args.map a.eval=(l.map (SV.aq ρ)).toArray:=by
         rw [<- bM,<- Array.toList_map,afe]
        have hb:fn.body.isNone=false:=by cases hbb:fn.body<;>simp_all
        have k3':¬(fn.name == "runtime.NumGoroutine")=true:=by rw [k3];decide
        simp only [execOp,resolve,hfv,SV.aq,V1.aq,Cell.aq,Deferred.ofValue,abA,abC,abz,invoke,callFunc,program,Sem.run,k1,if_neg k3',hb,ha,Bool.false_eq_true,if_false,Array.append_empty,Array.empty_append]
       unfold Oper.wp
       rw [Oj]
       show Calls P g' _ w _
       refine Calls.mono (AU ρ w bC.own) ?_
       rintro e w' ⟨_,rfl,ρ',rfl,LZ,M3⟩
       exact hK _ _ ⟨⟨ρ',bC.em.put hd hcl.E M3.jV v,LZ,M3.xo hH⟩,by cases o.dst<;>rfl⟩
      ·cases iG
     ·rename_i g' cs l' h1 h2
      split at iG
      ·rename_i fn Zj
       cases iG
       obtain⟨k1,k2,k3⟩:=hT.fn g' fn Zj
       have bM:=(rQ dy h2).1
       have hfv:=dy.aq _ _ h1
       have Oj:(execOp a.eval o).run P w=.ok (.enter g' ((l'++svs cs).map (SV.aq ρ)).toArray) w:=by
        obtain⟨dst,op,ty,I5,after,guard⟩:=o
        simp only at oA
        subst oA
        obtain⟨anF,args,tys⟩:=c
        simp only at hf h2 bM
        subst hf
        have ha:args.map a.eval=(l'.map (SV.aq ρ)).toArray:=by
         rw [<- bM,<- Array.toList_map,afe]
        have hb:fn.body.isNone=false:=by cases hbb:fn.body<;>simp_all
        have k3':¬(fn.name == "runtime.NumGoroutine")=true:=by rw [k3];decide
        have hsv:(svs cs).map (SV.aq ρ)=aA ρ cs:=Pv ρ cs
        simp only [execOp,resolve,hfv,SV.aq,Deferred.ofValue,abA,abC,abz,invoke,callFunc,program,Sem.run,k1,if_neg k3',hb,ha,Bool.false_eq_true,if_false,aen,hsv,List.append_toArray,acM]
       unfold Oper.wp
       rw [Oj]
       show Calls P g' _ w _
       refine Calls.mono (AU ρ w bC.own) ?_
       rintro e w' ⟨_,rfl,ρ',rfl,LZ,M3⟩
       exact hK _ _ ⟨⟨ρ',bC.em.put hd hcl.E M3.jV v,LZ,M3.xo hH⟩,by cases o.dst<;>rfl⟩
      ·cases iG
     ·cases iG
    ·rename_i r m hf
     simp only [aaC] at iG
     split at iG
     ·rename_i tr xr l' h1 h2
      split at iG
      ·rename_i g' hm
       split at iG
       ·rename_i fn Zj
        cases iG
        obtain⟨k1,k2,k3⟩:=hT.fn g' fn Zj
        have bM:=(rQ dy h2).1
        have hfv:=dy.aq _ _ h1
        have Oj:(execOp a.eval o).run P w=.ok (.enter g' ((SV.v (.c xr)::l').map (SV.aq ρ)).toArray) w:=by
         obtain⟨dst,op,ty,I5,after,guard⟩:=o
         simp only at oA
         subst oA
         obtain⟨anF,args,tys⟩:=c
         simp only at hf h2 bM
         subst hf
         have ha:args.map a.eval=(l'.map (SV.aq ρ)).toArray:=by
          rw [<- bM,<- Array.toList_map,afe]
         have hb:fn.body.isNone=false:=by cases hbb:fn.body<;>simp_all
         have k3':¬(fn.name == "runtime.NumGoroutine")=true:=by rw [k3];decide
         have hmt:=hT.mt tr m g' hm (xr.aq ρ) w
         have hex:(#[Value.iface tr (xr.aq ρ)]++(l'.map (SV.aq ρ)).toArray).extract 1 (#[Value.iface tr (xr.aq ρ)]++(l'.map (SV.aq ρ)).toArray).size=(l'.map (SV.aq ρ)).toArray:=by
          apply Array.ext'
          rw [Array.toList_extract]
          simp [List.extract]
          exact List.take_of_length_le (by simp)
         have h0:(#[Value.iface tr (xr.aq ρ)]++(l'.map (SV.aq ρ)).toArray)[0]?=some (Value.iface tr (xr.aq ρ)):=by simp
         simp only [execOp,resolve,hfv,SV.aq,V1.aq,Cell.aq,abA,abC,abz,invoke,ha,h0,hex,callMethod,program,Sem.run,hmt,callFunc,k1,if_neg k3',hb,Bool.false_eq_true,if_false]
         simp [SV.aq,V1.aq]
        unfold Oper.wp
        rw [Oj]
        show Calls P g' _ w _
        refine Calls.mono (AU ρ w bC.own) ?_
        rintro e w' ⟨_,rfl,ρ',rfl,LZ,M3⟩
        exact hK _ _ ⟨⟨ρ',bC.em.put hd hcl.E M3.jV v,LZ,M3.xo hH⟩,by cases o.dst<;>rfl⟩
       ·cases iG
      ·cases iG
     ·cases iG
    ·cases iG
   ·cases iG
 ·cases h
 ·obtain⟨r,hr,h⟩:=T.bf h
  cases h
  exact WJ hT hr hcl hL hd
end
section
variable {AV:Type} {P:Program} {N:dV AV}
theorem wanted_eq {ρ:Nm} {nt:Nat} {E:Ev} {a:Act} (hE:EM ρ nt E a) (bZ:Array Oper) (o:Oper) {b k:Bool} (h:iu bZ.toList o E=some (b,k)):Region.wanted o (yielded bZ a.tmps)=b:=by
 unfold iu at h
 unfold Region.wanted
 cases hg:o.guard with
 | none=>simp only [hg,aaC,aaF] at h;exact h.1
 | some p =>
   obtain⟨j,want⟩:=p
   simp only [hg,nth_eq,Array.getElem?_toList] at h
   simp only [yielded]
   cases hj:bZ[j]? with
   | none=>simp only [hj,aaC,aaF] at h;simp [<- h.1]
   | some oj =>
     simp only [hj] at h
     simp only [Option.bind_some]
     cases hd:oj.dst with
     | none=>simp only [hd,aaC,aaF] at h;simp [<- h.1]
     | some d =>
       simp only [hd] at h
       simp only [Option.bind_some]
       cases hl:aF E d with
       | lE=>simp [hl] at h
       | ji l =>
         have ae:=hE.get d (by rw [hl];simp)
         rw [hl] at ae h
         simp only [aaC,aaF] at h
         cases ht:a.tmps[d]? with
         | none=>simp [<- h.1]
         | some v =>
           have:a.tmps.getD d undef=v:=by simp [ht]
           rw [this] at ae
           subst ae
           simp [SV.aq,<- h.1]
       | wJ f l =>
         have ae:=hE.get d (by rw [hl];simp)
         rw [hl] at ae h
         simp only [aaC,aaF] at h
         cases ht:a.tmps[d]? with
         | none=>simp [<- h.1]
         | some v =>
           have:a.tmps.getD d undef=v:=by simp [ht]
           rw [this] at ae
           subst ae
           simp [SV.aq,<- h.1]
       | v x =>
         have ae:=hE.get d (by rw [hl];simp)
         rw [hl] at ae h
         cases ht:a.tmps[d]? with
         | none =>
           have:a.tmps.getD d undef=undef:=by simp [ht]
           rw [this] at ae
           cases x with
           | agg l=>simp [SV.aq,V1.aq,undef] at ae
           | c x =>
             cases x with
             | vs n o len es kn =>
               simp only [SV.aq,V1.aq,Cell.aq,undef,bN] at ae
               split at ae<;>cases ae
             | sf n o es z f p =>
               simp only [SV.aq,V1.aq,Cell.aq,undef,bN] at ae
               split at ae<;>cases ae
             | _=>simp [SV.aq,V1.aq,Cell.aq,undef] at ae
         | some v =>
           have:a.tmps.getD d undef=v:=by simp [ht]
           rw [this] at ae
           subst ae
           cases x with
           | agg l=>simp only [aaC,aaF] at h;simp [SV.aq,V1.aq,<- h.1]
           | c x =>
             cases x with
             | vs n o len es kn =>
               simp [kX] at h
               by_cases hz:len=0 /\ (ρ.L n).c=0<;>simp [SV.aq,V1.aq,Cell.aq,bN,hz,<- h.1]
             | sf n o es z f p =>
               simp [kX] at h
               by_cases hz:(f.ap (ρ.L n)).c=0<;>simp [SV.aq,V1.aq,Cell.aq,bN,hz,<- h.1]
             | _=>simp [kX] at h<;>simp [SV.aq,V1.aq,Cell.aq,<- h.1]
noncomputable def zV (N:dV AV) (cP:Callee AV) (base:Nat) (all:List Oper) (i:Nat) (o:Oper) (s:St AV):Option (St AV×qC) :=
 match iu all o s.E with
 | none=>none
 | some (b,_)=>if b=true then((m4 N cP (oG all base i) o s).val.map fun s'=>(s',ga N (oG all base i) (qP N.G s.H s.E) s.H s'.H o.op)) else some ({s with E:=jY s.E o.dst dQ},.pure)
theorem vA {cP:Callee AV} {base:Nat} {all:List Oper} {i:Nat} {o:Oper} {s:St AV}:(mT N cP base all i o s).val=zV N cP base all i o s:=by
 unfold mT zV
 cases iu all o s.E with
 | none=>rfl
 | some p =>
   obtain⟨b,k⟩:=p
   cases k<;>cases b<;>simp [T.val,T.fR]
theorem yS:∀(all:List Oper) (b i:Nat),b<=oG all b i
 | [],b,_=>abV _
 | _::_,b,0=>abV _
 | o::r,b,i+1=>by
   simp only [oG]
   split
   ·exact abL (Nat.le_succ b) (yS r (b+1) i)
   ·exact yS r b i
theorem yw (hT:fD P N) {cP:Callee AV} (cH:gF P N cP) {nt L base i:Nat} {bZ:Array Oper} {o:Oper} {s s':St AV} {en:qC} (h:(mT N cP base bZ.toList i o s).val=some (s',en)) (hcl:bH N s) (hL:L<=base) (hH:L<=s.H.length) (hd:∀d,o.dst=some d->d < nt) :
 bH N s' /\
 ∀{ρ:Nm} {a:Act} {w:World},At N nt ρ s a w->∀{K:Act->World->Prop} {Q:Exit->Act->World->Prop},
   (∀a' w',oB N nt L ρ s w a s' a' w'->K a' w')->if Region.wanted o (yielded bZ a.tmps)=true then o.wp P a w K Q else K (a.put o.dst undef) w:=by
 rw [vA] at h
 unfold zV at h
 split at h
 ·cases h
 ·rename_i b k hw
  split at h
  ·rename_i hb
   obtain⟨s1,hs,he⟩:=abu.1 h
   cases he
   obtain⟨h1,h2⟩:=Rs (P:=P) (nt:=nt) hT cH hs hcl (abL hL (yS _ _ _)) hH hd
   refine⟨h1,fun {ρ a w} bC K Q hK=>?_⟩
   rw [wanted_eq bC.em bZ o hw,if_pos hb]
   exact h2 bC hK
  ·rename_i hb
   cases h
   refine⟨⟨p4 hcl.E (fun n c h=>⟨c,h⟩) (mf _),hcl.H⟩,fun {ρ a w} bC K Q hK=>?_⟩
   rw [wanted_eq bC.em bZ o hw,if_neg hb]
   exact hK _ _ ⟨⟨ρ,bC.em.put hd hcl.E (fun _ _ _=>rfl) dQ,bC.own,iZ.refl _ _ _ _⟩,by cases o.dst<;>rfl⟩
theorem oB.trans {nt L:Nat} {ρ:Nm} {s s₁ s₂:St AV} {w w₁ w₂:World} {a a₁ a₂:Act} (h:∀ρ₁,EM ρ₁ nt s₁.E a₁->eZ N ρ₁ s₁.H w₁->iZ N L ρ s.H w ρ₁ s₁.H w₁->oB N nt L ρ₁ s₁ w₁ a₁ s₂ a₂ w₂) (h₁:oB N nt L ρ s w a s₁ a₁ w₁):oB N nt L ρ s w a s₂ a₂ w₂:=by
 obtain⟨⟨ρ₁,e1,o1,v1⟩,d1⟩:=h₁
 obtain⟨⟨ρ₂,e2,o2,v2⟩,d2⟩:=h ρ₁ e1 o1 v1
 exact⟨⟨ρ₂,e2,o2,v1.trans v2⟩,d2.trans d1⟩
theorem rl {cP:Callee AV} {base:Nat} {all:List Oper} {i:Nat} {o:Oper} {s:St AV} {r:St AV×qC} (h:(mT N cP base all i o s).val=some r):s.H.length<=r.1.H.length:=by
 rw [vA] at h
 unfold zV at h
 split at h
 ·cases h
 ·split at h
  ·obtain⟨s1,hs,he⟩:=abu.1 h
   cases he
   exact Nv hs
  ·cases h;exact abV _
theorem Dc (hT:fD P N) {cP:Callee AV} (cH:gF P N cP) {nt L base:Nat} (bZ:Array Oper) (hL:L<=base) :
 ∀(r:List Oper) (i:Nat) (s s':St AV),(oW N cP base bZ.toList i r s).val=some s'->bH N s->L<=s.H.length->(∀o∈r,∀d,o.dst=some d->d < nt) ->
   bH N s' /\ ∀{ρ:Nm} {a:Act} {w:World},At N nt ρ s a w->∀{Q:Exit->Act->World->Prop},(∀a' w',oB N nt L ρ s w a s' a' w'->Q .normal a' w')->wpList P bZ Q r a w
 | [],i,s,s',h,hcl,_,_=>by
   simp only [oW,T.val,aaC] at h
   subst h
   exact⟨hcl,fun {ρ a w} bC Q hQ=>hQ _ _ ⟨⟨ρ,bC.em,bC.own,iZ.refl _ _ _ _⟩,rfl⟩⟩
 | o::r,i,s,s',h,hcl,hH,hd=>by
   simp only [oW] at h
   obtain⟨⟨s₁,en⟩,h1,h2⟩:=T.bf h
   obtain⟨c1,k1⟩:=yw (P:=P) hT cH h1 hcl hL hH (hd o (by simp))
   have hlen:L<=s₁.H.length:=abL hH (rl h1)
   obtain⟨c2,k2⟩:=Dc hT cH bZ hL r (i+1) s₁ s' h2 c1 hlen (fun o' ho=>hd o' (by simp [ho]))
   refine⟨c2,fun {ρ a w} bC Q hQ=>?_⟩
   unfold wpList
   have:=k1 bC (K:=wpList P bZ Q r) (Q:=Q) (fun a₁ w₁ h₁=>by
    obtain⟨⟨ρ₁,e1,o1,v1⟩,d1⟩:=h₁
    refine k2 ⟨e1,o1⟩ fun a₂ w₂ h₂=>hQ a₂ w₂ ?_
    obtain⟨⟨ρ₂,e2,o2,v2⟩,d2⟩:=h₂
    exact⟨⟨ρ₂,e2,o2,v1.trans v2⟩,d2.trans d1⟩)
   split
   ·rename_i hw;rw [if_pos hw] at this;exact .inl this
   ·rename_i hw;rw [if_neg hw] at this;exact this
