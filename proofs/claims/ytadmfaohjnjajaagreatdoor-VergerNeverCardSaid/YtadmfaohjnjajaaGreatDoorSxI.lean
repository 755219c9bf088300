import Derived.Test.YtadmfaohjnjajaaGreatDoorSxH
import Derived.Laws.Slices
set_option linter.unusedVariables false
set_option linter.unusedSimpArgs false
set_option maxHeartbeats 4000000
namespace Go.Sx
section
variable {AV:Type} {P:Program} {N:Env AV}
theorem rN (E:Ev) (d:Nat) (v:SV) (k:Nat):look (fS E (some d) v) k=if d=k then v else look E k:=by
 simp only [fS,look]
 by_cases h:d=k
 ·subst h;simp [Nat.beq_refl]
 ·rw [(aR d k).2 h,if_neg h]
theorem EM.put {ρ ρ':Nm} {nt:Nat} {E:Ev} {a:Act} (h:EM ρ nt E a) {dst:Option Nat} (hd:∀d,dst=some d->d < nt) {H:Hp AV} (hc:∀k,ClV H (look E k)) (ha:∀n c,ab H n=some c->ρ'.L n=ρ.L n) (v:SV) :
 EM ρ' nt (fS E dst v) (a.put dst (v.den ρ')):=by
 cases dst with
 | none=>exact⟨h.size,fun k hk=>by rw [show (look (fS E none v) k)=look E k from rfl,SV.den_congr (hc k) ha];exact h.get k hk⟩
 | some d =>
   refine⟨by simp [Act.put,h.size],fun k hk=>?_⟩
   rw [rN] at hk ⊢
   have hlt:d < a.tmps.size:=by rw [h.size];exact hd d rfl
   by_cases e:d=k
   ·subst e
    simp [Act.put,hlt]
   ·rw [if_neg e] at hk
    rw [if_neg e,SV.den_congr (hc k) ha,<- h.get k hk]
    simp [Act.put,Array.getElem?_setIfInBounds_ne e]
theorem kQ {s:St AV} {H':Hp AV} (hE:∀k,ClV s.H (look s.E k)) (hp:∀n c,ab s.H n=some c->∃c',ab H' n=some c') {dst:Option Nat} {v:SV} (hv:ClV H' v):∀k,ClV H' (look (fS s.E dst v) k):=by
 intro k
 cases dst with
 | none=>exact(hE k).mono hp
 | some d =>
   rw [rN]
   split
   ·exact hv
   ·exact(hE k).mono hp
theorem hD (H:Hp AV):ClV H bV:=by intro x hx;cases hx
structure Lands (N:Env AV) (nt L:Nat) (ρ:Nm) (s:St AV) (w:World) (a:Act) (s':St AV) (a':Act) (w':World):Prop where
 ex:∃ρ',EM ρ' nt s'.E a' /\ Own N ρ' s'.H w' /\ Evo N L ρ s.H w ρ' s'.H w'
 df:a'.defers=a.defers
structure At (N:Env AV) (nt:Nat) (ρ:Nm) (s:St AV) (a:Act) (w:World):Prop where
 em:EM ρ nt s.E a
 own:Own N ρ s.H w
theorem El (row l ys:List Value) (o k j:Nat) (u:Value) (hl:o+l.length<=row.length) (hk:k+ys.length<=l.length) (h:∀(j:Nat) v,l[j]?=some v->row[o+j]?=some v)
 (hj:(l.take k++(ys++l.drop (k+ys.length)))[j]?=some u):(row.take (o+k)++(ys++row.drop (o+k+ys.length)))[o+j]?=some u:=by
 by_cases h1:j < k
 ·rw [List.getElem?_append_left (by simp;omega),List.getElem?_take,if_pos h1] at hj
  rw [List.getElem?_append_left (by simp;omega),List.getElem?_take,if_pos (by omega)]
  exact h j u hj
 ·rw [List.getElem?_append_right (by simp;omega)] at hj ⊢
  have e1:(l.take k).length=k:=by simp;omega
  have e2:(row.take (o+k)).length=o+k:=by simp;omega
  rw [e1] at hj
  rw [e2,show o+j - (o+k)=j - k by omega]
  by_cases h2:j - k < ys.length
  ·rw [List.getElem?_append_left h2] at hj ⊢
   exact hj
  ·rw [List.getElem?_append_right (by omega)] at hj ⊢
   rw [List.getElem?_drop] at hj ⊢
   have:=h _ _ hj
   rw [<- this]
   congr 1
   omega
theorem pw {s:St AV} (h:Closed N s):bU N s.H:=⟨h.H,trivial⟩
theorem NG {nt L nm:Nat} {o:Oper} {s:St AV} {arr:Option Arr} {r:SV×Option (Nat×Chunk AV)} (h:(jA N nm s.H arr).val=some r) (hcl:Closed N s) (hL:L<=nm) (hd:∀d,o.dst=some d->d < nt)
 (hrun:∀a,arr=some a->ClL s.H a.1 /\ ∀(ρ:Nm) (act:Act) (w:World),At N nt ρ s act w->∃row cap,(execOp act.eval o).run P w=.ok (.value (.slice (some ⟨w.heap.size,0,none⟩) a.2.2.2 cap)) (w.alloc (.cells row a.2.2.1)) /\ row.size=cap * a.2.1 /\ a.1.length<=cap * a.2.1 /\ ∀(j:Nat) v,(ah ρ a.1)[j]?=some v->row[j]?=some v) :
 Closed N {E:=fS s.E o.dst r.1,H:=du s.H r.2} /\
 ∀{ρ:Nm} {a:Act} {w:World},At N nt ρ s a w->∀{K:Act->World->Prop} {Q:Exit->Act->World->Prop},
   (∀a' w',Lands N nt L ρ s w a {E:=fS s.E o.dst r.1,H:=du s.H r.2} a' w'->K a' w')->o.wp P a w K Q:=by
 have hC:=pw hcl
 unfold jA at h
 split at h
 ·rename_i l es e len
  split at h
  ·rename_i h2 h3 h4
   simp only [T.val,Option.some.injEq] at h
   subst h
   obtain⟨hl,hrun⟩:=hrun _ rfl
   simp only at hl hrun
   have hlt:=(cO _ _).1 h3
   have hG:=(fh _ _).1 h4
   have pers:∀n c,ab s.H n=some c->∃c',ab (bC s.H nm (some (.vec l es e))) n=some c':=fun n c h=>⟨c,by rw [aK _ (fun e=>by subst e;rw [h2] at h;cases h)];exact h⟩
   have hself:=bn (H:=s.H) (.vec l es e) hlt
   have clv:ClV (bC s.H nm (some (.vec l es e))) (.v (.c (.vs nm 0 len es true))):=by
    intro c hc n hn
    simp [V1.cells] at hc;subst hc
    simp [Cell.name] at hn;subst hn
    exact⟨_,hself⟩
   constructor
   ·refine⟨kQ hcl.E pers clv,?_⟩
    intro n x hc
    by_cases e:n=nm
    ·subst e
     simp only [du] at hc ⊢
     rw [hself] at hc
     cases hc
     exact hl.mono pers
    ·simp only [du] at hc ⊢
     rw [aK _ (Ne.symm e)] at hc
     exact(hcl.H n x hc).mono pers
   intro ρ a w hat K Q hK
   obtain⟨row,cap,hr,q1,q2,q3⟩:=hrun ρ a w hat
   obtain⟨o1,o2,_⟩:=Pb (es:=es) (cap:=cap) (e:=e) (row:=row) hat.own hC h2 hlt hG hl hL q1 q2 q3
   unfold Oper.wp
   rw [hr]
   refine hK _ _ ⟨⟨_,?_,o1,o2⟩,by cases o.dst<;>rfl⟩
   have:=hat.em.put (ρ':=ρ.set nm ⟨w.heap.size,0,cap+1⟩ fun k=>k=w.heap.size) hd hcl.E o2.agree (.v (.c (.vs nm 0 len es true)))
   rw [vM] at this
   exact this
  ·simp [T.val] at h
 ·simp [T.val] at h
theorem Um (hT:TblOk P N) {nt L nm:Nat} {o:Oper} {s:St AV} {z:Option (Bool×AV×Nat×Nat)} {r:SV×Option (Nat×Chunk AV)} (h:(ov N nm s.H z).val=some r) (hcl:Closed N s) (hL:L<=nm) (hd:∀d,o.dst=some d->d < nt)
 (hrun:∀g es len,z=some (true,g,es,len)->∀(ρ:Nm) (act:Act) (w:World),At N nt ρ s act w->∃(row:Array Value) (e:TypeId),(execOp act.eval o).run P w=.ok (.value (.slice (some ⟨w.heap.size,0,none⟩) len len)) (w.alloc (.cells row e)) /\ row.size=len * es /\ N.F.arr g=some (es,e,row.toList)) :
 Closed N {E:=fS s.E o.dst r.1,H:=du s.H r.2} /\
 ∀{ρ:Nm} {a:Act} {w:World},At N nt ρ s a w->∀{K:Act->World->Prop} {Q:Exit->Act->World->Prop},
   (∀a' w',Lands N nt L ρ s w a {E:=fS s.E o.dst r.1,H:=du s.H r.2} a' w'->K a' w')->o.wp P a w K Q:=by
 have hC:=pw hcl
 unfold ov at h
 split at h
 ·rename_i b g es len
  split at h
  ·rename_i h2 h3 h4
   obtain⟨rfl,h⟩:=cZ h
   simp only [T.val,Option.some.injEq] at h
   subst h
   have hrun:=hrun _ _ _ rfl
   have hlt:=(cO _ _).1 h3
   have hG:=(fh _ _).1 h4
   have pers:∀n c,ab s.H n=some c->∃c',ab (bC s.H nm (some (.abs g))) n=some c':=fun n c h=>⟨c,by rw [aK _ (fun e=>by subst e;rw [h2] at h;cases h)];exact h⟩
   have hself:=bn (H:=s.H) (.abs g) hlt
   have clv:ClV (bC s.H nm (some (.abs g))) (.v (.c (.vs nm 0 len es false))):=by
    intro c hc n hn
    simp [V1.cells] at hc;subst hc
    simp [Cell.name] at hn;subst hn
    exact⟨_,hself⟩
   constructor
   ·refine⟨kQ hcl.E pers clv,?_⟩
    intro n x hc
    by_cases e:n=nm
    ·subst e
     simp only [du] at hc ⊢
     rw [hself] at hc
     cases hc
     intro c hc;cases hc
    ·simp only [du] at hc ⊢
     rw [aK _ (Ne.symm e)] at hc
     exact(hcl.H n x hc).mono pers
   intro ρ a w hat K Q hK
   obtain⟨row,e,hr,q1,q2⟩:=hrun ρ a w hat
   obtain⟨o1,o2,_⟩:=Lg (cap:=len) hat.own hC h2 hlt hG hL q1 q2
   unfold Oper.wp
   rw [hr]
   refine hK _ _ ⟨⟨_,?_,o1,o2⟩,by cases o.dst<;>rfl⟩
   have:=hat.em.put (ρ':=ρ.set nm ⟨w.heap.size,0,len+1⟩ fun k=>k=w.heap.size) hd hcl.E o2.agree (.v (.c (.vs nm 0 len es false)))
   have hv:(SV.v (.c (.vs nm 0 len es false))).den (ρ.set nm ⟨w.heap.size,0,len+1⟩ fun k=>k=w.heap.size)=.slice (some ⟨w.heap.size,0,none⟩) len len:=vM
   rw [hv] at this
   exact this
  ·simp [T.val] at h
 ·simp [T.val] at h
theorem eP {ev:Operand->Value} {o:Oper} {t:TypeId} {x:Operand} {lo hi mx:Option Operand} {w:World} (ho:o.op=.slice t x lo hi mx) {e:TypeId} {i:TypeInfo} (hu:P.underlying t=some (.slice e)) (hi':P.info? e=some i)
 {a:Option Addr} {len cap l h m:Nat} (hx:ev x=.slice a len cap)
 (hb:(Instr.sliceBounds true len cap (lo.map ev) (hi.map ev) (mx.map ev)).run P w=.ok (l,h,m) w) :
 (execOp ev o).run P w=.ok (.value (sliced a l h m i.size)) w:=by
 obtain⟨dst,op,ty,pos,after,guard⟩:=o
 simp only at ho
 subst ho
 have hel:P.elem t=e:=by simp [Program.elem,hu]
 have hu':P.underlying t=some (.slice (P.elem t)):=by rw [hel];exact hu
 simp [execOp,hx,run_sliceAt_slice w t _ _ _ _ hu',run_slice_any w t a len cap hu',hb,Result.andThen,sizeOf,typeInfo,hel,hi']
theorem AB {ev:Operand->Option SV} {d n:Nat} {x:Operand} (h:vb ev d (some x)=some n):∃k,ev x=some (.v (.c (.il k (n:Int)))):=by
 simp only [vb] at h
 split at h
 ·rename_i k m hx
  split at h
  ·rename_i h0
   cases h
   refine⟨k,?_⟩
   rw [hx,Int.toNat_of_nonneg (of_decide_eq_true h0)]
  ·cases h
 ·cases h
theorem wU {ev:Operand->Option SV} {t:TypeId} {x:Operand} {lo hi mx:Option Operand} {p:SPt} (h:uG ev (.slice t x lo hi mx)=some p) :
 mx=none /\ p.t=t /\ ev x=some (.v (.c (.vs p.n p.o p.len p.es true))) /\ vb ev 0 lo=some p.l /\ vb ev p.len hi=some p.h /\ p.l < p.h /\ p.h<=p.len:=by
 simp only [uG] at h
 split at h
 ·cases h
 ·split at h
  ·rename_i n o len es hx
   split at h
   ·rename_i l hh h1 h2
    split at h
    ·rename_i h3 h4
     cases h
     exact⟨rfl,rfl,hx,h1,h2,(cO _ _).1 h3,Nat.le_of_ble_eq_true h4⟩
    ·cases h
   ·cases h
  ·cases h
theorem rP {H:Hp AV} {p:SPt} {r:SV×Option (Nat×Chunk AV)} (h:(vw N H p).val=some r):r=(.v (.c (.vs p.n (p.o+p.l) (p.h - p.l) p.es true)),none) /\
 ∃si lst ty,N.sl.get p.t=some si /\ ab H p.n=some (.vec lst p.es ty) /\ p.es=si.size /\ (p.o+p.len) * p.es<=lst.length:=by
 unfold vw at h
 split at h
 ·rename_i si lst es2 ty h1 h2
  split at h
  ·rename_i h3 h4 h5
   simp only [T.val,Option.some.injEq] at h
   have h4:=(ai _ _).1 h4
   exact⟨h.symm,si,lst,ty,h1,by rw [h2,h4],(ai _ _).1 h3,Nat.le_of_ble_eq_true h5⟩
  ·simp [T.val] at h
 ·simp [T.val] at h
theorem Jy {ρ:Nm} {H:Hp AV} {w:World} (hO:Own N ρ H w) {es n m:Nat} {l:List Cell} {ty:TypeId} (hes:0 < es) (h:ab H n=some (.vec l es ty)) (hle:m * es<=l.length):m<=(ρ.L n).c - 1:=by
 rcases hO.q n _ h with⟨_,hnil,_⟩ | ⟨_,_,row,_,_,hc,_⟩
 ·have hnil:ah ρ l=[]:=hnil
  have:l.length=0:=by have:=congrArg List.length hnil;simpa [ah] using this
  have h0:m * es=0:=by omega
  rcases Nat.mul_eq_zero.1 h0 with h0 | h0<;>omega
 ·have hc:(ah ρ l).length<=((ρ.L n).c - 1) * es:=hc
  simp only [ah,List.length_map] at hc
  exact Nat.le_of_mul_le_mul_right (Nat.le_trans hle hc) hes
theorem Mc (hT:TblOk P N) {nt L nm:Nat} {o:Oper} {s:St AV} {r:SV×Option (Nat×Chunk AV)} (h:(gi N nm (evl N.G s.H s.E) s.H o.op).val=some r) (hcl:Closed N s) (hL:L<=nm) (hd:∀d,o.dst=some d->d < nt) :
 Closed N {E:=fS s.E o.dst r.1,H:=du s.H r.2} /\
 ∀{ρ:Nm} {a:Act} {w:World},At N nt ρ s a w->∀{K:Act->World->Prop} {Q:Exit->Act->World->Prop},
   (∀a' w',Lands N nt L ρ s w a {E:=fS s.E o.dst r.1,H:=du s.H r.2} a' w'->K a' w')->o.wp P a w K Q:=by
 have hC:=pw hcl
 unfold gi at h
 split at h
 ·-- looks at no memory
  rename_i t ht
  rw [T.val_map] at h
  obtain⟨v,hv,rfl⟩:=Option.map_eq_some_iff.1 h
  have cl:ClV s.H v:=by
   have hev:EvOk Nm.id s.H (evl N.G s.H s.E) (fun x=>match evl N.G s.H s.E x with | some v=>v.den Nm.id | none=>undef) :=
    ⟨fun x v hx=>by simp [hx],fun x v hx=>qE hcl hx⟩
   exact(wT (P:=P) hT hev (o:=o) ht hv default).2
  refine⟨⟨kQ hcl.E (fun n c h=>⟨c,h⟩) cl,hcl.H⟩,?_⟩
  intro ρ a w hat K Q hK
  have hev:=eQ hat.em hcl hat.own.glb
  have hr:=(wT (P:=P) hT hev (o:=o) ht hv w).1
  unfold Oper.wp
  rw [hr]
  exact hK _ _ ⟨⟨ρ,hat.em.put hd hcl.E (fun _ _ _=>rfl) v,hat.own,Evo.refl _ _ _ _⟩,by cases o.dst<;>rfl⟩
 ·split at h
  ·-- alloc
   rename_i t hop
   split at h
   ·rename_i kd sz z fl h1 h2 h3 h4
    simp only [T.val,Option.some.injEq] at h
    subst h
    have hlt:=(cO _ _).1 h3
    have hG:=(fh _ _).1 h4
    obtain⟨v0,hz,hzc,hzn⟩:=qV hT h1 rfl Nm.id
    have hzl:ClL s.H z:=eh hzn
    have pers:∀n c,ab s.H n=some c->∃c',ab (bC s.H nm (some (.cells z t))) n=some c':=fun n c h=>⟨c,by rw [aK _ (fun e=>by subst e;rw [h2] at h;cases h)];exact h⟩
    have hself:=bn (H:=s.H) (.cells z t) hlt
    have clv:ClV (bC s.H nm (some (.cells z t))) (.v (.c (.ptr nm 0))):=by
     intro c hc n hn
     simp [V1.cells] at hc;subst hc
     simp [Cell.name] at hn;subst hn
     exact⟨_,hself⟩
    constructor
    ·refine⟨kQ hcl.E pers clv,?_⟩
     ·intro n x hc
      by_cases e:n=nm
      ·subst e
       simp only [du] at hc ⊢
       rw [hself] at hc
       cases hc
       exact hzl.mono pers
      ·simp only [du] at hc ⊢
       rw [aK _ (Ne.symm e)] at hc
       exact(hcl.H n x hc).mono pers
    intro ρ a w hat K Q hK
    obtain⟨v0,hz,hzc,_⟩:=qV hT h1 rfl ρ
    obtain⟨o1,o2,_⟩:=zq hat.own hC h2 hlt hG t hzl hL
    have hr:(execOp a.eval o).run P w=.ok (.value (.pointer (some ⟨w.heap.size,0,none⟩))) (w.alloc (.cells (ah ρ z).toArray t)):=by
     obtain⟨dst,op,ty,pos,after,guard⟩:=o
     simp only at hop
     subst hop
     have hzc':v0.cells=(ah ρ z).toArray:=by rw [<- hzc]
     simp [execOp,Instr.alloc,hz,newVar,newRow,newObj,Sem.run,hzc']
    unfold Oper.wp
    rw [hr]
    refine hK _ _ ⟨⟨_,?_,o1,o2⟩,by cases o.dst<;>rfl⟩
    have:=hat.em.put (ρ':=ρ.set nm ⟨w.heap.size,0,0⟩ fun _=>False) hd hcl.E o2.agree (.v (.c (.ptr nm 0)))
    simpa [SV.den,V1.den,Cell.den,Nm.f,Nm.set] using this
   ·simp [T.val] at h
  ·-- box
   rename_i t x hop
   split at h
   ·rename_i v h1 h2 h3 h4
    simp only [T.val,Option.some.injEq] at h
    subst h
    have hlt:=(cO _ _).1 h3
    have hG:=(fh _ _).1 h4
    have hvl:ClL s.H v.cells:=qE hcl h1
    have pers:∀n c,ab s.H n=some c->∃c',ab (bC s.H nm (some (.cells v.cells t))) n=some c':=fun n c h=>⟨c,by rw [aK _ (fun e=>by subst e;rw [h2] at h;cases h)];exact h⟩
    have hself:=bn (H:=s.H) (.cells v.cells t) hlt
    have clv:ClV (bC s.H nm (some (.cells v.cells t))) (.v (.c (.ptr nm 0))):=by
     intro c hc n hn
     simp [V1.cells] at hc;subst hc
     simp [Cell.name] at hn;subst hn
     exact⟨_,hself⟩
    constructor
    ·refine⟨kQ hcl.E pers clv,?_⟩
     ·intro n x hc
      by_cases e:n=nm
      ·subst e
       simp only [du] at hc ⊢
       rw [hself] at hc
       cases hc
       exact hvl.mono pers
      ·simp only [du] at hc ⊢
       rw [aK _ (Ne.symm e)] at hc
       exact(hcl.H n x hc).mono pers
    intro ρ a w hat K Q hK
    have hev:=eQ hat.em hcl hat.own.glb
    obtain⟨o1,o2,_⟩:=zq hat.own hC h2 hlt hG t hvl hL
    have hr:(execOp a.eval o).run P w=.ok (.value (.pointer (some ⟨w.heap.size,0,none⟩))) (w.alloc (.cells (ah ρ v.cells).toArray t)):=by
     obtain⟨dst,op,ty,pos,after,guard⟩:=o
     simp only at hop
     subst hop
     have hcl':(v.den ρ).cells=(ah ρ v.cells).toArray:=by rw [<- V1.den_cells ρ v]
     simp [execOp,Instr.box,hev.den _ _ h1,SV.den,newVar,newRow,newObj,Sem.run,hcl']
    unfold Oper.wp
    rw [hr]
    refine hK _ _ ⟨⟨_,?_,o1,o2⟩,by cases o.dst<;>rfl⟩
    have:=hat.em.put (ρ':=ρ.set nm ⟨w.heap.size,0,0⟩ fun _=>False) hd hcl.E o2.agree (.v (.c (.ptr nm 0)))
    simpa [SV.den,V1.den,Cell.den,Nm.f,Nm.set] using this
   ·simp [T.val] at h
  ·-- load
   rename_i t x hop
   split at h
   ·rename_i p h1
    rw [T.val_map] at h
    obtain⟨v,hv,rfl⟩:=Option.map_eq_some_iff.1 h
    have cl:ClV s.H v:=by
     unfold xC at hv
     split at hv
     ·split at hv
      ·rename_i hn
       obtain⟨x',hx,rfl⟩:=jf hv
       exact fI hx (hcl.H _ _ hn)
      ·rename_i a hn
       split at hv
       ·rename_i l hw
        obtain⟨x',hx,rfl⟩:=jf hv
        exact fI hx (eh fun c hc=>N.F.word_nm _ _ hw c hc)
       ·simp [T.val] at hv
      ·simp [T.val] at hv
     ·split at hv
      ·rename_i a hn
       split at hv
       ·rename_i t' ht
        unfold SR at ht
        split at ht
        ·rename_i i hi
         split at ht
         ·rename_i b l hp
          cases ht
          obtain⟨rfl,hv⟩:=cZ hv
          obtain⟨x',hx,rfl⟩:=jf hv
          have hx':mg N t l 0=some x':=by unfold mg;rw [hi];exact hx
          exact fI hx' (eh fun c hc=>N.F.prt_nm _ _ _ _ _ _ hp c hc)
         ·cases ht
        ·cases ht
       split at hv
       ·rename_i b l hr
        obtain⟨rfl,hv⟩:=cZ hv
        obtain⟨x',hx,rfl⟩:=jf hv
        refine fI hx (eh fun c hc=>?_)
        exact N.F.row_nm _ _ _ _ hr c hc
       ·simp [T.val] at hv
      ·rename_i hn
       obtain⟨x',hx,rfl⟩:=jf hv
       exact fI hx (hcl.H _ _ hn)
      ·simp [T.val] at hv
     ·simp [T.val] at hv
    refine⟨⟨kQ hcl.E (fun n c h=>⟨c,h⟩) cl,hcl.H⟩,?_⟩
    intro ρ a w hat K Q hK
    have hev:=eQ hat.em hcl hat.own.glb
    have hr:=(L6 (P:=P) hT hat.own hC hv).1
    have hr':(execOp a.eval o).run P w=.ok (.value (v.den ρ)) w:=by
     obtain⟨dst,op,ty,pos,after,guard⟩:=o
     simp only at hop
     subst hop
     simp only [execOp,Sem.run_bind,hev.den _ _ h1,hr,Result.andThen_ok,Sem.run_pure]
    unfold Oper.wp
    rw [hr']
    exact hK _ _ ⟨⟨ρ,hat.em.put hd hcl.E (fun _ _ _=>rfl) v,hat.own,Evo.refl _ _ _ _⟩,by cases o.dst<;>rfl⟩
   ·simp [T.val] at h
  ·-- store
   rename_i t x y hop
   split at h
   ·rename_i n off v h1 h2
    split at h
    ·rename_i l ty i h3 h4
     split at h
     ·rename_i h5
      split at h
      ·rename_i l' h6
       simp only [T.val,Option.some.injEq] at h
       subst h
       have h5:=(ai _ _).1 h5
       have hvl:ClL s.H v.cells:=qE hcl h2
       have hl':ClL s.H l':=by
        intro c hc
        rw [(lput_eq h6).1] at hc
        rcases List.mem_append.1 hc with hc | hc
        ·rcases List.mem_append.1 hc with hc | hc
         ·exact hcl.H n _ h3 c (List.mem_of_mem_take hc)
         ·exact hvl c hc
        ·exact hcl.H n _ h3 c (List.mem_of_mem_drop hc)
       have hself:=bn (H:=s.H) (.cells l' ty) (aX h3)
       have pers:∀m c,ab s.H m=some c->∃c',ab (bC s.H n (some (.cells l' ty))) m=some c':=fun m c h=>by
        by_cases e:m=n
        ·subst e;exact⟨_,hself⟩
        ·exact⟨c,by rw [aK _ (Ne.symm e)];exact h⟩
       constructor
       ·refine⟨kQ hcl.E pers (hD _),?_⟩
        ·intro m x2 hc
         simp only [du] at hc ⊢
         by_cases e:m=n
         ·subst e
          rw [hself] at hc
          cases hc
          exact hl'.mono pers
         ·rw [aK _ (Ne.symm e)] at hc
          exact(hcl.H m x2 hc).mono pers
       intro ρ a w hat K Q hK
       have hev:=eQ hat.em hcl hat.own.glb
       obtain⟨o1,o2,_⟩:=Ig hat.own hC h3 hl' L
       have hr:=HG (P:=P) (v:=v) hT hat.own h3 h4 h5 h6
       have hr':(execOp a.eval o).run P w=.ok .skip (w.setRow (ρ n) (ah ρ l').toArray):=by
        obtain⟨dst,op,ty,pos,after,guard⟩:=o
        simp only at hop
        subst hop
        simp only [execOp,Sem.run_bind,hev.den _ _ h1,hev.den _ _ h2,SV.den,V1.den,Cell.den]
        erw [hr]
        rfl
       unfold Oper.wp
       rw [hr']
       exact hK _ _ ⟨⟨ρ,hat.em.put hd hcl.E (fun _ _ _=>rfl) bV,o1,o2⟩,by cases o.dst<;>rfl⟩
      ·simp [T.val] at h
     ·simp [T.val] at h
    ·simp [T.val] at h
   ·-- an array's element
    rename_i n idx es off v h1 h2
    have hvl:ClL s.H v.cells:=qE hcl h2
    have shut:∀ck ck':Chunk AV,ab s.H n=some ck->ClL s.H ck'.cellsOf->Closed N {E:=fS s.E o.dst bV,H:=du s.H (some (n,ck'))}:=by
     intro ck ck' h3 hl'
     have hself:=bn (H:=s.H) ck' (aX h3)
     have pers:∀m c,ab s.H m=some c->∃c',ab (bC s.H n (some ck')) m=some c':=fun m c h=>by
      by_cases e:m=n
      ·subst e;exact⟨_,hself⟩
      ·exact⟨c,by rw [aK _ (Ne.symm e)];exact h⟩
     refine⟨kQ hcl.E pers (hD _),?_⟩
     intro m x2 hc
     simp only [du] at hc ⊢
     by_cases e:m=n
     ·subst e
      rw [hself] at hc
      cases hc
      exact hl'.mono pers
     ·rw [aK _ (Ne.symm e)] at hc
      exact(hcl.H m x2 hc).mono pers
    split at h
    ·rename_i l ve ty i h3 h4
     split at h
     ·rename_i h5
      have h5:=(ai _ _).1 h5
      split at h
      ·simp [T.val] at h
      rename_i h50
      have h50:=(aR _ _).1 h50
      split at h
      ·rename_i l' h6
       simp only [T.val,Option.some.injEq] at h
       subst h
       obtain⟨e1,e2⟩:=lput_eq h6
       have hl':ClL s.H l':=by
        intro c hc
        rw [e1] at hc
        rcases List.mem_append.1 hc with hc | hc
        ·rcases List.mem_append.1 hc with hc | hc
         ·exact hcl.H n _ h3 c (List.mem_of_mem_take hc)
         ·exact hvl c hc
        ·exact hcl.H n _ h3 c (List.mem_of_mem_drop hc)
       refine⟨shut _ (.vec l' ve ty) h3 hl',?_⟩
       intro ρ a w hat K Q hK
       have hev:=eQ hat.em hcl hat.own.glb
       have hq:=hat.own.q n _ h3
       rcases hq with⟨_,h0,_⟩ | ⟨q1,q2,row,q3,q4,q5,q6⟩
       ·have hl0:l=[]:=by simpa [ah] using h0
        subst hl0
        have e2':idx * es+off+v.cells.length<=0:=e2
        omega
       ·have hll:l.length<=((ρ.L n).c - 1) * ve:=by simpa [ah] using q5
        have hr:=qY (P:=P) (ρ:=ρ) (off:=(ρ.L n).o+(idx * es+off)) (v:=v) hT q3 h4 h5 (by omega)
        have hlen:l'.length=l.length:=by rw [e1];simp;omega
        obtain⟨o1,o2,_⟩:=s8 hat.own hC h3 (ck':=.vec l' ve ty) hl' L (row:=(row.take ((ρ.L n).o+(idx * es+off))++(ah ρ v.cells++row.drop ((ρ.L n).o+(idx * es+off)+v.cells.length))).toArray) ((q2 _).2 rfl) (fun _ h=>h) (by
         refine .inr ⟨q1,q2,_,setRow_heap w (ρ n) _ _ ty (0,0) q3,?_,?_,?_⟩
         ·simp [bY];omega
         ·rw [bY,hlen];exact hll
         ·intro j u hj
          rw [e1] at hj
          simp only [ah,List.map_append,List.map_take,List.map_drop] at hj
          have hlr:(ρ.L n).o+l.length<=row.length:=by omega
          rw [List.append_assoc] at hj
          have:=El row (ah ρ l) (ah ρ v.cells) (ρ.L n).o (idx * es+off) j u (by simpa [ah] using hlr) (by simpa [ah] using e2) q6 (by simpa [ah] using hj)
          simpa [bY] using this)
        have hr':(execOp a.eval o).run P w=.ok .skip (w.setRow (ρ n) (row.take ((ρ.L n).o+(idx * es+off))++(ah ρ v.cells++row.drop ((ρ.L n).o+(idx * es+off)+v.cells.length))).toArray):=by
         obtain⟨dst,op,ty,pos,after,guard⟩:=o
         simp only at hop
         subst hop
         have e0:(ρ.L n).o+idx * es+off=(ρ.L n).o+(idx * es+off):=by omega
         simp only [execOp,Sem.run_bind,hev.den _ _ h1,hev.den _ _ h2,SV.den,V1.den,Cell.den,e0]
         erw [hr]
         rfl
        unfold Oper.wp
        rw [hr']
        exact hK _ _ ⟨⟨ρ,hat.em.put hd hcl.E (fun _ _ _=>rfl) bV,o1,o2⟩,by cases o.dst<;>rfl⟩
      ·simp [T.val] at h
     ·simp [T.val] at h
    ·rename_i a i h3 h4
     split at h
     ·rename_i h5
      have h5:=(ai _ _).1 h5
      split at h
      ·rename_i b a' h6
       obtain⟨rfl,h⟩:=cZ h
       simp only [T.val,Option.some.injEq] at h
       subst h
       refine⟨shut _ (.abs a') h3 (by intro c hc;cases hc),?_⟩
       intro ρ act w hat K Q hK
       have hev:=eQ hat.em hcl hat.own.glb
       have hq:N.F.q a (ρ.L n) (ρ.S n) w:=hat.own.q n _ h3
       obtain⟨u1,u2,row,ty,u3,u4,u5⟩:=N.F.upd_ok a (ρ.L n) (ρ.S n) w idx es off v.cells a' hq h6
       have hden:ah ρ v.cells=ah Nm.id v.cells:=by
        unfold ah
        apply List.map_congr_left
        intro c hc
        exact den_congr c fun m hm=>by rw [u1 c hc] at hm;cases hm
       have hr:=qY (P:=P) (ρ:=ρ) (off:=(ρ.L n).o+idx * es+off) (v:=v) hT u3 h4 h5 u4
       rw [hden] at hr
       obtain⟨o1,o2,_⟩:=s8 hat.own hC h3 (ck':=.abs a') (by intro c hc;cases hc) L u2 (fun _ h=>h) u5
       have hr':(execOp act.eval o).run P w=.ok .skip (w.setRow (ρ n) (row.take ((ρ.L n).o+idx * es+off)++(ah Nm.id v.cells++row.drop ((ρ.L n).o+idx * es+off+v.cells.length))).toArray):=by
        obtain⟨dst,op,ty,pos,after,guard⟩:=o
        simp only at hop
        subst hop
        simp only [execOp,Sem.run_bind,hev.den _ _ h1,hev.den _ _ h2,SV.den,V1.den,Cell.den]
        erw [hr]
        rfl
       unfold Oper.wp
       rw [hr']
       exact hK _ _ ⟨⟨ρ,hat.em.put hd hcl.E (fun _ _ _=>rfl) bV,o1,o2⟩,by cases o.dst<;>rfl⟩
      ·simp [T.val] at h
     ·simp [T.val] at h
    ·simp [T.val] at h
   ·simp [T.val] at h
  ·-- make
   rename_i t x y hop
   unfold rQ at h
   split at h
   ·rename_i arr0 harr0
    refine NG (P:=P) h hcl hL hd fun arr harr=>?_
    rw [<- harr0] at harr
    obtain⟨_,_,_,_,_,_,hnm,_⟩:=CX (P:=P) hT harr default Nm.id
    refine⟨eh hnm,fun ρ act w hat=>?_⟩
    obtain⟨kl,kc,n,c,h1,h2,_,row,cap,hr,q⟩:=CX (P:=P) hT harr w ρ
    have hev:=eQ hat.em hcl hat.own.glb
    refine⟨row,cap,?_,q⟩
    obtain⟨dst,op,ty,pos,after,guard⟩:=o
    simp only at hop
    subst hop
    simp only [execOp,hev.den _ _ h1,hev.den _ _ h2,SV.den,V1.den,Cell.den,Sem.run_bind,hr,Result.andThen_ok,Sem.run_pure]
   ·refine Um (P:=P) hT h hcl hL hd fun g es len hz ρ act w hat=>?_
    obtain⟨vx,vy,kl,kc,n,c,h1,h2,d1,d2,row,e,hr,q⟩:=Li (P:=P) hT hz w
    have hev:=eQ hat.em hcl hat.own.glb
    refine⟨row,e,?_,q⟩
    obtain⟨dst,op,ty,pos,after,guard⟩:=o
    simp only at hop
    subst hop
    simp only [execOp,hev.den _ _ h1,hev.den _ _ h2,SV.den,V1.den,d1,d2,Sem.run_bind,hr,Result.andThen_ok,Sem.run_pure]
  ·-- the building of a slice
   rename_i t len parts hop
   refine NG (P:=P) h hcl hL hd fun arr harr=>?_
   have hev0:EvOk Nm.id s.H (evl N.G s.H s.E) (fun x=>match evl N.G s.H s.E x with | some v=>v.den Nm.id | none=>undef) :=
    ⟨fun x v hx=>by simp [hx],fun x v hx=>qE hcl hx⟩
   refine⟨(yt (P:=P) hT hev0 harr default).1,fun ρ act w hat=>?_⟩
   have hev:=eQ hat.em hcl hat.own.glb
   obtain⟨_,row,cap,hr,q⟩:=yt (P:=P) hT hev harr w
   refine⟨row,cap,?_,q⟩
   obtain⟨dst,op,ty,pos,after,guard⟩:=o
   simp only at hop
   subst hop
   simp only [execOp,Sem.run_bind]
   erw [hr]
   rfl
  ·-- a part of a known slice
   rename_i t x lo hi mx hop
   split at h
   ·rename_i p hp
    obtain⟨rfl,ht,hx,hlo,hhi,hlt,hle⟩:=wU hp
    obtain⟨rfl,si,lst,ty,hs,hn,hes,hfit⟩:=rP h
    obtain⟨hu,i,z,hii,_,e1,_,hpos,_⟩:=fT (hT.sl _ si hs)
    have clv:ClV s.H (.v (.c (.vs p.n (p.o+p.l) (p.h - p.l) p.es true))):=by
     intro c hc m hm
     simp [V1.cells] at hc;subst hc
     simp [Cell.name] at hm;subst hm
     exact⟨_,hn⟩
    refine⟨⟨kQ hcl.E (fun n c h=>⟨c,h⟩) clv,hcl.H⟩,?_⟩
    intro ρ a w hat K Q hK
    have hev:=eQ hat.em hcl hat.own.glb
    have hf:=Jy hat.own (by omega) hn hfit
    have hxd:a.eval x=.slice (some ⟨ρ p.n,(ρ.L p.n).o+p.o * p.es,none⟩) p.len ((ρ.L p.n).c - 1 - p.o):=by
     rw [hev.den _ _ hx]
     show aW (ρ.L p.n) p.o p.len p.es=_
     unfold aW
     rw [if_neg (by omega)]
    have hb:(Instr.sliceBounds true p.len ((ρ.L p.n).c - 1 - p.o) (lo.map a.eval) (hi.map a.eval) (none:Option Value)).run P w=.ok (p.l,p.h,(ρ.L p.n).c - 1 - p.o) w:=by
     have b1:∀y:Operand,lo=some y->∃k,a.eval y=.int k (p.l:Int):=fun y hy=>by
      subst hy
      obtain⟨k,hk⟩:=AB hlo
      exact⟨k,by rw [hev.den _ _ hk];rfl⟩
     have b2:∀y:Operand,hi=some y->∃k,a.eval y=.int k (p.h:Int):=fun y hy=>by
      subst hy
      obtain⟨k,hk⟩:=AB hhi
      exact⟨k,by rw [hev.den _ _ hk];rfl⟩
     have c1:p.h<=(ρ.L p.n).c - 1 - p.o:=by omega
     have c2:p.l<=p.h:=by omega
     cases lo with
     | none =>
       simp only [vb,Option.some.injEq] at hlo
       cases hi with
       | none =>
         simp only [vb,Option.some.injEq] at hhi
         simp [Instr.sliceBounds,<- hhi,<- hlo,run_sliceBound]
       | some y =>
         obtain⟨k,hk⟩:=b2 y rfl
         simp [Instr.sliceBounds,hk,run_sliceBound,c1,<- hlo]
     | some y =>
       obtain⟨k,hk⟩:=b1 y rfl
       cases hi with
       | none =>
         simp only [vb,Option.some.injEq] at hhi
         simp [Instr.sliceBounds,hk,run_sliceBound,hhi,c2]
       | some y2 =>
         obtain⟨k2,hk2⟩:=b2 y2 rfl
         simp [Instr.sliceBounds,hk,hk2,run_sliceBound,c1,c2]
    have hr:=eP (P:=P) (ev:=a.eval) (o:=o) (w:=w) hop (by rw [<- ht];exact hu) hii hxd hb
    unfold Oper.wp
    rw [hr]
    refine hK _ _ ⟨⟨ρ,?_,hat.own,Evo.refl _ _ _ _⟩,by cases o.dst<;>rfl⟩
    have:=hat.em.put (ρ':=ρ) hd hcl.E (fun _ _ _=>rfl) (.v (.c (.vs p.n (p.o+p.l) (p.h - p.l) p.es true)))
    have hv:(SV.v (.c (.vs p.n (p.o+p.l) (p.h - p.l) p.es true))).den ρ=sliced (some ⟨ρ p.n,(ρ.L p.n).o+p.o * p.es,none⟩) p.l p.h ((ρ.L p.n).c - 1 - p.o) i.size:=by
     simp only [SV.den,V1.den,Cell.den,aW,sliced]
     have z1:¬(p.h - p.l=0 /\ (ρ.L p.n).c=0):=fun h=>by omega
     have z3:¬((ρ.L p.n).c - 1 - p.o=p.l):=by omega
     rw [if_neg z1,e1,<- hes]
     by_cases q4:p.l=0
     ·simp [q4,Addr.add,Nm.f]
     ·have hne:p.l * p.es≠0:=Nat.mul_ne_zero q4 (by omega)
      rw [show (p.o+p.l) * p.es=p.o * p.es+p.l * p.es from Nat.add_mul _ _ _,show (ρ.L p.n).c - 1 - (p.o+p.l)=(ρ.L p.n).c - 1 - p.o - p.l by omega,<- Nat.add_assoc]
      simp [Addr.add,hne,z3,Nm.f]
    rw [hv] at this
    exact this
   ·simp [T.val] at h
  ·simp [T.val] at h
end
section
variable {AV:Type} {P:Program} {N:Env AV}
theorem mu (R:List Nat):∀(H:Hp AV) (i n:Nat),ab (fA R i H) n=if dW R (i+n)=true then ab H n else none
 | [],i,n=>by simp [fA,ab]
 | x::r,i,0=>by
   simp only [fA,ab,Nat.add_zero]
   cases dW R i<;>simp
 | x::r,i,n+1=>by
   simp only [fA,ab]
   rw [mu R r (i+1) n]
   simp only [Nat.add_assoc,Nat.add_comm 1 n]
theorem kI (R:List Nat):∀(H:Hp AV) (i:Nat),(fA R i H).length=H.length
 | [],_=>rfl
 | _::r,i=>by simp [fA,kI R r (i+1)]
theorem ko:∀{A B:Hp AV},pZ A B=true->A.length<=B.length /\ (∀n c,ab A n=some c->∃c',ab B n=some c') /\ (∀n,n < A.length->ab A n=none->ab B n=none)
 | [],B,_=>by simp [ab]
 | x::r,[],h=>by cases x<;>simp [pZ] at h
 | none::r,none::q,h=>by
   simp only [pZ] at h
   obtain⟨h1,h2,h3⟩:=ko h
   refine⟨by simp;exact h1,fun n c hc=>?_,fun n hn hc=>?_⟩
   ·cases n with
    | zero=>simp [ab] at hc
    | succ n=>exact h2 n c hc
   ·cases n with
    | zero=>rfl
    | succ n=>exact h3 n (by simpa using hn) hc
 | none::r,some y::q,h=>by simp [pZ] at h
 | some x::r,none::q,h=>by simp [pZ] at h
 | some x::r,some y::q,h=>by
   simp only [pZ] at h
   obtain⟨h1,h2,h3⟩:=ko h
   refine⟨by simp;exact h1,fun n c hc=>?_,fun n hn hc=>?_⟩
   ·cases n with
    | zero=>exact⟨y,rfl⟩
    | succ n=>exact h2 n c hc
   ·cases n with
    | zero=>simp [ab] at hc
    | succ n=>exact h3 n (by simpa using hn) hc
theorem gK (R:List Nat):∀(H B:Hp AV) (i n:Nat),H.length<=B.length ->
 ab (bG R i H B) n=if n < H.length then(match ab H n with | none=>none | some x=>if dW R (i+n)=true then ab B n else some x) else ab B n
 | [],B,i,n,_=>by simp [bG]
 | x::r,[],i,n,h=>by simp at h
 | none::r,y::q,i,0,_=>by simp [bG,ab]
 | some x::r,y::q,i,0,_=>by
   simp only [bG,ab,Nat.add_zero,List.length_cons,Nat.zero_lt_succ,if_true]
   cases dW R i<;>simp
 | none::r,y::q,i,n+1,h=>by
   simp only [bG,ab]
   rw [gK R r q (i+1) n (by simpa using h)]
   simp only [Nat.add_assoc,Nat.add_comm 1 n,List.length_cons,Nat.add_lt_add_iff_right]
 | some x::r,y::q,i,n+1,h=>by
   simp only [bG,ab]
   rw [gK R r q (i+1) n (by simpa using h)]
   simp only [Nat.add_assoc,Nat.add_comm 1 n,List.length_cons,Nat.add_lt_add_iff_right]
theorem kr (R:List Nat):∀(H B:Hp AV) (i:Nat),H.length<=B.length->(bG R i H B).length=B.length
 | [],B,_,_=>by simp [bG]
 | x::r,[],i,h=>by simp at h
 | none::r,y::q,i,h=>by simp [bG,kr R r q (i+1) (by simpa using h)]
 | some x::r,y::q,i,h=>by simp [bG,kr R r q (i+1) (by simpa using h)]
def Does (P:Program) (g:Tgt) (vs:List Value) (w:World) (K:Value->World->Prop):Prop :=
 match g with
 | .fn f=>Calls P f vs.toArray w fun e w'=>∃v,e=.returned v /\ K v w'
 | .op op=>∀(ev:Operand->Value) (o:Oper),o.op=op->op.operands.toList.map ev=vs->∃v w',((execOp ev o).run P w=.ok (.value v) w' \/ ((execOp ev o).run P w=.ok .skip w' /\ v=undef)) /\ K v w'
theorem Does.mono {P:Program} {g:Tgt} {vs:List Value} {w:World} {K K':Value->World->Prop} (h:Does P g vs w K) (hk:∀v w',K v w'->K' v w'):Does P g vs w K':=by
 cases g with
 | fn f=>exact Calls.mono h fun e w' ⟨v,he,hv⟩=>⟨v,he,hk v w' hv⟩
 | op o=>exact fun ev o' ho hv=>let ⟨v,w',h1,h2⟩:=h ev o' ho hv;⟨v,w',h1,hk v w' h2⟩
def dM (P:Program) (N:Env AV) (cal:Callee AV):Prop :=
 ∀(f:Tgt) (args:List SV) (H:Hp AV) (v:SV) (H':Hp AV),(cal f args H).val=some (v,H')->(∀x∈args,ClV H x)->bU N H ->
   ClV H' v /\ bU N H' /\ ∀(ρ:Nm) (w:World),Own N ρ H w ->
    Does P f (args.map (SV.den ρ)) w fun e w'=>∃ρ',e=v.den ρ' /\ Own N ρ' H' w' /\ Evo N H.length ρ H w ρ' H' w'
theorem DB {cal:Callee AV} (hcal:dM P N cal) {gn:List Nat} {f:Tgt} {args:List SV} {H:Hp AV} {v:SV} {H':Hp AV} (h:(p9 cal gn f args H).val=some (v,H')) (hC:bU N H) :
 ClV H' v /\ bU N H' /\ (∀n c,ab H n=some c->∃c',ab H' n=some c') /\ ∀(ρ:Nm) (w:World),Own N ρ H w ->
  Does P f (args.map (SV.den ρ)) w fun e w'=>∃ρ',e=v.den ρ' /\ Own N ρ' H' w' /\ Evo N H.length ρ H w ρ' H' w':=by
 unfold p9 at h
 generalize fX H 400 (ee args++gn) []=R at h
 simp only at h
 split at h
 ·simp [T.val] at h
 ·rename_i hargs
  split at h
  ·simp [T.val] at h
  ·rename_i hheap
   obtain⟨⟨v',B⟩,hr,h⟩:=T.bind_some h
   simp only at h
   split at h
   ·simp [T.val] at h
   ·rename_i hpers
    simp only [T.val,Option.some.injEq,Prod.mk.injEq] at h
    obtain⟨rfl,rfl⟩:=h
    obtain⟨hlen,hp1,hp2⟩:=ko hpers
    rw [kI] at hlen
    have hA:∀n,ab (fA R 0 H) n=if dW R n=true then ab H n else none:=fun n=>by rw [mu,Nat.zero_add]
    have hM:∀n,ab (bG R 0 H B) n=if n < H.length then(match ab H n with | none=>none | some x=>if dW R n=true then ab B n else some x) else ab B n:=fun n=>by rw [gK _ _ _ _ _ hlen,Nat.zero_add]
    have hCA:bU N (fA R 0 H):=by
     exact⟨eY.1 hheap,trivial⟩
    obtain⟨hv,hCB,hcalls⟩:=hcal f args _ _ _ hr (kR.1 hargs) hCA
    have seen:∀n c,ab B n=some c->n < H.length->dW R n=true /\ ∃x,ab H n=some x:=by
     intro n c hc hn
     cases hAn:ab (fA R 0 H) n with
     | none =>
       have:=hp2 n (by rw [kI];exact hn) hAn
       rw [this] at hc;cases hc
     | some x =>
       rw [hA] at hAn
       split at hAn
       ·rename_i hs;exact⟨hs,x,hAn⟩
       ·cases hAn
    have toM:∀n c,ab B n=some c->ab (bG R 0 H B) n=some c:=by
     intro n c hc
     rw [hM]
     by_cases hn:n < H.length
     ·obtain⟨hs,x,hx⟩:=seen n c hc hn
      rw [if_pos hn,hx]
      simp only [hs,if_true]
      exact hc
     ·rw [if_neg hn];exact hc
    have persM:∀n c,ab H n=some c->∃c',ab (bG R 0 H B) n=some c':=by
     intro n c hc
     have hn:=aX hc
     by_cases hs:dW R n=true
     ·obtain⟨c',hc'⟩:=hp1 n c (by rw [hA,if_pos hs];exact hc)
      exact⟨c',toM n c' hc'⟩
     ·exact⟨c,by rw [hM,if_pos hn,hc];simp [hs]⟩
    have src:∀n c,ab (bG R 0 H B) n=some c->(ab B n=some c /\ ¬(n < H.length /\ ¬dW R n=true)) \/ (ab H n=some c /\ n < H.length /\ ¬dW R n=true):=by
     intro n c hc
     rw [hM] at hc
     split at hc
     ·rename_i hn
      split at hc
      ·cases hc
      ·rename_i x hx
       split at hc
       ·rename_i hs;exact .inl ⟨hc,fun h=>h.2 hs⟩
       ·rename_i hs;cases hc;exact .inr ⟨hx,hn,hs⟩
     ·rename_i hn;exact .inl ⟨hc,fun h=>hn h.1⟩
    have hCM:bU N (bG R 0 H B):=by
     refine⟨fun n x hc=>?_,trivial⟩
     rcases src n _ hc with⟨hb,_⟩ | ⟨hh,_⟩
     ·exact(hCB.1 n x hb).mono fun m c hm=>⟨c,toM m c hm⟩
     ·exact(hC.1 n x hh).mono persM
    refine⟨hv.mono fun m c hm=>⟨c,toM m c hm⟩,hCM,persM,?_⟩
    intro ρ w hO
    have hOA:Own N ρ (fA R 0 H) w:=by
     have sub:∀n c,ab (fA R 0 H) n=some c->ab H n=some c:=fun n c hc=>by
      rw [hA] at hc
      split at hc
      ·exact hc
      ·cases hc
     exact hO.sub ⟨fun n c hc=>hO.q n c (sub n c hc),fun n m c d hnm hc hd=>hO.dis n m c d hnm (sub n c hc) (sub m d hd),hO.glb⟩ fun n c k hc hk=>⟨n,c,sub n c hc,hk⟩
    have sub:∀n c,ab (fA R 0 H) n=some c->ab H n=some c /\ dW R n=true:=fun n c hc=>by
     rw [hA] at hc
     split at hc
     ·rename_i hs;exact⟨hc,hs⟩
     ·cases hc
    refine(hcalls ρ w hOA).mono ?_
    rintro e w₁ ⟨ρ₁,rfl,hO₁,hE⟩
    let ρ':Nm:=⟨fun n=>if n < H.length /\ ¬dW R n=true then ρ.L n else ρ₁.L n,fun n=>if n < H.length /\ ¬dW R n=true then ρ.S n else ρ₁.S n⟩
    have hB2:∀n c,ab B n=some c->¬(n < H.length /\ ¬dW R n=true):=fun n c hc ⟨hn,hs⟩=>hs (seen n c hc hn).1
    have hB':∀n c,ab B n=some c->ρ'.L n=ρ₁.L n:=fun n c hc=>if_neg (hB2 n c hc)
    have hBS:∀n c,ab B n=some c->ρ'.S n=ρ₁.S n:=fun n c hc=>if_neg (hB2 n c hc)
    have hH':∀n c,ab H n=some c->ρ'.L n=ρ.L n:=by
     intro n c hc
     show (if _ then _ else _)=_
     by_cases hs:dW R n=true
     ·rw [if_neg (fun h=>h.2 hs)]
      exact hE.agree n c (by rw [hA,if_pos hs];exact hc)
     ·rw [if_pos ⟨aX hc,hs⟩]
    have hHS:∀n c,ab H n=some c->¬dW R n=true->ρ'.S n=ρ.S n:=fun n c hc hs=>if_pos ⟨aX hc,hs⟩
    refine⟨ρ',by rw [SV.den_congr hv hB'],hO.up2 ⟨⟨?_,?_,?_⟩,⟨persM,hH',?_,?_,?_,?_,hE.os,hE.tape,hE.output,hE.size⟩⟩⟩
    ·intro n c hc
     rcases src n c hc with⟨hb,hno⟩ | ⟨hh,hn,hs⟩
     ·exact jK (hO₁.q n c hb) (hB' n c hb) (hBS n c hb) (denL_congr (hCB.1 n c hb) hB') (fun _ _=>rfl)
     ·refine jK (hO.q n c hh) (hH' n c hh) (hHS n c hh hs) (denL_congr (hC.1 n c hh) hH') (fun k hk=>?_)
      refine hE.frame k (hO.lt hh hk) fun m d hd hk'=>?_
      obtain⟨hd',hs'⟩:=sub m d hd
      exact hO.dis m n d c (fun e=>hs (e▸hs')) hd' hh k hk' hk
    ·intro n m c d hnm hc hd k hk hk'
     rcases src n c hc with⟨hb,_⟩ | ⟨hh,hn,hs⟩
     ·rw [bA (hB' n c hb) (hBS n c hb)] at hk
      rcases src m d hd with⟨hb2,_⟩ | ⟨hh2,hn2,hs2⟩
      ·rw [bA (hB' m d hb2) (hBS m d hb2)] at hk'
       exact hO₁.dis n m c d hnm hb hb2 k hk hk'
      ·rw [bA (hH' m d hh2) (hHS m d hh2 hs2)] at hk'
       rcases hE.new n c k hb hk with h1 | ⟨q,x,hq,hkq⟩
       ·have:=hO.lt hh2 hk';omega
       ·obtain⟨hq',hsq⟩:=sub q x hq
        exact hO.dis q m x d (fun e=>hs2 (e▸hsq)) hq' hh2 k hkq hk'
     ·rw [bA (hH' n c hh) (hHS n c hh hs)] at hk
      rcases src m d hd with⟨hb2,_⟩ | ⟨hh2,hn2,hs2⟩
      ·rw [bA (hB' m d hb2) (hBS m d hb2)] at hk'
       rcases hE.new m d k hb2 hk' with h1 | ⟨q,x,hq,hkq⟩
       ·have:=hO.lt hh hk;omega
       ·obtain⟨hq',hsq⟩:=sub q x hq
        exact hO.dis q n x c (fun e=>hs (e▸hsq)) hq' hh k hkq hk
      ·rw [bA (hH' m d hh2) (hHS m d hh2 hs2)] at hk'
       exact hO.dis n m c d hnm hh hh2 k hk hk'
    ·intro g hg
     show (if _ then _ else _:Loc).b=_
     split
     ·exact hO.glb g hg
     ·exact hO₁.glb g hg
    ·intro n hn hh
     rw [hM,if_pos hn,hh]
    ·rw [kr _ _ _ _ hlen];exact hlen
    ·intro k hk hno
     exact hE.frame k hk fun m d hd hk'=>hno m d (sub m d hd).1 hk'
    ·intro n c k hc hk
     rcases src n c hc with⟨hb,_⟩ | ⟨hh,_,hs⟩
     ·rw [bA (hB' n c hb) (hBS n c hb)] at hk
      rcases hE.new n c k hb hk with h1 | ⟨q,x,hq,hkq⟩
      ·exact .inl h1
      ·exact .inr ⟨q,x,(sub q x hq).1,hkq⟩
     ·rw [bA (hH' n c hh) (hHS n c hh hs)] at hk
      exact .inr ⟨n,c,hh,hk⟩
theorem Evo.weaken {L L':Nat} {ρ ρ':Nm} {H H':Hp AV} {w w':World} (h:Evo N L ρ H w ρ' H' w') (hL:L'<=L):Evo N L' ρ H w ρ' H' w' :=
 ⟨h.pers,h.agree,fun n hn=>h.non n (Nat.lt_of_lt_of_le hn hL),h.len,h.frame,h.new,h.os,h.tape,h.output,h.size⟩
theorem Ja {cal:Callee AV} {G:List Nat} {f:Tgt} {args:List SV} {H:Hp AV} {v:SV} {H':Hp AV} (h:(p9 cal G f args H).val=some (v,H')):H.length<=H'.length:=by
 unfold p9 at h
 simp only at h
 split at h
 ·simp [T.val] at h
 ·split at h
  ·simp [T.val] at h
  ·obtain⟨⟨v',B⟩,hr,h⟩:=T.bind_some h
   simp only at h
   split at h
   ·simp [T.val] at h
   ·rename_i hpers
    simp only [T.val,Option.some.injEq,Prod.mk.injEq] at h
    obtain⟨rfl,rfl⟩:=h
    obtain⟨hlen,_⟩:=ko hpers
    rw [kI] at hlen
    rw [kr _ _ _ _ hlen];exact hlen
theorem Eb {cal:Callee AV} {nm:Nat} {o:Oper} {s s':St AV} (h:(iL N cal nm o s).val=some s'):s.H.length<=s'.H.length:=by
 unfold iL at h
 split at h
 ·obtain⟨⟨v,H'⟩,hr,h⟩:=T.bind_some h
  simp only [T.val,Option.some.injEq] at h
  subst h
  exact Ja hr
 ·simp [T.val] at h
 ·obtain⟨r,hr,h⟩:=T.bind_some h
  simp only [T.val,Option.some.injEq] at h
  subst h
  show s.H.length<=(du s.H r.2).length
  cases r.2 with
  | none=>exact Nat.le_refl _
  | some p=>simp [du,bX]
theorem F9 (ρ:Nm):∀cs:List Cell,(svs cs).map (SV.den ρ)=ah ρ cs
 | []=>rfl
 | c::r=>by rw [svs,List.map_cons,F9 ρ r];rfl
theorem HI (hT:TblOk P N) {cal:Callee AV} (hcal:dM P N cal) {nt L nm:Nat} {o:Oper} {s s':St AV} (h:(iL N cal nm o s).val=some s') (hcl:Closed N s) (hL:L<=nm) (hH:L<=s.H.length) (hd:∀d,o.dst=some d->d < nt) :
 Closed N s' /\
 ∀{ρ:Nm} {a:Act} {w:World},At N nt ρ s a w->∀{K:Act->World->Prop} {Q:Exit->Act->World->Prop},
   (∀a' w',Lands N nt L ρ s w a s' a' w'->K a' w')->o.wp P a w K Q:=by
 unfold iL at h
 split at h
 ·-- a call
  rename_i g l hcal?
  obtain⟨⟨v,H'⟩,hr,h⟩:=T.bind_some h
  simp only [T.val,Option.some.injEq] at h
  subst h
  obtain⟨hv,hC',hp,hcalls⟩:=DB (P:=P) hcal hr (pw hcl)
  refine⟨⟨kQ hcl.E hp hv,hC'.1⟩,?_⟩
  intro ρ a w hat K Q hK
  have hev:=eQ hat.em hcl hat.own.glb
  unfold callee? at hcal?
  split at hcal?
  ·-- an operation of more than one step
   simp only [Option.some.injEq] at hcal?
   split at hcal?
   ·rename_i l' h2
    cases hcal?
    have hargs:=(mw hev h2).1
    obtain⟨v',w',hrun,ρ',rfl,hO',hE'⟩:=hcalls ρ w hat.own a.eval o rfl hargs
    unfold Oper.wp
    rcases hrun with hrun | ⟨hrun,hu⟩
    ·rw [hrun]
     exact hK _ _ ⟨⟨ρ',hat.em.put hd hcl.E hE'.agree v,hO',hE'.weaken hH⟩,by cases o.dst<;>rfl⟩
    ·rw [hrun,Oper.upon_skip,<- hu]
     exact hK _ _ ⟨⟨ρ',hat.em.put hd hcl.E hE'.agree v,hO',hE'.weaken hH⟩,by cases o.dst<;>rfl⟩
   ·cases hcal?
  ·split at hcal?
   ·rename_i c hop
    split at hcal?
    ·rename_i f hf
     simp only [Option.some.injEq] at hcal?
     split at hcal?
     ·rename_i g' l' h1 h2
      split at hcal?
      ·rename_i fn hfn
       cases hcal?
       obtain⟨k1,k2,k3⟩:=hT.fn g' fn hfn
       have hargs:=(mw hev h2).1
       have hfv:=hev.den _ _ h1
       have hr':(execOp a.eval o).run P w=.ok (.enter g' (l.map (SV.den ρ)).toArray) w:=by
        obtain⟨dst,op,ty,pos,after,guard⟩:=o
        simp only at hop
        subst hop
        obtain⟨cal',args,tys⟩:=c
        simp only at hf h2 hargs
        subst hf
        have ha:args.map a.eval=(l.map (SV.den ρ)).toArray:=by
         rw [<- hargs,<- Array.toList_map,Array.toArray_toList]
        have hb:fn.body.isNone=false:=by cases hbb:fn.body<;>simp_all
        have k3':¬(fn.name == "runtime.NumGoroutine")=true:=by rw [k3];decide
        simp only [execOp,resolve,hfv,SV.den,V1.den,Cell.den,Deferred.ofValue,Sem.run_bind,Sem.run_pure,Result.andThen_ok,invoke,callFunc,program,Sem.run,k1,if_neg k3',hb,ha,Bool.false_eq_true,if_false,Array.append_empty,Array.empty_append]
       unfold Oper.wp
       rw [hr']
       show Calls P g' _ w _
       refine Calls.mono (hcalls ρ w hat.own) ?_
       rintro e w' ⟨_,rfl,ρ',rfl,hO',hE'⟩
       exact hK _ _ ⟨⟨ρ',hat.em.put hd hcl.E hE'.agree v,hO',hE'.weaken hH⟩,by cases o.dst<;>rfl⟩
      ·cases hcal?
     ·rename_i g' cs l' h1 h2
      split at hcal?
      ·rename_i fn hfn
       cases hcal?
       obtain⟨k1,k2,k3⟩:=hT.fn g' fn hfn
       have hargs:=(mw hev h2).1
       have hfv:=hev.den _ _ h1
       have hr':(execOp a.eval o).run P w=.ok (.enter g' ((l'++svs cs).map (SV.den ρ)).toArray) w:=by
        obtain⟨dst,op,ty,pos,after,guard⟩:=o
        simp only at hop
        subst hop
        obtain⟨cal',args,tys⟩:=c
        simp only at hf h2 hargs
        subst hf
        have ha:args.map a.eval=(l'.map (SV.den ρ)).toArray:=by
         rw [<- hargs,<- Array.toList_map,Array.toArray_toList]
        have hb:fn.body.isNone=false:=by cases hbb:fn.body<;>simp_all
        have k3':¬(fn.name == "runtime.NumGoroutine")=true:=by rw [k3];decide
        have hsv:(svs cs).map (SV.den ρ)=ah ρ cs:=F9 ρ cs
        simp only [execOp,resolve,hfv,SV.den,Deferred.ofValue,Sem.run_bind,Sem.run_pure,Result.andThen_ok,invoke,callFunc,program,Sem.run,k1,if_neg k3',hb,ha,Bool.false_eq_true,if_false,List.map_append,hsv,List.append_toArray,List.nil_append]
       unfold Oper.wp
       rw [hr']
       show Calls P g' _ w _
       refine Calls.mono (hcalls ρ w hat.own) ?_
       rintro e w' ⟨_,rfl,ρ',rfl,hO',hE'⟩
       exact hK _ _ ⟨⟨ρ',hat.em.put hd hcl.E hE'.agree v,hO',hE'.weaken hH⟩,by cases o.dst<;>rfl⟩
      ·cases hcal?
     ·cases hcal?
    ·rename_i r m hf
     simp only [Option.some.injEq] at hcal?
     split at hcal?
     ·rename_i tr xr l' h1 h2
      split at hcal?
      ·rename_i g' hm
       split at hcal?
       ·rename_i fn hfn
        cases hcal?
        obtain⟨k1,k2,k3⟩:=hT.fn g' fn hfn
        have hargs:=(mw hev h2).1
        have hfv:=hev.den _ _ h1
        have hr':(execOp a.eval o).run P w=.ok (.enter g' ((SV.v (.c xr)::l').map (SV.den ρ)).toArray) w:=by
         obtain⟨dst,op,ty,pos,after,guard⟩:=o
         simp only at hop
         subst hop
         obtain⟨cal',args,tys⟩:=c
         simp only at hf h2 hargs
         subst hf
         have ha:args.map a.eval=(l'.map (SV.den ρ)).toArray:=by
          rw [<- hargs,<- Array.toList_map,Array.toArray_toList]
         have hb:fn.body.isNone=false:=by cases hbb:fn.body<;>simp_all
         have k3':¬(fn.name == "runtime.NumGoroutine")=true:=by rw [k3];decide
         have hmt:=hT.mt tr m g' hm (xr.den ρ) w
         have hex:(#[Value.iface tr (xr.den ρ)]++(l'.map (SV.den ρ)).toArray).extract 1 (#[Value.iface tr (xr.den ρ)]++(l'.map (SV.den ρ)).toArray).size=(l'.map (SV.den ρ)).toArray:=by
          apply Array.ext'
          rw [Array.toList_extract]
          simp [List.extract]
          exact List.take_of_length_le (by simp)
         have h0:(#[Value.iface tr (xr.den ρ)]++(l'.map (SV.den ρ)).toArray)[0]?=some (Value.iface tr (xr.den ρ)):=by simp
         simp only [execOp,resolve,hfv,SV.den,V1.den,Cell.den,Sem.run_bind,Sem.run_pure,Result.andThen_ok,invoke,ha,h0,hex,callMethod,program,Sem.run,hmt,callFunc,k1,if_neg k3',hb,Bool.false_eq_true,if_false]
         simp [SV.den,V1.den]
        unfold Oper.wp
        rw [hr']
        show Calls P g' _ w _
        refine Calls.mono (hcalls ρ w hat.own) ?_
        rintro e w' ⟨_,rfl,ρ',rfl,hO',hE'⟩
        exact hK _ _ ⟨⟨ρ',hat.em.put hd hcl.E hE'.agree v,hO',hE'.weaken hH⟩,by cases o.dst<;>rfl⟩
       ·cases hcal?
      ·cases hcal?
     ·cases hcal?
    ·cases hcal?
   ·cases hcal?
 ·simp [T.val] at h
 ·obtain⟨r,hr,h⟩:=T.bind_some h
  simp only [T.val,Option.some.injEq] at h
  subst h
  exact Mc hT hr hcl hL hd
end
end Go.Sx
