import Derived.Test.YtadmfaohjnjajaaGreatDoorSxH
import Derived.Laws.Slices
set_option linter.unusedVariables false
set_option linter.unusedSimpArgs false
set_option maxHeartbeats 0
set_option maxRecDepth 100000
namespace Go.Sx
section
variable {AV:Type} {P:Program} {N:eI AV}
theorem zD (E:Ev) (d:Nat) (v:SV) (k:Nat):aJ (kI E (some d) v) k=if d=k then v else aJ E k:=by
 simp only [kI,aJ];by_cases h:d=k
 ·subst h;simp [afQ]
 ·rw [(bT d k).2 h,if_neg h]
theorem EM.put {ρ ρ':Nm} {nt:Nat} {E:Ev} {a:Act} (h:EM ρ nt E a) {dst:Option Nat} (hd:∀d,dst=some d->d < nt) {H:Hp AV} (hc:∀k,gf H (aJ E k)) (ha:∀n c,af H n=some c->ρ'.L n=ρ.L n) (v:SV) :
 EM ρ' nt (kI E dst v) (a.put dst (v.ay ρ')):=by
 cases dst with
 | none=>exact⟨h.size,fun k hk=>by rw [show (aJ (kI E none v) k)=aJ E k from rfl,SV.cg (hc k) ha];exact h.get k hk⟩
 | some d =>
   refine⟨by simp [Act.put,h.size],fun k hk=>?_⟩;rw [zD] at hk ⊢;have hlt:d < a.tmps.size:=by rw [h.size];exact hd d rfl
   by_cases e:d=k
   ·subst e;simp [Act.put,hlt]
   ·rw [if_neg e] at hk;rw [if_neg e,SV.cg (hc k) ha,<- h.get k hk];simp [Act.put,Array.getElem?_setIfInBounds_ne e]
theorem qw {s:St AV} {H':Hp AV} (hE:∀k,gf s.H (aJ s.E k)) (hp:∀n c,af s.H n=some c->∃c',af H' n=some c') {dst:Option Nat} {v:SV} (hv:gf H' v):∀k,gf H' (aJ (kI s.E dst v) k):=by
 intro k;cases dst with
 | none=>exact(hE k).mono hp
 | some d =>
   rw [zD];split
   ·exact hv
   ·exact(hE k).mono hp
theorem mG (H:Hp AV):gf H ee:=by intro x hx;cases hx
structure oW (N:eI AV) (nt L:Nat) (ρ:Nm) (s:St AV) (w:World) (a:Act) (s':St AV) (a':Act) (w':World):Prop where
 ex:∃ρ',EM ρ' nt s'.E a' /\ gF N ρ' s'.H w' /\ lj N L ρ s.H w ρ' s'.H w'
 df:a'.defers=a.defers
structure At (N:eI AV) (nt:Nat) (ρ:Nm) (s:St AV) (a:Act) (w:World):Prop where
 em:EM ρ nt s.E a
 own:gF N ρ s.H w
theorem Pb (row l ys:List Value) (o k j:Nat) (u:Value) (hl:o+l.length<=row.length) (hk:k+ys.length<=l.length) (h:∀(j:Nat) v,l[j]?=some v->row[o+j]?=some v)
 (hj:(l.take k++(ys++l.drop (k+ys.length)))[j]?=some u):(row.take (o+k)++(ys++row.drop (o+k+ys.length)))[o+j]?=some u:=by
 by_cases h1:j < k
 ·rw [acM (by simp;omega),aeE,if_pos h1] at hj;rw [acM (by simp;omega),aeE,if_pos (by omega)];exact h j u hj
 ·rw [acR (by simp;omega)] at hj ⊢;have e1:(l.take k).length=k:=by simp;omega
  have e2:(row.take (o+k)).length=o+k:=by simp;omega
  rw [e1] at hj;rw [e2,show o+j - (o+k)=j - k by omega];by_cases h2:j - k < ys.length
  ·rw [acM h2] at hj ⊢;exact hj
  ·rw [acR (by omega)] at hj ⊢;rw [afG] at hj ⊢;have:=h _ _ hj;rw [<- this];congr 1;omega
theorem xd {s:St AV} (h:bO N s):eX N s.H:=⟨h.H,trivial⟩
theorem aal {nt L nm:Nat} {o:Oper} {s:St AV} {gb:Option Arr} {r:SV×Option (Nat×aK AV)} (h:(oN N nm s.H gb).val=some r) (hcl:bO N s) (hL:L<=nm) (hd:∀d,o.dst=some d->d < nt)
 (hrun:∀a,gb=some a->oy s.H a.1 /\ ∀(ρ:Nm) (act:Act) (w:World),At N nt ρ s act w->∃row cap,(execOp act.eval o).run P w=.ok (.value (.slice (some ⟨w.heap.size,0,none⟩) a.2.2.2 cap)) (w.alloc (.cells row a.2.2.1)) /\ row.size=cap * a.2.1 /\ a.1.length<=cap * a.2.1 /\ ∀(j:Nat) v,(aF ρ a.1)[j]?=some v->row[j]?=some v) :
 bO N {E:=kI s.E o.dst r.1,H:=gD s.H r.2} /\
 ∀{ρ:Nm} {a:Act} {w:World},At N nt ρ s a w->∀{K:Act->World->Prop} {Q:Exit->Act->World->Prop},
   (∀a' w',oW N nt L ρ s w a {E:=kI s.E o.dst r.1,H:=gD s.H r.2} a' w'->K a' w')->o.wp P a w K Q:=by
 have hC:=xd hcl;unfold oN at h;split at h
 ·rename_i l es e len;split at h
  ·rename_i h2 h3 h4;cases h;obtain⟨hl,hrun⟩:=hrun _ rfl;simp only at hl hrun;have hlt:=(fT _ _).1 h3;have hG:=(jM _ _).1 h4;have dC:∀n c,af s.H n=some c->∃c',af (de s.H nm (some (.oB l es e))) n=some c':=fun n c h=>⟨c,by rw [bz _ (fun e=>by subst e;rw [h2] at h;cases h)];exact h⟩;have kX:=cG (H:=s.H) (.oB l es e) hlt;have ZY:gf (de s.H nm (some (.oB l es e))) (.v (.c (.vs nm 0 len es true))):=by intro c hc n hn;simp [V1.cells] at hc;subst hc;simp [Cell.name] at hn;subst hn;exact⟨_,kX⟩
   constructor
   ·refine⟨qw hcl.E dC ZY,?_⟩;intro n x hc;by_cases e:n=nm
    ·subst e;simp only [gD] at hc ⊢;rw [kX] at hc;cases hc;exact hl.mono dC
    ·simp only [gD] at hc ⊢;rw [bz _ (Ne.symm e)] at hc;exact(hcl.H n x hc).mono dC
   intro ρ a w bG K Q hK;obtain⟨row,cap,hr,q1,q2,q3⟩:=hrun ρ a w bG;obtain⟨o1,o2,_⟩:=ab6 (es:=es) (cap:=cap) (e:=e) (row:=row) bG.own hC h2 hlt hG hl hL q1 q2 q3;unfold Oper.wp;rw [hr];refine hK _ _ ⟨⟨_,?_,o1,o2⟩,by cases o.dst<;>rfl⟩;have:=bG.em.put (ρ':=ρ.set nm ⟨w.heap.size,0,cap+1⟩ fun k=>k=w.heap.size) hd hcl.E o2.kF (.v (.c (.vs nm 0 len es true)));rw [DL] at this;exact this
  ·cases h
 ·cases h
theorem akd (hT:fN P N) {nt L nm:Nat} {o:Oper} {s:St AV} {z:Option (Bool×AV×Nat×Nat)} {r:SV×Option (Nat×aK AV)} (h:(vu N nm s.H z).val=some r) (hcl:bO N s) (hL:L<=nm) (hd:∀d,o.dst=some d->d < nt)
 (hrun:∀g es len,z=some (true,g,es,len)->∀(ρ:Nm) (act:Act) (w:World),At N nt ρ s act w->∃(row:Array Value) (e:TypeId),(execOp act.eval o).run P w=.ok (.value (.slice (some ⟨w.heap.size,0,none⟩) len len)) (w.alloc (.cells row e)) /\ row.size=len * es /\ N.F.gb g=some (es,e,row.toList)) :
 bO N {E:=kI s.E o.dst r.1,H:=gD s.H r.2} /\
 ∀{ρ:Nm} {a:Act} {w:World},At N nt ρ s a w->∀{K:Act->World->Prop} {Q:Exit->Act->World->Prop},
   (∀a' w',oW N nt L ρ s w a {E:=kI s.E o.dst r.1,H:=gD s.H r.2} a' w'->K a' w')->o.wp P a w K Q:=by
 have hC:=xd hcl;unfold vu at h;split at h
 ·rename_i b g es len;split at h
  ·rename_i h2 h3 h4;obtain⟨rfl,h⟩:=fZ h;cases h;have hrun:=hrun _ _ _ rfl;have hlt:=(fT _ _).1 h3;have hG:=(jM _ _).1 h4;have dC:∀n c,af s.H n=some c->∃c',af (de s.H nm (some (.bN g))) n=some c':=fun n c h=>⟨c,by rw [bz _ (fun e=>by subst e;rw [h2] at h;cases h)];exact h⟩;have kX:=cG (H:=s.H) (.bN g) hlt;have ZY:gf (de s.H nm (some (.bN g))) (.v (.c (.vs nm 0 len es false))):=by intro c hc n hn;simp [V1.cells] at hc;subst hc;simp [Cell.name] at hn;subst hn;exact⟨_,kX⟩
   constructor
   ·refine⟨qw hcl.E dC ZY,?_⟩;intro n x hc;by_cases e:n=nm
    ·subst e;simp only [gD] at hc ⊢;rw [kX] at hc;cases hc;intro c hc;cases hc
    ·simp only [gD] at hc ⊢;rw [bz _ (Ne.symm e)] at hc;exact(hcl.H n x hc).mono dC
   intro ρ a w bG K Q hK;obtain⟨row,e,hr,q1,q2⟩:=hrun ρ a w bG;obtain⟨o1,o2,_⟩:=XE (cap:=len) bG.own hC h2 hlt hG hL q1 q2;unfold Oper.wp;rw [hr];refine hK _ _ ⟨⟨_,?_,o1,o2⟩,by cases o.dst<;>rfl⟩;have:=bG.em.put (ρ':=ρ.set nm ⟨w.heap.size,0,len+1⟩ fun k=>k=w.heap.size) hd hcl.E o2.kF (.v (.c (.vs nm 0 len es false)));have hv:(SV.v (.c (.vs nm 0 len es false))).ay (ρ.set nm ⟨w.heap.size,0,len+1⟩ fun k=>k=w.heap.size)=.slice (some ⟨w.heap.size,0,none⟩) len len:=DL;rw [hv] at this;exact this
  ·cases h
 ·cases h
theorem qn {ev:Operand->Value} {o:Oper} {t:TypeId} {x:Operand} {lo hi mx:Option Operand} {w:World} (ho:o.op=.slice t x lo hi mx) {e:TypeId} {i:TypeInfo} (hu:P.underlying t=some (.slice e)) (hi':P.info? e=some i)
 {a:Option Addr} {len cap l h m:Nat} (hx:ev x=.slice a len cap)
 (hb:(Instr.sliceBounds true len cap (lo.map ev) (hi.map ev) (mx.map ev)).run P w=.ok (l,h,m) w) :
 (execOp ev o).run P w=.ok (.value (sliced a l h m i.size)) w:=by
 obtain⟨dst,op,ty,tf,after,guard⟩:=o;simp only at ho;subst ho;have hel:P.elem t=e:=by simp [Program.elem,hu]
 have hu':P.underlying t=some (.slice (P.elem t)):=by rw [hel];exact hu
 simp [execOp,hx,run_sliceAt_slice w t _ _ _ _ hu',run_slice_any w t a len cap hu',hb,Result.andThen,sizeOf,typeInfo,hel,hi']
theorem Jm {ev:Operand->Option SV} {d n:Nat} {x:Operand} (h:CX ev d (some x)=some n):∃k,ev x=some (.v (.c (.il k (n:Int)))):=by
 simp only [CX] at h;split at h
 ·rename_i k m hx;split at h
  ·rename_i h0;cases h;refine⟨k,?_⟩;rw [hx,Int.toNat_of_nonneg (aaF h0)]
  ·cases h
 ·cases h
theorem Ey {ev:Operand->Option SV} {t:TypeId} {x:Operand} {lo hi mx:Option Operand} {p:SPt} (h:Ce ev (.slice t x lo hi mx)=some p) :
 mx=none /\ p.t=t /\ ev x=some (.v (.c (.vs p.n p.o p.len p.es true))) /\ CX ev 0 lo=some p.l /\ CX ev p.len hi=some p.h /\ p.l < p.h /\ p.h<=p.len:=by
 simp only [Ce] at h;split at h
 ·cases h
 ·split at h
  ·rename_i n o len es hx;split at h
   ·rename_i l hh h1 h2;split at h
    ·rename_i h3 h4;cases h;exact⟨rfl,rfl,hx,h1,h2,(fT _ _).1 h3,acZ h4⟩
    ·cases h
   ·cases h
  ·cases h
theorem zG {H:Hp AV} {p:SPt} {r:SV×Option (Nat×aK AV)} (h:(Ds N H p).val=some r):r=(.v (.c (.vs p.n (p.o+p.l) (p.h - p.l) p.es true)),none) /\
 ∃si Kg ty,N.sl.get p.t=some si /\ af H p.n=some (.oB Kg p.es ty) /\ p.es=si.size /\ (p.o+p.len) * p.es<=Kg.length:=by
 unfold Ds at h;split at h
 ·rename_i si Kg es2 ty h1 h2;split at h
  ·rename_i h3 h4 h5;simp only [T.val,aaf] at h;have h4:=(aG _ _).1 h4;exact⟨h.symm,si,Kg,ty,h1,by rw [h2,h4],(aG _ _).1 h3,acZ h5⟩
  ·cases h
 ·cases h
theorem VD {ρ:Nm} {H:Hp AV} {w:World} (hO:gF N ρ H w) {es n m:Nat} {l:List Cell} {ty:TypeId} (Vj:0 < es) (h:af H n=some (.oB l es ty)) (hle:m * es<=l.length):m<=(ρ.L n).c - 1:=by
 rcases hO.q n _ h with⟨_,hnil,_⟩ | ⟨_,_,row,_,_,hc,_⟩
 ·have hnil:aF ρ l=[]:=hnil;have:l.length=0:=by have:=congrArg List.length hnil;simpa [aF] using this
  have h0:m * es=0:=by omega
  rcases Nat.mul_eq_zero.1 h0 with h0 | h0<;>omega
 ·have hc:(aF ρ l).length<=((ρ.L n).c - 1) * es:=hc;simp only [aF,af1] at hc;exact Nat.le_of_mul_le_mul_right (abz hle hc) Vj
theorem Yq (hT:fN P N) {nt L nm:Nat} {o:Oper} {s:St AV} {r:SV×Option (Nat×aK AV)} (h:(lL N nm (rP N.G s.H s.E) s.H o.op).val=some r) (hcl:bO N s) (hL:L<=nm) (hd:∀d,o.dst=some d->d < nt) :
 bO N {E:=kI s.E o.dst r.1,H:=gD s.H r.2} /\
 ∀{ρ:Nm} {a:Act} {w:World},At N nt ρ s a w->∀{K:Act->World->Prop} {Q:Exit->Act->World->Prop},
   (∀a' w',oW N nt L ρ s w a {E:=kI s.E o.dst r.1,H:=gD s.H r.2} a' w'->K a' w')->o.wp P a w K Q:=by
 have hC:=xd hcl;unfold lL at h;split at h
 ·-- looks at no memory
  rename_i t ht;rw [T.gg] at h;obtain⟨v,hv,rfl⟩:=aaT.1 h;have cl:gf s.H v:=by
   have dD:Hf Nm.id s.H (rP N.G s.H s.E) (fun x=>match rP N.G s.H s.E x with | some v=>v.ay Nm.id | none=>undef) :=
    ⟨fun x v hx=>by simp [hx],fun x v hx=>yF hcl hx⟩
   exact(Ew (P:=P) hT dD (o:=o) ht hv default).2
  refine⟨⟨qw hcl.E (fun n c h=>⟨c,h⟩) cl,hcl.H⟩,?_⟩;intro ρ a w bG K Q hK;have dD:=jx bG.em hcl bG.own.rU;have hr:=(Ew (P:=P) hT dD (o:=o) ht hv w).1;unfold Oper.wp;rw [hr];exact hK _ _ ⟨⟨ρ,bG.em.put hd hcl.E (fun _ _ _=>rfl) v,bG.own,lj.refl _ _ _ _⟩,by cases o.dst<;>rfl⟩
 ·split at h
  ·-- alloc
   rename_i t oT;split at h
   ·rename_i kd sz z fl h1 h2 h3 h4;cases h;have hlt:=(fT _ _).1 h3;have hG:=(jM _ _).1 h4;obtain⟨v0,hz,hzc,Oy⟩:=y4 hT h1 rfl Nm.id;have GP:oy s.H z:=iT Oy;have dC:∀n c,af s.H n=some c->∃c',af (de s.H nm (some (.cells z t))) n=some c':=fun n c h=>⟨c,by rw [bz _ (fun e=>by subst e;rw [h2] at h;cases h)];exact h⟩;have kX:=cG (H:=s.H) (.cells z t) hlt;have ZY:gf (de s.H nm (some (.cells z t))) (.v (.c (.ptr nm 0))):=by intro c hc n hn;simp [V1.cells] at hc;subst hc;simp [Cell.name] at hn;subst hn;exact⟨_,kX⟩
    constructor
    ·refine⟨qw hcl.E dC ZY,?_⟩
     ·intro n x hc;by_cases e:n=nm
      ·subst e;simp only [gD] at hc ⊢;rw [kX] at hc;cases hc;exact GP.mono dC
      ·simp only [gD] at hc ⊢;rw [bz _ (Ne.symm e)] at hc;exact(hcl.H n x hc).mono dC
    intro ρ a w bG K Q hK;obtain⟨v0,hz,hzc,_⟩:=y4 hT h1 rfl ρ;obtain⟨o1,o2,_⟩:=HR bG.own hC h2 hlt hG t GP hL;have hr:(execOp a.eval o).run P w=.ok (.value (.pointer (some ⟨w.heap.size,0,none⟩))) (w.alloc (.cells (aF ρ z).toArray t)):=by
     obtain⟨dst,op,ty,tf,after,guard⟩:=o;simp only at oT;subst oT;have YS:v0.cells=(aF ρ z).toArray:=by rw [<- hzc]
     simp [execOp,Instr.alloc,hz,newVar,newRow,newObj,Sem.run,YS]
    unfold Oper.wp;rw [hr];refine hK _ _ ⟨⟨_,?_,o1,o2⟩,by cases o.dst<;>rfl⟩;have:=bG.em.put (ρ':=ρ.set nm ⟨w.heap.size,0,0⟩ fun _=>False) hd hcl.E o2.kF (.v (.c (.ptr nm 0)));simpa [SV.ay,V1.ay,Cell.ay,Nm.f,Nm.set] using this
   ·cases h
  ·-- box
   rename_i t x oT;split at h
   ·rename_i v h1 h2 h3 h4;cases h;have hlt:=(fT _ _).1 h3;have hG:=(jM _ _).1 h4;have hvl:oy s.H v.cells:=yF hcl h1;have dC:∀n c,af s.H n=some c->∃c',af (de s.H nm (some (.cells v.cells t))) n=some c':=fun n c h=>⟨c,by rw [bz _ (fun e=>by subst e;rw [h2] at h;cases h)];exact h⟩;have kX:=cG (H:=s.H) (.cells v.cells t) hlt;have ZY:gf (de s.H nm (some (.cells v.cells t))) (.v (.c (.ptr nm 0))):=by intro c hc n hn;simp [V1.cells] at hc;subst hc;simp [Cell.name] at hn;subst hn;exact⟨_,kX⟩
    constructor
    ·refine⟨qw hcl.E dC ZY,?_⟩
     ·intro n x hc;by_cases e:n=nm
      ·subst e;simp only [gD] at hc ⊢;rw [kX] at hc;cases hc;exact hvl.mono dC
      ·simp only [gD] at hc ⊢;rw [bz _ (Ne.symm e)] at hc;exact(hcl.H n x hc).mono dC
    intro ρ a w bG K Q hK;have dD:=jx bG.em hcl bG.own.rU;obtain⟨o1,o2,_⟩:=HR bG.own hC h2 hlt hG t hvl hL;have hr:(execOp a.eval o).run P w=.ok (.value (.pointer (some ⟨w.heap.size,0,none⟩))) (w.alloc (.cells (aF ρ v.cells).toArray t)):=by
     obtain⟨dst,op,ty,tf,after,guard⟩:=o;simp only at oT;subst oT;have atZ:(v.ay ρ).cells=(aF ρ v.cells).toArray:=by rw [<- V1.nY ρ v]
     simp [execOp,Instr.box,dD.ay _ _ h1,SV.ay,newVar,newRow,newObj,Sem.run,atZ]
    unfold Oper.wp;rw [hr];refine hK _ _ ⟨⟨_,?_,o1,o2⟩,by cases o.dst<;>rfl⟩;have:=bG.em.put (ρ':=ρ.set nm ⟨w.heap.size,0,0⟩ fun _=>False) hd hcl.E o2.kF (.v (.c (.ptr nm 0)));simpa [SV.ay,V1.ay,Cell.ay,Nm.f,Nm.set] using this
   ·cases h
  ·-- load
   rename_i t x oT;split at h
   ·rename_i p h1;rw [T.gg] at h;obtain⟨v,hv,rfl⟩:=aaT.1 h;have cl:gf s.H v:=by
     unfold Fg at hv;split at hv
     ·split at hv
      ·rename_i hn;obtain⟨x',hx,rfl⟩:=oe hv;exact km hx (hcl.H _ _ hn)
      ·rename_i a hn;split at hv
       ·rename_i l hw;obtain⟨x',hx,rfl⟩:=oe hv;exact km hx (iT fun c hc=>N.F.wy _ _ hw c hc)
       ·cases hv
      ·cases hv
     ·split at hv
      ·rename_i a hn;split at hv
       ·rename_i t' ht;unfold ahH at ht;split at ht
        ·rename_i i hi;split at ht
         ·rename_i b l hp;cases ht;obtain⟨rfl,hv⟩:=fZ hv;obtain⟨x',hx,rfl⟩:=oe hv;have Ko:sH N t l 0=some x':=by unfold sH;rw [hi];exact hx
          exact km Ko (iT fun c hc=>N.F.A0 _ _ _ _ _ _ hp c hc)
         ·cases ht
        ·cases ht
       split at hv
       ·rename_i b l hr;obtain⟨rfl,hv⟩:=fZ hv;obtain⟨x',hx,rfl⟩:=oe hv;refine km hx (iT fun c hc=>?_);exact N.F.uV _ _ _ _ hr c hc
       ·cases hv
      ·rename_i hn;obtain⟨x',hx,rfl⟩:=oe hv;exact km hx (hcl.H _ _ hn)
      ·cases hv
     ·cases hv
    refine⟨⟨qw hcl.E (fun n c h=>⟨c,h⟩) cl,hcl.H⟩,?_⟩;intro ρ a w bG K Q hK;have dD:=jx bG.em hcl bG.own.rU;have hr:=(Yk (P:=P) hT bG.own hC hv).1;have PS:(execOp a.eval o).run P w=.ok (.value (v.ay ρ)) w:=by obtain⟨dst,op,ty,tf,after,guard⟩:=o;simp only at oT;subst oT;simp only [execOp,aaY,dD.ay _ _ h1,hr,aaX,aa0]
    unfold Oper.wp;rw [PS];exact hK _ _ ⟨⟨ρ,bG.em.put hd hcl.E (fun _ _ _=>rfl) v,bG.own,lj.refl _ _ _ _⟩,by cases o.dst<;>rfl⟩
   ·cases h
  ·-- store
   rename_i t x y oT;split at h
   ·rename_i n off v h1 h2;split at h
    ·rename_i l ty i h3 h4;split at h
     ·rename_i h5;split at h
      ·rename_i l' h6;cases h;have h5:=(aG _ _).1 h5;have hvl:oy s.H v.cells:=yF hcl h2;have Co:oy s.H l':=by
        intro c hc;rw [(lput_eq h6).1] at hc;rcases adg.1 hc with hc | hc
        ·rcases adg.1 hc with hc | hc
         ·exact hcl.H n _ h3 c (List.mem_of_mem_take hc)
         ·exact hvl c hc
        ·exact hcl.H n _ h3 c (List.mem_of_mem_drop hc)
       have kX:=cG (H:=s.H) (.cells l' ty) (b7 h3);have dC:∀m c,af s.H m=some c->∃c',af (de s.H n (some (.cells l' ty))) m=some c':=fun m c h=>by
        by_cases e:m=n
        ·subst e;exact⟨_,kX⟩
        ·exact⟨c,by rw [bz _ (Ne.symm e)];exact h⟩
       constructor
       ·refine⟨qw hcl.E dC (mG _),?_⟩
        ·intro m x2 hc;simp only [gD] at hc ⊢;by_cases e:m=n
         ·subst e;rw [kX] at hc;cases hc;exact Co.mono dC
         ·rw [bz _ (Ne.symm e)] at hc;exact(hcl.H m x2 hc).mono dC
       intro ρ a w bG K Q hK;have dD:=jx bG.em hcl bG.own.rU;obtain⟨o1,o2,_⟩:=TR bG.own hC h3 Co L;have hr:=Tj (P:=P) (v:=v) hT bG.own h3 h4 h5 h6;have PS:(execOp a.eval o).run P w=.ok .skip (w.setRow (ρ n) (aF ρ l').toArray):=by obtain⟨dst,op,ty,tf,after,guard⟩:=o;simp only at oT;subst oT;simp only [execOp,aaY,dD.ay _ _ h1,dD.ay _ _ h2,SV.ay,V1.ay,Cell.ay];erw [hr];rfl
       unfold Oper.wp;rw [PS];exact hK _ _ ⟨⟨ρ,bG.em.put hd hcl.E (fun _ _ _=>rfl) ee,o1,o2⟩,by cases o.dst<;>rfl⟩
      ·cases h
     ·cases h
    ·cases h
   ·-- an aq3 element
    rename_i n idx es off v h1 h2;have hvl:oy s.H v.cells:=yF hcl h2;have shut:∀ck KM:aK AV,af s.H n=some ck->oy s.H KM.cellsOf->bO N {E:=kI s.E o.dst ee,H:=gD s.H (some (n,KM))}:=by
     intro ck KM h3 Co;have kX:=cG (H:=s.H) KM (b7 h3);have dC:∀m c,af s.H m=some c->∃c',af (de s.H n (some KM)) m=some c':=fun m c h=>by
      by_cases e:m=n
      ·subst e;exact⟨_,kX⟩
      ·exact⟨c,by rw [bz _ (Ne.symm e)];exact h⟩
     refine⟨qw hcl.E dC (mG _),?_⟩;intro m x2 hc;simp only [gD] at hc ⊢;by_cases e:m=n
     ·subst e;rw [kX] at hc;cases hc;exact Co.mono dC
     ·rw [bz _ (Ne.symm e)] at hc;exact(hcl.H m x2 hc).mono dC
    split at h
    ·rename_i l ve ty i h3 h4;split at h
     ·rename_i h5;have h5:=(aG _ _).1 h5;split at h
      ·cases h
      rename_i h50;have h50:=(bT _ _).1 h50;split at h
      ·rename_i l' h6;cases h;obtain⟨e1,e2⟩:=lput_eq h6;have Co:oy s.H l':=by
        intro c hc;rw [e1] at hc;rcases adg.1 hc with hc | hc
        ·rcases adg.1 hc with hc | hc
         ·exact hcl.H n _ h3 c (List.mem_of_mem_take hc)
         ·exact hvl c hc
        ·exact hcl.H n _ h3 c (List.mem_of_mem_drop hc)
       refine⟨shut _ (.oB l' ve ty) h3 Co,?_⟩;intro ρ a w bG K Q hK;have dD:=jx bG.em hcl bG.own.rU;have hq:=bG.own.q n _ h3;rcases hq with⟨_,h0,_⟩ | ⟨q1,q2,row,q3,q4,q5,q6⟩
       ·have hl0:l=[]:=by simpa [aF] using h0
        subst hl0;have e2':idx * es+off+v.cells.length<=0:=e2;omega
       ·have hll:l.length<=((ρ.L n).c - 1) * ve:=by simpa [aF] using q5
        have hr:=y7 (P:=P) (ρ:=ρ) (off:=(ρ.L n).o+(idx * es+off)) (v:=v) hT q3 h4 h5 (by omega);have hlen:l'.length=l.length:=by rw [e1];simp;omega
        obtain⟨o1,o2,_⟩:=A5 bG.own hC h3 (KM:=.oB l' ve ty) Co L (row:=(row.take ((ρ.L n).o+(idx * es+off))++(aF ρ v.cells++row.drop ((ρ.L n).o+(idx * es+off)+v.cells.length))).toArray) ((q2 _).2 rfl) (fun _ h=>h) (by
         refine .inr ⟨q1,q2,_,setRow_heap w (ρ n) _ _ ty (0,0) q3,?_,?_,?_⟩
         ·simp [eC];omega
         ·rw [eC,hlen];exact hll
         ·intro j u hj;rw [e1] at hj;simp only [aF,adA,List.map_take,List.map_drop] at hj;have hlr:(ρ.L n).o+l.length<=row.length:=by omega
          rw [acA] at hj;have:=Pb row (aF ρ l) (aF ρ v.cells) (ρ.L n).o (idx * es+off) j u (by simpa [aF] using hlr) (by simpa [aF] using e2) q6 (by simpa [aF] using hj);simpa [eC] using this)
        have PS:(execOp a.eval o).run P w=.ok .skip (w.setRow (ρ n) (row.take ((ρ.L n).o+(idx * es+off))++(aF ρ v.cells++row.drop ((ρ.L n).o+(idx * es+off)+v.cells.length))).toArray):=by
         obtain⟨dst,op,ty,tf,after,guard⟩:=o;simp only at oT;subst oT;have e0:(ρ.L n).o+idx * es+off=(ρ.L n).o+(idx * es+off):=by omega
         simp only [execOp,aaY,dD.ay _ _ h1,dD.ay _ _ h2,SV.ay,V1.ay,Cell.ay,e0];erw [hr];rfl
        unfold Oper.wp;rw [PS];exact hK _ _ ⟨⟨ρ,bG.em.put hd hcl.E (fun _ _ _=>rfl) ee,o1,o2⟩,by cases o.dst<;>rfl⟩
      ·cases h
     ·cases h
    ·rename_i a i h3 h4;split at h
     ·rename_i h5;have h5:=(aG _ _).1 h5;split at h
      ·rename_i b a' h6;obtain⟨rfl,h⟩:=fZ h;cases h;refine⟨shut _ (.bN a') h3 (by intro c hc;cases hc),?_⟩;intro ρ act w bG K Q hK;have dD:=jx bG.em hcl bG.own.rU;have hq:N.F.q a (ρ.L n) (ρ.S n) w:=bG.own.q n _ h3;obtain⟨u1,u2,row,ty,u3,u4,u5⟩:=N.F.yd a (ρ.L n) (ρ.S n) w idx es off v.cells a' hq h6;have ai1:aF ρ v.cells=aF Nm.id v.cells:=by unfold aF;apply adb;intro c hc;exact cg c fun m hm=>by rw [u1 c hc] at hm;cases hm
       have hr:=y7 (P:=P) (ρ:=ρ) (off:=(ρ.L n).o+idx * es+off) (v:=v) hT u3 h4 h5 u4;rw [ai1] at hr;obtain⟨o1,o2,_⟩:=A5 bG.own hC h3 (KM:=.bN a') (by intro c hc;cases hc) L u2 (fun _ h=>h) u5;have PS:(execOp act.eval o).run P w=.ok .skip (w.setRow (ρ n) (row.take ((ρ.L n).o+idx * es+off)++(aF Nm.id v.cells++row.drop ((ρ.L n).o+idx * es+off+v.cells.length))).toArray):=by obtain⟨dst,op,ty,tf,after,guard⟩:=o;simp only at oT;subst oT;simp only [execOp,aaY,dD.ay _ _ h1,dD.ay _ _ h2,SV.ay,V1.ay,Cell.ay];erw [hr];rfl
       unfold Oper.wp;rw [PS];exact hK _ _ ⟨⟨ρ,bG.em.put hd hcl.E (fun _ _ _=>rfl) ee,o1,o2⟩,by cases o.dst<;>rfl⟩
      ·cases h
     ·cases h
    ·cases h
   ·cases h
  ·-- make
   rename_i t x y oT;unfold zH at h;split at h
   ·rename_i azf aoM;refine aal (P:=P) h hcl hL hd fun gb Nx=>?_;rw [<- aoM] at Nx;obtain⟨_,_,_,_,_,_,uv,_⟩:=MJ (P:=P) hT Nx default Nm.id;refine⟨iT uv,fun ρ act w bG=>?_⟩;obtain⟨kl,kc,n,c,h1,h2,_,row,cap,hr,q⟩:=MJ (P:=P) hT Nx w ρ;have dD:=jx bG.em hcl bG.own.rU;refine⟨row,cap,?_,q⟩;obtain⟨dst,op,ty,tf,after,guard⟩:=o;simp only at oT;subst oT;simp only [execOp,dD.ay _ _ h1,dD.ay _ _ h2,SV.ay,V1.ay,Cell.ay,aaY,hr,aaX,aa0]
   ·refine akd (P:=P) hT h hcl hL hd fun g es len hz ρ act w bG=>?_;obtain⟨vx,vy,kl,kc,n,c,h1,h2,d1,d2,row,e,hr,q⟩:=XI (P:=P) hT hz w;have dD:=jx bG.em hcl bG.own.rU;refine⟨row,e,?_,q⟩;obtain⟨dst,op,ty,tf,after,guard⟩:=o;simp only at oT;subst oT;simp only [execOp,dD.ay _ _ h1,dD.ay _ _ h2,SV.ay,V1.ay,d1,d2,aaY,hr,aaX,aa0]
  ·-- the aac of a slice
   rename_i t len parts oT;refine aal (P:=P) h hcl hL hd fun gb Nx=>?_
   have atL:Hf Nm.id s.H (rP N.G s.H s.E) (fun x=>match rP N.G s.H s.E x with | some v=>v.ay Nm.id | none=>undef) :=
    ⟨fun x v hx=>by simp [hx],fun x v hx=>yF hcl hx⟩
   refine⟨(Gc (P:=P) hT atL Nx default).1,fun ρ act w bG=>?_⟩;have dD:=jx bG.em hcl bG.own.rU;obtain⟨_,row,cap,hr,q⟩:=Gc (P:=P) hT dD Nx w;refine⟨row,cap,?_,q⟩;obtain⟨dst,op,ty,tf,after,guard⟩:=o;simp only at oT;subst oT;simp only [execOp,aaY];erw [hr];rfl
  ·-- a part of a known slice
   rename_i t x lo hi mx oT;split at h
   ·rename_i p hp;obtain⟨rfl,ht,hx,hlo,hhi,hlt,hle⟩:=Ey hp;obtain⟨rfl,si,Kg,ty,hs,hn,Vj,hfit⟩:=zG h;obtain⟨hu,i,z,hii,_,e1,_,kM,_⟩:=pT (hT.sl _ si hs);have ZY:gf s.H (.v (.c (.vs p.n (p.o+p.l) (p.h - p.l) p.es true))):=by intro c hc m hm;simp [V1.cells] at hc;subst hc;simp [Cell.name] at hm;subst hm;exact⟨_,hn⟩
    refine⟨⟨qw hcl.E (fun n c h=>⟨c,h⟩) ZY,hcl.H⟩,?_⟩;intro ρ a w bG K Q hK;have dD:=jx bG.em hcl bG.own.rU;have hf:=VD bG.own (by omega) hn hfit;have hxd:a.eval x=.slice (some ⟨ρ p.n,(ρ.L p.n).o+p.o * p.es,none⟩) p.len ((ρ.L p.n).c - 1 - p.o):=by rw [dD.ay _ _ hx];show cH (ρ.L p.n) p.o p.len p.es=_;unfold cH;rw [if_neg (by omega)]
    have hb:(Instr.sliceBounds true p.len ((ρ.L p.n).c - 1 - p.o) (lo.map a.eval) (hi.map a.eval) (none:Option Value)).run P w=.ok (p.l,p.h,(ρ.L p.n).c - 1 - p.o) w:=by
     have b1:∀y:Operand,lo=some y->∃k,a.eval y=.int k (p.l:Int):=fun y hy=>by subst hy;obtain⟨k,hk⟩:=Jm hlo;exact⟨k,by rw [dD.ay _ _ hk];rfl⟩
     have b2:∀y:Operand,hi=some y->∃k,a.eval y=.int k (p.h:Int):=fun y hy=>by subst hy;obtain⟨k,hk⟩:=Jm hhi;exact⟨k,by rw [dD.ay _ _ hk];rfl⟩
     have c1:p.h<=(ρ.L p.n).c - 1 - p.o:=by omega
     have c2:p.l<=p.h:=by omega
     cases lo with
     | none =>
       simp only [CX,aaf] at hlo;cases hi with
       | none =>simp only [CX,aaf] at hhi;simp [Instr.sliceBounds,<- hhi,<- hlo,run_sliceBound]
       | some y =>obtain⟨k,hk⟩:=b2 y rfl;simp [Instr.sliceBounds,hk,run_sliceBound,c1,<- hlo]
     | some y =>
       obtain⟨k,hk⟩:=b1 y rfl;cases hi with
       | none =>simp only [CX,aaf] at hhi;simp [Instr.sliceBounds,hk,run_sliceBound,hhi,c2]
       | some y2 =>obtain⟨k2,hk2⟩:=b2 y2 rfl;simp [Instr.sliceBounds,hk,hk2,run_sliceBound,c1,c2]
    have hr:=qn (P:=P) (ev:=a.eval) (o:=o) (w:=w) oT (by rw [<- ht];exact hu) hii hxd hb;unfold Oper.wp;rw [hr];refine hK _ _ ⟨⟨ρ,?_,bG.own,lj.refl _ _ _ _⟩,by cases o.dst<;>rfl⟩;have:=bG.em.put (ρ':=ρ) hd hcl.E (fun _ _ _=>rfl) (.v (.c (.vs p.n (p.o+p.l) (p.h - p.l) p.es true)));have hv:(SV.v (.c (.vs p.n (p.o+p.l) (p.h - p.l) p.es true))).ay ρ=sliced (some ⟨ρ p.n,(ρ.L p.n).o+p.o * p.es,none⟩) p.l p.h ((ρ.L p.n).c - 1 - p.o) i.size:=by
     simp only [SV.ay,V1.ay,Cell.ay,cH,sliced];have z1:¬(p.h - p.l=0 /\ (ρ.L p.n).c=0):=fun h=>by omega
     have z3:¬((ρ.L p.n).c - 1 - p.o=p.l):=by omega
     rw [if_neg z1,e1,<- Vj];by_cases q4:p.l=0
     ·simp [q4,Addr.add,Nm.f]
     ·have dE:p.l * p.es≠0:=Nat.mul_ne_zero q4 (by omega);rw [show (p.o+p.l) * p.es=p.o * p.es+p.l * p.es from aei _ _ _,show (ρ.L p.n).c - 1 - (p.o+p.l)=(ρ.L p.n).c - 1 - p.o - p.l by omega,<- adr];simp [Addr.add,dE,z3,Nm.f]
    rw [hv] at this;exact this
   ·cases h
  ·cases h
end
section
variable {AV:Type} {P:Program} {N:eI AV}
theorem sR (R:List Nat):∀(H:Hp AV) (i n:Nat),af (jT R i H) n=if iH R (i+n)=true then af H n else none
 | [],i,n=>by simp [jT,af]
 | x::r,i,0=>by simp only [jT,af,Nat.add_zero];cases iH R i<;>simp
 | x::r,i,n+1=>by simp only [jT,af];rw [sR R r (i+1) n];simp only [adr,Nat.add_comm 1 n]
theorem qf (R:List Nat):∀(H:Hp AV) (i:Nat),(jT R i H).length=H.length
 | [],_=>rfl
 | _::r,i=>by simp [jT,qf R r (i+1)]
theorem pS:∀{A B:Hp AV},xL A B=true->A.length<=B.length /\ (∀n c,af A n=some c->∃c',af B n=some c') /\ (∀n,n < A.length->af A n=none->af B n=none)
 | [],B,_=>by simp [af]
 | x::r,[],h=>by cases x<;>simp [xL] at h
 | none::r,none::q,h=>by
   simp only [xL] at h;obtain⟨h1,h2,h3⟩:=pS h;refine⟨by simp;exact h1,fun n c hc=>?_,fun n hn hc=>?_⟩
   ·cases n with
    | zero=>simp [af] at hc
    | succ n=>exact h2 n c hc
   ·cases n with
    | zero=>rfl
    | succ n=>exact h3 n (by simpa using hn) hc
 | none::r,some y::q,h=>by simp [xL] at h
 | some x::r,none::q,h=>by simp [xL] at h
 | some x::r,some y::q,h=>by
   simp only [xL] at h;obtain⟨h1,h2,h3⟩:=pS h;refine⟨by simp;exact h1,fun n c hc=>?_,fun n hn hc=>?_⟩
   ·cases n with
    | zero=>exact⟨y,rfl⟩
    | succ n=>exact h2 n c hc
   ·cases n with
    | zero=>simp [af] at hc
    | succ n=>exact h3 n (by simpa using hn) hc
theorem mc (R:List Nat):∀(H B:Hp AV) (i n:Nat),H.length<=B.length ->
 af (dr R i H B) n=if n < H.length then(match af H n with | none=>none | some x=>if iH R (i+n)=true then af B n else some x) else af B n
 | [],B,i,n,_=>by simp [dr]
 | x::r,[],i,n,h=>by simp at h
 | none::r,y::q,i,0,_=>by simp [dr,af]
 | some x::r,y::q,i,0,_=>by simp only [dr,af,Nat.add_zero,aaQ,Nat.zero_lt_succ,if_true];cases iH R i<;>simp
 | none::r,y::q,i,n+1,h=>by simp only [dr,af];rw [mc R r q (i+1) n (by simpa using h)];simp only [adr,Nat.add_comm 1 n,aaQ,Nat.add_lt_add_iff_right]
 | some x::r,y::q,i,n+1,h=>by simp only [dr,af];rw [mc R r q (i+1) n (by simpa using h)];simp only [adr,Nat.add_comm 1 n,aaQ,Nat.add_lt_add_iff_right]
theorem pU (R:List Nat):∀(H B:Hp AV) (i:Nat),H.length<=B.length->(dr R i H B).length=B.length
 | [],B,_,_=>by simp [dr]
 | x::r,[],i,h=>by simp at h
 | none::r,y::q,i,h=>by simp [dr,pU R r q (i+1) (by simpa using h)]
 | some x::r,y::q,i,h=>by simp [dr,pU R r q (i+1) (by simpa using h)]
def KZ (P:Program) (g:Tgt) (vs:List Value) (w:World) (K:Value->World->Prop):Prop :=
 match g with
 | .fn f=>Calls P f vs.toArray w fun e w'=>∃v,e=.returned v /\ K v w'
 | .op op=>∀(ev:Operand->Value) (o:Oper),o.op=op->op.operands.toList.map ev=vs->∃v w',((execOp ev o).run P w=.ok (.value v) w' \/ ((execOp ev o).run P w=.ok .skip w' /\ v=undef)) /\ K v w'
theorem KZ.mono {P:Program} {g:Tgt} {vs:List Value} {w:World} {K K':Value->World->Prop} (h:KZ P g vs w K) (hk:∀v w',K v w'->K' v w'):KZ P g vs w K':=by
 cases g with
 | fn f=>exact Calls.mono h fun e w' ⟨v,he,hv⟩=>⟨v,he,hk v w' hv⟩
 | op o=>exact fun ev o' ho hv=>let ⟨v,w',h1,h2⟩:=h ev o' ho hv;⟨v,w',h1,hk v w' h2⟩
def gZ (P:Program) (N:eI AV) (cX:Callee AV):Prop :=
 ∀(f:Tgt) (args:List SV) (H:Hp AV) (v:SV) (H':Hp AV),(cX f args H).val=some (v,H')->(∀x∈args,gf H x)->eX N H ->
   gf H' v /\ eX N H' /\ ∀(ρ:Nm) (w:World),gF N ρ H w ->
    KZ P f (args.map (SV.ay ρ)) w fun e w'=>∃ρ',e=v.ay ρ' /\ gF N ρ' H' w' /\ lj N H.length ρ H w ρ' H' w'
theorem Oc {cX:Callee AV} (cR:gZ P N cX) {gn:List Nat} {f:Tgt} {args:List SV} {H:Hp AV} {v:SV} {H':Hp AV} (h:(xV cX gn f args H).val=some (v,H')) (hC:eX N H) :
 gf H' v /\ eX N H' /\ (∀n c,af H n=some c->∃c',af H' n=some c') /\ ∀(ρ:Nm) (w:World),gF N ρ H w ->
  KZ P f (args.map (SV.ay ρ)) w fun e w'=>∃ρ',e=v.ay ρ' /\ gF N ρ' H' w' /\ lj N H.length ρ H w ρ' H' w':=by
 unfold xV at h;generalize kS H 400 (iP args++gn) []=R at h;simp only at h;split at h
 ·cases h
 ·rename_i bZ;split at h
  ·cases h
  ·rename_i IB;obtain⟨⟨v',B⟩,hr,h⟩:=T.bq h;simp only at h;split at h
   ·cases h
   ·rename_i uu;cases h;obtain⟨hlen,hp1,hp2⟩:=pS uu;rw [qf] at hlen;have hA:∀n,af (jT R 0 H) n=if iH R n=true then af H n else none:=fun n=>by rw [sR,aby]
    have hM:∀n,af (dr R 0 H B) n=if n < H.length then(match af H n with | none=>none | some x=>if iH R n=true then af B n else some x) else af B n:=fun n=>by rw [mc _ _ _ _ _ hlen,aby]
    have hCA:eX N (jT R 0 H):=by exact⟨jH.1 IB,trivial⟩
    obtain⟨hv,hCB,Bx⟩:=cR f args _ _ _ hr (qx.1 bZ) hCA;have seen:∀n c,af B n=some c->n < H.length->iH R n=true /\ ∃x,af H n=some x:=by
     intro n c hc hn;cases hAn:af (jT R 0 H) n with
     | none =>have:=hp2 n (by rw [qf];exact hn) hAn;rw [this] at hc;cases hc
     | some x =>
       rw [hA] at hAn;split at hAn
       ·rename_i hs;exact⟨hs,x,hAn⟩
       ·cases hAn
    have toM:∀n c,af B n=some c->af (dr R 0 H B) n=some c:=by
     intro n c hc;rw [hM];by_cases hn:n < H.length
     ·obtain⟨hs,x,hx⟩:=seen n c hc hn;rw [if_pos hn,hx];simp only [hs,if_true];exact hc
     ·rw [if_neg hn];exact hc
    have Xz:∀n c,af H n=some c->∃c',af (dr R 0 H B) n=some c':=by
     intro n c hc;have hn:=b7 hc;by_cases hs:iH R n=true
     ·obtain⟨c',oU⟩:=hp1 n c (by rw [hA,if_pos hs];exact hc);exact⟨c',toM n c' oU⟩
     ·exact⟨c,by rw [hM,if_pos hn,hc];simp [hs]⟩
    have su:∀n c,af (dr R 0 H B) n=some c->(af B n=some c /\ ¬(n < H.length /\ ¬iH R n=true)) \/ (af H n=some c /\ n < H.length /\ ¬iH R n=true):=by
     intro n c hc;rw [hM] at hc;split at hc
     ·rename_i hn;split at hc
      ·cases hc
      ·rename_i x hx;split at hc
       ·rename_i hs;exact .inl ⟨hc,fun h=>h.2 hs⟩
       ·rename_i hs;cases hc;exact .inr ⟨hx,hn,hs⟩
     ·rename_i hn;exact .inl ⟨hc,fun h=>hn h.1⟩
    have hCM:eX N (dr R 0 H B):=by
     refine⟨fun n x hc=>?_,trivial⟩;rcases su n _ hc with⟨hb,_⟩ | ⟨hh,_⟩
     ·exact(hCB.1 n x hb).mono fun m c hm=>⟨c,toM m c hm⟩
     ·exact(hC.1 n x hh).mono Xz
    refine⟨hv.mono fun m c hm=>⟨c,toM m c hm⟩,hCM,Xz,?_⟩;intro ρ w hO;have hOA:gF N ρ (jT R 0 H) w:=by
     have sub:∀n c,af (jT R 0 H) n=some c->af H n=some c:=fun n c hc=>by
      rw [hA] at hc;split at hc
      ·exact hc
      ·cases hc
     exact hO.sub ⟨fun n c hc=>hO.q n c (sub n c hc),fun n m c d uv hc hd=>hO.qR n m c d uv (sub n c hc) (sub m d hd),hO.rU⟩ fun n c k hc hk=>⟨n,c,sub n c hc,hk⟩
    have sub:∀n c,af (jT R 0 H) n=some c->af H n=some c /\ iH R n=true:=fun n c hc=>by
     rw [hA] at hc;split at hc
     ·rename_i hs;exact⟨hc,hs⟩
     ·cases hc
    refine(Bx ρ w hOA).mono ?_;rintro e w₁ ⟨ρ₁,rfl,Zg,hE⟩;let ρ':Nm:=⟨fun n=>if n < H.length /\ ¬iH R n=true then ρ.L n else ρ₁.L n,fun n=>if n < H.length /\ ¬iH R n=true then ρ.S n else ρ₁.S n⟩;have hB2:∀n c,af B n=some c->¬(n < H.length /\ ¬iH R n=true):=fun n c hc ⟨hn,hs⟩=>hs (seen n c hc hn).1;have hB':∀n c,af B n=some c->ρ'.L n=ρ₁.L n:=fun n c hc=>if_neg (hB2 n c hc);have hBS:∀n c,af B n=some c->ρ'.S n=ρ₁.S n:=fun n c hc=>if_neg (hB2 n c hc);have hH':∀n c,af H n=some c->ρ'.L n=ρ.L n:=by
     intro n c hc;show (if _ then _ else _)=_;by_cases hs:iH R n=true
     ·rw [if_neg (fun h=>h.2 hs)];exact hE.kF n c (by rw [hA,if_pos hs];exact hc)
     ·rw [if_pos ⟨b7 hc,hs⟩]
    have hHS:∀n c,af H n=some c->¬iH R n=true->ρ'.S n=ρ.S n:=fun n c hc hs=>if_pos ⟨b7 hc,hs⟩;refine⟨ρ',by rw [SV.cg hv hB'],hO.up2 ⟨⟨?_,?_,?_⟩,⟨Xz,hH',?_,?_,?_,?_,hE.os,hE.tape,hE.output,hE.size⟩⟩⟩
    ·intro n c hc;rcases su n c hc with⟨hb,vD⟩ | ⟨hh,hn,hs⟩
     ·exact o7 (Zg.q n c hb) (hB' n c hb) (hBS n c hb) (eV (hCB.1 n c hb) hB') (fun _ _=>rfl)
     ·refine o7 (hO.q n c hh) (hH' n c hh) (hHS n c hh hs) (eV (hC.1 n c hh) hH') (fun k hk=>?_);refine hE.mW k (hO.lt hh hk) fun m d hd eh=>?_;obtain⟨Bw,Dv⟩:=sub m d hd;exact hO.qR m n d c (fun e=>hs (e▸Dv)) Bw hh k eh hk
    ·intro n m c d uv hc hd k hk eh;rcases su n c hc with⟨hb,_⟩ | ⟨hh,hn,hs⟩
     ·rw [cY (hB' n c hb) (hBS n c hb)] at hk;rcases su m d hd with⟨hb2,_⟩ | ⟨hh2,hn2,hs2⟩
      ·rw [cY (hB' m d hb2) (hBS m d hb2)] at eh;exact Zg.qR n m c d uv hb hb2 k hk eh
      ·rw [cY (hH' m d hh2) (hHS m d hh2 hs2)] at eh;rcases hE.new n c k hb hk with h1 | ⟨q,x,hq,hkq⟩
       ·have:=hO.lt hh2 eh;omega
       ·obtain⟨hq',hsq⟩:=sub q x hq;exact hO.qR q m x d (fun e=>hs2 (e▸hsq)) hq' hh2 k hkq eh
     ·rw [cY (hH' n c hh) (hHS n c hh hs)] at hk;rcases su m d hd with⟨hb2,_⟩ | ⟨hh2,hn2,hs2⟩
      ·rw [cY (hB' m d hb2) (hBS m d hb2)] at eh;rcases hE.new m d k hb2 eh with h1 | ⟨q,x,hq,hkq⟩
       ·have:=hO.lt hh hk;omega
       ·obtain⟨hq',hsq⟩:=sub q x hq;exact hO.qR q n x c (fun e=>hs (e▸hsq)) hq' hh k hkq hk
      ·rw [cY (hH' m d hh2) (hHS m d hh2 hs2)] at eh;exact hO.qR n m c d uv hh hh2 k hk eh
    ·intro g hg;show (if _ then _ else _:m9).b=_;split
     ·exact hO.rU g hg
     ·exact Zg.rU g hg
    ·intro n hn hh;rw [hM,if_pos hn,hh]
    ·rw [pU _ _ _ _ hlen];exact hlen
    ·intro k hk vD;exact hE.mW k hk fun m d hd eh=>vD m d (sub m d hd).1 eh
    ·intro n c k hc hk;rcases su n c hc with⟨hb,_⟩ | ⟨hh,_,hs⟩
     ·rw [cY (hB' n c hb) (hBS n c hb)] at hk;rcases hE.new n c k hb hk with h1 | ⟨q,x,hq,hkq⟩
      ·exact .inl h1
      ·exact .inr ⟨q,x,(sub q x hq).1,hkq⟩
     ·rw [cY (hH' n c hh) (hHS n c hh hs)] at hk;exact .inr ⟨n,c,hh,hk⟩
theorem lj.yc {L L':Nat} {ρ ρ':Nm} {H H':Hp AV} {w w':World} (h:lj N L ρ H w ρ' H' w') (hL:L'<=L):lj N L' ρ H w ρ' H' w' :=
 ⟨h.dC,h.kF,fun n hn=>h.H6 n (Nat.lt_of_lt_of_le hn hL),h.len,h.mW,h.new,h.os,h.tape,h.output,h.size⟩
theorem UX {cX:Callee AV} {G:List Nat} {f:Tgt} {args:List SV} {H:Hp AV} {v:SV} {H':Hp AV} (h:(xV cX G f args H).val=some (v,H')):H.length<=H'.length:=by
 unfold xV at h;simp only at h;split at h
 ·cases h
 ·split at h
  ·cases h
  ·obtain⟨⟨v',B⟩,hr,h⟩:=T.bq h;simp only at h;split at h
   ·cases h
   ·rename_i uu;cases h;obtain⟨hlen,_⟩:=pS uu;rw [qf] at hlen;rw [pU _ _ _ _ hlen];exact hlen
theorem O0 {cX:Callee AV} {nm:Nat} {o:Oper} {s s':St AV} (h:(nG N cX nm o s).val=some s'):s.H.length<=s'.H.length:=by
 unfold nG at h;split at h
 ·obtain⟨⟨v,H'⟩,hr,h⟩:=T.bq h;cases h;exact UX hr
 ·cases h
 ·obtain⟨r,hr,h⟩:=T.bq h;cases h;show s.H.length<=(gD s.H r.2).length;cases r.2 with
  | none=>exact ab4 _
  | some p=>simp [gD,eB]
theorem Q0 (ρ:Nm):∀cs:List Cell,(svs cs).map (SV.ay ρ)=aF ρ cs
 | []=>rfl
 | c::r=>by rw [svs,aaU,Q0 ρ r];rfl
theorem Tl (hT:fN P N) {cX:Callee AV} (cR:gZ P N cX) {nt L nm:Nat} {o:Oper} {s s':St AV} (h:(nG N cX nm o s).val=some s') (hcl:bO N s) (hL:L<=nm) (hH:L<=s.H.length) (hd:∀d,o.dst=some d->d < nt) :
 bO N s' /\
 ∀{ρ:Nm} {a:Act} {w:World},At N nt ρ s a w->∀{K:Act->World->Prop} {Q:Exit->Act->World->Prop},
   (∀a' w',oW N nt L ρ s w a s' a' w'->K a' w')->o.wp P a w K Q:=by
 unfold nG at h;split at h
 ·-- a call
  rename_i g l jf;obtain⟨⟨v,H'⟩,hr,h⟩:=T.bq h;cases h;obtain⟨hv,hC',hp,Bx⟩:=Oc (P:=P) cR hr (xd hcl);refine⟨⟨qw hcl.E hp hv,hC'.1⟩,?_⟩;intro ρ a w bG K Q hK;have dD:=jx bG.em hcl bG.own.rU;unfold rB at jf;split at jf
  ·-- an operation of more than one step
   simp only [aaf] at jf;split at jf
   ·rename_i l' h2;cases jf;have bZ:=(sS dD h2).1;obtain⟨v',w',hrun,ρ',rfl,Ny,OC⟩:=Bx ρ w bG.own a.eval o rfl bZ;unfold Oper.wp;rcases hrun with hrun | ⟨hrun,hu⟩
    ·rw [hrun];exact hK _ _ ⟨⟨ρ',bG.em.put hd hcl.E OC.kF v,Ny,OC.yc hH⟩,by cases o.dst<;>rfl⟩
    ·rw [hrun,Oper.upon_skip,<- hu];exact hK _ _ ⟨⟨ρ',bG.em.put hd hcl.E OC.kF v,Ny,OC.yc hH⟩,by cases o.dst<;>rfl⟩
   ·cases jf
  ·split at jf
   ·rename_i c oT;split at jf
    ·rename_i f hf;simp only [aaf] at jf;split at jf
     ·rename_i g' l' h1 h2;split at jf
      ·rename_i fn Nu;cases jf;obtain⟨k1,k2,k3⟩:=hT.fn g' fn Nu;have bZ:=(sS dD h2).1;have hfv:=dD.ay _ _ h1;have PS:(execOp a.eval o).run P w=.ok (.enter g' (l.map (SV.ay ρ)).toArray) w:=by
        obtain⟨dst,op,ty,tf,after,guard⟩:=o;simp only at oT;subst oT;obtain⟨apW,args,tys⟩:=c;simp only at hf h2 bZ;subst hf;have ha:args.map a.eval=(l.map (SV.ay ρ)).toArray:=by rw [<- bZ,<- Array.toList_map,afw]
        have hb:fn.body.isNone=false:=by cases hbb:fn.body<;>simp_all
        have k3':¬(fn.name == "runtime.NumGoroutine")=true:=by rw [k3];decide
        simp only [execOp,resolve,hfv,SV.ay,V1.ay,Cell.ay,Deferred.ofValue,aaY,aa0,aaX,invoke,callFunc,program,Sem.run,k1,if_neg k3',hb,ha,Bool.false_eq_true,if_false,Array.append_empty,Array.empty_append]
       unfold Oper.wp;rw [PS];show Calls P g' _ w _;refine Calls.mono (Bx ρ w bG.own) ?_;rintro e w' ⟨_,rfl,ρ',rfl,Ny,OC⟩;exact hK _ _ ⟨⟨ρ',bG.em.put hd hcl.E OC.kF v,Ny,OC.yc hH⟩,by cases o.dst<;>rfl⟩
      ·cases jf
     ·rename_i g' cs l' h1 h2;split at jf
      ·rename_i fn Nu;cases jf;obtain⟨k1,k2,k3⟩:=hT.fn g' fn Nu;have bZ:=(sS dD h2).1;have hfv:=dD.ay _ _ h1;have PS:(execOp a.eval o).run P w=.ok (.enter g' ((l'++svs cs).map (SV.ay ρ)).toArray) w:=by
        obtain⟨dst,op,ty,tf,after,guard⟩:=o;simp only at oT;subst oT;obtain⟨apW,args,tys⟩:=c;simp only at hf h2 bZ;subst hf;have ha:args.map a.eval=(l'.map (SV.ay ρ)).toArray:=by rw [<- bZ,<- Array.toList_map,afw]
        have hb:fn.body.isNone=false:=by cases hbb:fn.body<;>simp_all
        have k3':¬(fn.name == "runtime.NumGoroutine")=true:=by rw [k3];decide
        have hsv:(svs cs).map (SV.ay ρ)=aF ρ cs:=Q0 ρ cs;simp only [execOp,resolve,hfv,SV.ay,Deferred.ofValue,aaY,aa0,aaX,invoke,callFunc,program,Sem.run,k1,if_neg k3',hb,ha,Bool.false_eq_true,if_false,adA,hsv,List.append_toArray,acB]
       unfold Oper.wp;rw [PS];show Calls P g' _ w _;refine Calls.mono (Bx ρ w bG.own) ?_;rintro e w' ⟨_,rfl,ρ',rfl,Ny,OC⟩;exact hK _ _ ⟨⟨ρ',bG.em.put hd hcl.E OC.kF v,Ny,OC.yc hH⟩,by cases o.dst<;>rfl⟩
      ·cases jf
     ·cases jf
    ·rename_i r m hf;simp only [aaf] at jf;split at jf
     ·rename_i tr xr l' h1 h2;split at jf
      ·rename_i g' hm;split at jf
       ·rename_i fn Nu;cases jf;obtain⟨k1,k2,k3⟩:=hT.fn g' fn Nu;have bZ:=(sS dD h2).1;have hfv:=dD.ay _ _ h1;have PS:(execOp a.eval o).run P w=.ok (.enter g' ((SV.v (.c xr)::l').map (SV.ay ρ)).toArray) w:=by
         obtain⟨dst,op,ty,tf,after,guard⟩:=o;simp only at oT;subst oT;obtain⟨apW,args,tys⟩:=c;simp only at hf h2 bZ;subst hf;have ha:args.map a.eval=(l'.map (SV.ay ρ)).toArray:=by rw [<- bZ,<- Array.toList_map,afw]
         have hb:fn.body.isNone=false:=by cases hbb:fn.body<;>simp_all
         have k3':¬(fn.name == "runtime.NumGoroutine")=true:=by rw [k3];decide
         have hmt:=hT.mt tr m g' hm (xr.ay ρ) w;have hex:(#[Value.iface tr (xr.ay ρ)]++(l'.map (SV.ay ρ)).toArray).extract 1 (#[Value.iface tr (xr.ay ρ)]++(l'.map (SV.ay ρ)).toArray).size=(l'.map (SV.ay ρ)).toArray:=by apply Array.ext';rw [Array.toList_extract];simp [List.extract];exact List.take_of_length_le (by simp)
         have h0:(#[Value.iface tr (xr.ay ρ)]++(l'.map (SV.ay ρ)).toArray)[0]?=some (Value.iface tr (xr.ay ρ)):=by simp
         simp only [execOp,resolve,hfv,SV.ay,V1.ay,Cell.ay,aaY,aa0,aaX,invoke,ha,h0,hex,callMethod,program,Sem.run,hmt,callFunc,k1,if_neg k3',hb,Bool.false_eq_true,if_false];simp [SV.ay,V1.ay]
        unfold Oper.wp;rw [PS];show Calls P g' _ w _;refine Calls.mono (Bx ρ w bG.own) ?_;rintro e w' ⟨_,rfl,ρ',rfl,Ny,OC⟩;exact hK _ _ ⟨⟨ρ',bG.em.put hd hcl.E OC.kF v,Ny,OC.yc hH⟩,by cases o.dst<;>rfl⟩
       ·cases jf
      ·cases jf
     ·cases jf
    ·cases jf
   ·cases jf
 ·cases h
 ·obtain⟨r,hr,h⟩:=T.bq h;cases h;exact Yq hT hr hcl hL hd
end
section
variable {AV:Type} {P:Program} {N:eI AV}
theorem wanted_eq {ρ:Nm} {nt:Nat} {E:Ev} {a:Act} (hE:EM ρ nt E a) (bY:Array Oper) (o:Oper) {b k:Bool} (h:iO bY.toList o E=some (b,k)):Region.wanted o (yielded bY a.tmps)=b:=by
 unfold iO at h;unfold Region.wanted;cases hg:o.guard with
 | none=>simp only [hg,aaf,aaB] at h;exact h.1
 | some p =>
   obtain⟨j,want⟩:=p;simp only [hg,nth_eq,Array.getElem?_toList] at h;simp only [yielded];cases hj:bY[j]? with
   | none=>simp only [hj,aaf,aaB] at h;simp [<- h.1]
   | some oj =>
     simp only [hj] at h;simp only [Option.bind_some];cases hd:oj.dst with
     | none=>simp only [hd,aaf,aaB] at h;simp [<- h.1]
     | some d =>
       simp only [hd] at h;simp only [Option.bind_some];cases hl:aJ E d with
       | lU=>simp [hl] at h
       | iW l =>
         have af:=hE.get d (by rw [hl];simp);rw [hl] at af h;simp only [aaf,aaB] at h;cases ht:a.tmps[d]? with
         | none=>simp [<- h.1]
         | some v =>
           have:a.tmps.getD d undef=v:=by simp [ht]
           rw [this] at af;subst af;simp [SV.ay,<- h.1]
       | xz f l =>
         have af:=hE.get d (by rw [hl];simp);rw [hl] at af h;simp only [aaf,aaB] at h;cases ht:a.tmps[d]? with
         | none=>simp [<- h.1]
         | some v =>
           have:a.tmps.getD d undef=v:=by simp [ht]
           rw [this] at af;subst af;simp [SV.ay,<- h.1]
       | v x =>
         have af:=hE.get d (by rw [hl];simp);rw [hl] at af h;cases ht:a.tmps[d]? with
         | none =>
           have:a.tmps.getD d undef=undef:=by simp [ht]
           rw [this] at af;cases x with
           | agg l=>simp [SV.ay,V1.ay,undef] at af
           | c x =>
             cases x with
             | vs n o len es kn =>simp only [SV.ay,V1.ay,Cell.ay,undef,cH] at af;split at af<;>cases af
             | sf n o es z f p =>simp only [SV.ay,V1.ay,Cell.ay,undef,cH] at af;split at af<;>cases af
             | _=>simp [SV.ay,V1.ay,Cell.ay,undef] at af
         | some v =>
           have:a.tmps.getD d undef=v:=by simp [ht]
           rw [this] at af;subst af;cases x with
           | agg l=>simp only [aaf,aaB] at h;simp [SV.ay,V1.ay,<- h.1]
           | c x =>
             cases x with
             | vs n o len es kn =>simp [lQ] at h;by_cases hz:len=0 /\ (ρ.L n).c=0<;>simp [SV.ay,V1.ay,Cell.ay,cH,hz,<- h.1]
             | sf n o es z f p =>simp [lQ] at h;by_cases hz:(f.ap (ρ.L n)).c=0<;>simp [SV.ay,V1.ay,Cell.ay,cH,hz,<- h.1]
             | _=>simp [lQ] at h<;>simp [SV.ay,V1.ay,Cell.ay,<- h.1]
noncomputable def AN (N:eI AV) (cX:Callee AV) (base:Nat) (all:List Oper) (i:Nat) (o:Oper) (s:St AV):Option (St AV×rD) :=
 match iO all o s.E with
 | none=>none
 | some (b,_)=>if b=true then((nG N cX (o8 all base i) o s).val.map fun s'=>(s',gy N (o8 all base i) (rP N.G s.H s.E) s.H s'.H o.op)) else some ({s with E:=kI s.E o.dst ee},.pure)
theorem wI {cX:Callee AV} {base:Nat} {all:List Oper} {i:Nat} {o:Oper} {s:St AV}:(nB N cX base all i o s).val=AN N cX base all i o s:=by
 unfold nB AN;cases iO all o s.E with
 | none=>rfl
 | some p =>obtain⟨b,k⟩:=p;cases k<;>cases b<;>simp [T.val,T.gg]
theorem zw:∀(all:List Oper) (b i:Nat),b<=o8 all b i
 | [],b,_=>ab4 _
 | _::_,b,0=>ab4 _
 | o::r,b,i+1=>by
   simp only [o8];split
   ·exact abz (Nat.le_succ b) (zw r (b+1) i)
   ·exact zw r b i
theorem zb (hT:fN P N) {cX:Callee AV} (cR:gZ P N cX) {nt L base i:Nat} {bY:Array Oper} {o:Oper} {s s':St AV} {en:rD} (h:(nB N cX base bY.toList i o s).val=some (s',en)) (hcl:bO N s) (hL:L<=base) (hH:L<=s.H.length) (hd:∀d,o.dst=some d->d < nt) :
 bO N s' /\
 ∀{ρ:Nm} {a:Act} {w:World},At N nt ρ s a w->∀{K:Act->World->Prop} {Q:Exit->Act->World->Prop},
   (∀a' w',oW N nt L ρ s w a s' a' w'->K a' w')->if Region.wanted o (yielded bY a.tmps)=true then o.wp P a w K Q else K (a.put o.dst undef) w:=by
 rw [wI] at h;unfold AN at h;split at h
 ·cases h
 ·rename_i b k hw;split at h
  ·rename_i hb;obtain⟨s1,hs,he⟩:=aaT.1 h;cases he;obtain⟨h1,h2⟩:=Tl (P:=P) (nt:=nt) hT cR hs hcl (abz hL (zw _ _ _)) hH hd;refine⟨h1,fun {ρ a w} bG K Q hK=>?_⟩;rw [wanted_eq bG.em bY o hw,if_pos hb];exact h2 bG hK
  ·rename_i hb;cases h;refine⟨⟨qw hcl.E (fun n c h=>⟨c,h⟩) (mG _),hcl.H⟩,fun {ρ a w} bG K Q hK=>?_⟩;rw [wanted_eq bG.em bY o hw,if_neg hb];exact hK _ _ ⟨⟨ρ,bG.em.put hd hcl.E (fun _ _ _=>rfl) ee,bG.own,lj.refl _ _ _ _⟩,by cases o.dst<;>rfl⟩
theorem oW.trans {nt L:Nat} {ρ:Nm} {s s₁ s₂:St AV} {w w₁ w₂:World} {a a₁ a₂:Act} (h:∀ρ₁,EM ρ₁ nt s₁.E a₁->gF N ρ₁ s₁.H w₁->lj N L ρ s.H w ρ₁ s₁.H w₁->oW N nt L ρ₁ s₁ w₁ a₁ s₂ a₂ w₂) (h₁:oW N nt L ρ s w a s₁ a₁ w₁):oW N nt L ρ s w a s₂ a₂ w₂:=by obtain⟨⟨ρ₁,e1,o1,v1⟩,d1⟩:=h₁;obtain⟨⟨ρ₂,e2,o2,v2⟩,d2⟩:=h ρ₁ e1 o1 v1;exact⟨⟨ρ₂,e2,o2,v1.trans v2⟩,d2.trans d1⟩
theorem sm {cX:Callee AV} {base:Nat} {all:List Oper} {i:Nat} {o:Oper} {s:St AV} {r:St AV×rD} (h:(nB N cX base all i o s).val=some r):s.H.length<=r.1.H.length:=by
 rw [wI] at h;unfold AN at h;split at h
 ·cases h
 ·split at h
  ·obtain⟨s1,hs,he⟩:=aaT.1 h;cases he;exact O0 hs
  ·cases h;exact ab4 _
theorem D4 (hT:fN P N) {cX:Callee AV} (cR:gZ P N cX) {nt L base:Nat} (bY:Array Oper) (hL:L<=base) :
 ∀(r:List Oper) (i:Nat) (s s':St AV),(pD N cX base bY.toList i r s).val=some s'->bO N s->L<=s.H.length->(∀o∈r,∀d,o.dst=some d->d < nt) ->
   bO N s' /\ ∀{ρ:Nm} {a:Act} {w:World},At N nt ρ s a w->∀{Q:Exit->Act->World->Prop},(∀a' w',oW N nt L ρ s w a s' a' w'->Q .normal a' w')->wpList P bY Q r a w
 | [],i,s,s',h,hcl,_,_=>by simp only [pD,T.val,aaf] at h;subst h;exact⟨hcl,fun {ρ a w} bG Q hQ=>hQ _ _ ⟨⟨ρ,bG.em,bG.own,lj.refl _ _ _ _⟩,rfl⟩⟩
 | o::r,i,s,s',h,hcl,hH,hd=>by
   simp only [pD] at h;obtain⟨⟨s₁,en⟩,h1,h2⟩:=T.bq h;obtain⟨c1,k1⟩:=zb (P:=P) hT cR h1 hcl hL hH (hd o (by simp));have hlen:L<=s₁.H.length:=abz hH (sm h1);obtain⟨c2,k2⟩:=D4 hT cR bY hL r (i+1) s₁ s' h2 c1 hlen (fun o' ho=>hd o' (by simp [ho]));refine⟨c2,fun {ρ a w} bG Q hQ=>?_⟩;unfold wpList;have:=k1 bG (K:=wpList P bY Q r) (Q:=Q) (fun a₁ w₁ h₁=>by
    obtain⟨⟨ρ₁,e1,o1,v1⟩,d1⟩:=h₁;refine k2 ⟨e1,o1⟩ fun a₂ w₂ h₂=>hQ a₂ w₂ ?_;obtain⟨⟨ρ₂,e2,o2,v2⟩,d2⟩:=h₂;exact⟨⟨ρ₂,e2,o2,v1.trans v2⟩,d2.trans d1⟩)
   split
   ·rename_i hw;rw [if_pos hw] at this;exact .inl this
   ·rename_i hw;rw [if_neg hw] at this;exact this
