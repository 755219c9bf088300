import Derived.Test.YtadmfaohjnjajaaGreatDoorSxF
import Derived.Laws.MakeOwn
set_option linter.unusedVariables false
set_option linter.unusedSimpArgs false
set_option maxHeartbeats 0
set_option maxRecDepth 100000
namespace Go.Sx
section
variable {AV:Type} {P:Program} {N:dV AV} {ρ:Nm} {H:Hp AV} {w:World}
def dM (_N:dV AV) (H:Hp AV):Prop:=(∀n x,ae H n=some x->mL H x.cellsOf) /\ True
theorem eZ.lt (h:eZ N ρ H w) {n:Nat} {c:aG AV} {k:Nat} (hc:ae H n=some c) (hk:c.fp ρ n k):k < w.heap.size:=by
 have:=h.q n c hc
 cases c with
 | cells l ty =>
   have dW:k=ρ n:=hk
   subst dW
   exact(ad0.1 this).1
 | kD l es ty =>
   rcases this with⟨_,_,h0⟩ | ⟨_,h1,row,h2,_⟩
   ·exact absurd hk (h0 k)
   ·have:=(h1 k).1 hk
    subst this
    exact(ad0.1 h2).1
 | j8=>exact hk.elim
 | bI a=>exact N.F.dom a (ρ.L n) (ρ.S n) w k this hk
theorem oF {ρ':Nm} {w':World} {n:Nat} {c:aG AV} (hq:c.q N ρ n w) (hn:ρ'.L n=ρ.L n) (hS:ρ'.S n=ρ.S n) (hl:aA ρ' c.cellsOf=aA ρ c.cellsOf)
 (hk:∀k,c.fp ρ n k->w'.heap[k]?=w.heap[k]?):c.q N ρ' n w':=by
 cases c with
 | cells l ty =>
   have hf:ρ' n=ρ n:=by simp only [Nm.f,hn]
   show w'.heap[ρ' n]?=_
   have AM:aA ρ' l=aA ρ l:=hl
   rw [hf,AM,hk (ρ n) rfl]
   exact hq
 | kD l es ty =>
   show mM (ρ'.L n) (ρ'.S n) (aA ρ' l) es ty w'
   have AM:aA ρ' l=aA ρ l:=hl
   rw [hn,hS,AM]
   exact zL hq hk
 | j8=>trivial
 | bI a =>
   show N.F.q a (ρ'.L n) (ρ'.S n) w'
   rw [hn,hS]
   exact N.F.loc a (ρ.L n) (ρ.S n) w w' hk hq
theorem cQ {ρ':Nm} {n:Nat} {c:aG AV} (hn:ρ'.L n=ρ.L n) (hS:ρ'.S n=ρ.S n):c.fp ρ' n=c.fp ρ n:=by
 cases c<;>simp [aG.fp,Nm.f,hn,hS]
def Nm.set (ρ:Nm) (nm:Nat) (l:l8) (S:Nat->Prop):Nm:=⟨fun m=>if m=nm then l else ρ.L m,fun m=>if m=nm then S else ρ.S m⟩
theorem Nm.U8 (ρ:Nm) (nm:Nat) (l:l8) (S:Nat->Prop):(ρ.set nm l S).L nm=l /\ (ρ.set nm l S).S nm=S:=by simp [Nm.set]
theorem Nm.qE (ρ:Nm) {nm n:Nat} (l:l8) (S:Nat->Prop) (h:n≠nm):(ρ.set nm l S).L n=ρ.L n /\ (ρ.set nm l S).S n=ρ.S n:=by simp [Nm.set,h]
theorem I6 (hO:eZ N ρ H w) (hC:dM N H) {nm:Nat} (hn:ae H nm=none) (du:nm < H.length) (hG:¬nm < N.G) {ck:aG AV} (hl:mL H ck.cellsOf) {L:Nat} (hL:L<=nm) {w':World} {lc:l8} {S:Nat->Prop}
 (Hu:∀k,k < w.heap.size->w'.heap[k]?=w.heap[k]?) (hos:w'.os=w.os) (htp:w'.tape=w.tape) (Xq:w'.output=w.output) (sD:w.heap.size<=w'.heap.size)
 (hq:ck.q N (ρ.set nm lc S) nm w') (Zi:∀k,ck.fp (ρ.set nm lc S) nm k->w.heap.size<=k) :
 eZ N (ρ.set nm lc S) (cV H nm (some ck)) w' /\ iZ N L ρ H w (ρ.set nm lc S) (cV H nm (some ck)) w' /\ dM N (cV H nm (some ck)):=by
 have dA:∀n c,ae H n=some c->n≠nm:=fun n c h e=>by subst e;rw [hn] at h;cases h
 have wI:∀n c,ae H n=some c->(ρ.set nm lc S).L n=ρ.L n:=fun n c h=>(ρ.qE lc S (dA n c h)).1
 have Ey:∀n c,ae H n=some c->(ρ.set nm lc S).S n=ρ.S n:=fun n c h=>(ρ.qE lc S (dA n c h)).2
 have hold:∀n c,n≠nm->ae (cV H nm (some ck)) n=some c->ae H n=some c:=fun n c h e=>by rwa [bp _ (Ne.symm h)] at e
 have AL:∀c,ae (cV H nm (some ck)) nm=some c->c=ck:=fun c h=>by rw [cg _ du] at h;exact(agM h).symm
 have dw:∀n c,ae H n=some c->∃c',ae (cV H nm (some ck)) n=some c':=fun n c h=>⟨c,by rw [bp _ (Ne.symm (dA n c h))];exact h⟩
 refine hO.up3 ⟨⟨?_,?_,?_⟩,⟨dw,wI,?_,?_,?_,?_,hos,htp,Xq,sD⟩,?_,?_⟩
 ·intro n c hc
  by_cases e:n=nm
  ·subst e
   rw [AL c hc]
   exact hq
  ·have nC:=hold n c e hc
   exact oF (hO.q n c nC) (wI n c nC) (Ey n c nC) (dF (hC.1 n c nC) wI) (fun k hk=>Hu k (hO.lt nC hk))
 ·intro n m c d tH hc hd k hk dW
  by_cases e:n=nm
  ·subst e
   rw [AL c hc] at hk
   have hk:=Zi k hk
   have AR:=hold m d (Ne.symm tH) hd
   rw [cQ (wI m d AR) (Ey m d AR)] at dW
   have:=hO.lt AR dW
   omega
  ·have nC:=hold n c e hc
   rw [cQ (wI n c nC) (Ey n c nC)] at hk
   by_cases e':m=nm
   ·subst e'
    rw [AL d hd] at dW
    have avg:=Zi k dW
    have:=hO.lt nC hk
    omega
   ·have AR:=hold m d e' hd
    rw [cQ (wI m d AR) (Ey m d AR)] at dW
    exact hO.qz n m c d tH nC AR k hk dW
 ·intro g hg
  have:g≠nm:=fun e=>hG (e▸hg)
  have h2:=(ρ.qE lc S this).1
  simp only [Nm.f,h2]
  exact hO.qW g hg
 ·intro n hnL hh
  have:n≠nm:=by omega
  rw [bp _ (Ne.symm this)];exact hh
 ·simp [ec]
 ·intro k hk _;exact Hu k hk
 ·intro n c k hc hk
  by_cases e:n=nm
  ·subst e
   rw [AL c hc] at hk
   exact .inl (Zi k hk)
  ·have nC:=hold n c e hc
   rw [cQ (wI n c nC) (Ey n c nC)] at hk
   exact .inr ⟨n,c,nC,hk⟩
 ·intro n x hc
  by_cases e:n=nm
  ·subst e
   rw [AL x hc]
   exact hl.mono dw
  ·exact(hC.1 n x (hold n _ e hc)).mono dw
 ·trivial
theorem GO (hO:eZ N ρ H w) (hC:dM N H) {nm:Nat} (hn:ae H nm=none) (du:nm < H.length) (hG:¬nm < N.G) {l:List Cell} (ty:TypeId) (hl:mL H l) {L:Nat} (hL:L<=nm) :
 eZ N (ρ.set nm ⟨w.heap.size,0,0⟩ fun _=>False) (cV H nm (some (.cells l ty))) (w.alloc (.cells (aA ρ l).toArray ty)) /\
 iZ N L ρ H w (ρ.set nm ⟨w.heap.size,0,0⟩ fun _=>False) (cV H nm (some (.cells l ty))) (w.alloc (.cells (aA ρ l).toArray ty)) /\
 dM N (cV H nm (some (.cells l ty))):=by
 have dA:∀n c,ae H n=some c->n≠nm:=fun n c h e=>by subst e;rw [hn] at h;cases h
 have wI:∀n c,ae H n=some c->(ρ.set nm ⟨w.heap.size,0,0⟩ fun _=>False).L n=ρ.L n:=fun n c h=>(ρ.qE _ _ (dA n c h)).1
 refine I6 hO hC hn du hG (ck:=.cells l ty) hl hL (fun k hk=>?_) rfl rfl rfl ?_ ?_ ?_
 ·show (w.heap.push _)[k]?=_
  rw [Array.getElem?_push,if_neg (by omega)]
 ·show w.heap.size<=(w.heap.push _).size;simp
 ·show (w.heap.push _)[(ρ.set nm _ _) nm]?=_
  have:(ρ.set nm ⟨w.heap.size,0,0⟩ fun _=>False) nm=w.heap.size:=by simp [Nm.f,Nm.set]
  rw [this,dF hl wI]
  simp
 ·intro k hk
  have hk:k=(ρ.set nm ⟨w.heap.size,0,0⟩ fun _=>False) nm:=hk
  simp [Nm.f,Nm.set] at hk
  omega
theorem Ac (hO:eZ N ρ H w) (hC:dM N H) {n:Nat} {ck JP:aG AV} (hn:ae H n=some ck) (hl:mL H JP.cellsOf) (L:Nat) {row:Array Value}
 (Zi:ck.fp ρ n (ρ n)) (alV:∀k,JP.fp ρ n k->ck.fp ρ n k) (hq:JP.q N ρ n (w.setRow (ρ n) row)) :
 eZ N ρ (cV H n (some JP)) (w.setRow (ρ n) row) /\ iZ N L ρ H w ρ (cV H n (some JP)) (w.setRow (ρ n) row) /\ dM N (cV H n (some JP)):=by
 have du:=bQ hn
 have kv:=cg (H:=H) JP du
 have hold:∀m c,m≠n->ae (cV H n (some JP)) m=some c->ae H m=some c:=fun m c h e=>by rwa [bp _ (Ne.symm h)] at e
 have dw:∀m c,ae H m=some c->∃c',ae (cV H n (some JP)) m=some c':=fun m c h=>by
  by_cases e:m=n
  ·subst e;exact⟨_,kv⟩
  ·exact⟨c,by rw [bp _ (Ne.symm e)];exact h⟩
 have ag2:∀m c,ae (cV H n (some JP)) m=some c->∃d,ae H m=some d /\ ∀k,c.fp ρ m k->d.fp ρ m k:=fun m c h=>by
  by_cases e:m=n
  ·subst e
   rw [kv] at h
   cases h
   exact⟨_,hn,alV⟩
  ·exact⟨c,hold m c e h,fun _ h=>h⟩
 refine hO.up3 ⟨⟨?_,?_,hO.qW⟩,⟨dw,fun _ _ _=>rfl,?_,?_,?_,?_,rfl,rfl,rfl,?_⟩,?_,?_⟩
 ·intro m c hc
  by_cases e:m=n
  ·subst e
   rw [kv] at hc
   cases hc
   exact hq
  ·have nC:=hold m c e hc
   refine oF (hO.q m c nC) rfl rfl rfl (fun k hk=>setRow_other w (ρ n) k _ ?_)
   intro Jx
   subst Jx
   exact hO.qz m n c _ e nC hn _ hk Zi
 ·intro m m' c d hmm hc hd k hk dW
  obtain⟨c',h1,e1⟩:=ag2 m c hc
  obtain⟨d',h2,e2⟩:=ag2 m' d hd
  exact hO.qz m m' c' d' hmm h1 h2 k (e1 k hk) (e2 k dW)
 ·intro m _ hh
  by_cases e:m=n
  ·subst e;rw [hn] at hh;cases hh
  ·rw [bp _ (Ne.symm e)];exact hh
 ·simp [ec]
 ·intro k _ hk
  exact setRow_other w (ρ n) k _ (fun e=>hk n _ hn (e▸Zi))
 ·intro m c k hc hk
  obtain⟨d,h1,e1⟩:=ag2 m c hc
  exact .inr ⟨m,d,h1,e1 k hk⟩
 ·simp
 ·intro m x hc
  by_cases e:m=n
  ·subst e
   rw [kv] at hc
   cases hc
   exact hl.mono dw
  ·exact(hC.1 m x (hold m _ e hc)).mono dw
 ·trivial
theorem RV (hO:eZ N ρ H w) (hC:dM N H) {n:Nat} {l l':List Cell} {ty:TypeId} (hn:ae H n=some (.cells l ty)) (hl:mL H l') (L:Nat) :
 eZ N ρ (cV H n (some (.cells l' ty))) (w.setRow (ρ n) (aA ρ l').toArray) /\
 iZ N L ρ H w ρ (cV H n (some (.cells l' ty))) (w.setRow (ρ n) (aA ρ l').toArray) /\ dM N (cV H n (some (.cells l' ty))):=by
 have Ot:w.heap[ρ n]?=some (.cells (aA ρ l).toArray ty (0,0)):=hO.q n _ hn
 exact Ac hO hC hn (JP:=.cells l' ty) hl L rfl (fun _ h=>h) (setRow_heap w (ρ n) _ _ ty (0,0) Ot)
theorem lW (hT:fD P N) {t:TypeId} {l:List Cell} {off:Nat} {x:V1} (h:rF N t l off=some x) (b o:Nat) (Qo:∀j c,l[j]?=some c->w.cell? ⟨b,o+j,none⟩=some (c.aq ρ)) :
 (loadVar t ⟨b,o+off,none⟩).run P w=.ok (x.aq ρ) w:=by
 unfold rF at h
 split at h
 ·rename_i i ht
  have hk:=eB hT ht
  have hs:=C3 hT ht
  obtain⟨h1,h2⟩:=ur h
  unfold loadVar
  simp only [abA,Sw hk,abz]
  cases ha:uL i.kd with
  | true =>
    obtain⟨hle,rfl⟩:=h1 ha
    have hlen:(aA ρ ((l.drop off).take i.size)).length=i.size:=by simp [aA];omega
    have:=run_loadCells_list (P:=P) w ⟨b,o+off,none⟩ (aA ρ ((l.drop off).take i.size)) (by
     intro j v hj
     have ars:(⟨b,o+off,none⟩:Addr).add j=⟨b,o+(off+j),none⟩:=by unfold Addr.add;split<;>simp_all [aej]
     rw [ars]
     simp only [aA,aeR,abu] at hj
     obtain⟨c,hc,rfl⟩:=hj
     refine Qo (off+j) c ?_
     rw [aeG] at hc
     split at hc
     ·rwa [af2] at hc
     ·cases hc)
    rw [hlen] at this
    simp only [if_true,abA,dD hs,abz,this,abC,V1.aq]
  | false =>
    obtain⟨c,hc,rfl⟩:=h2 ha
    simp only [Bool.false_eq_true,if_false,run_load,Qo off c hc,V1.aq]
 ·cases h
theorem E6 (hO:eZ N ρ H w) {n:Nat} {l:List Cell} {ty:TypeId} (hn:ae H n=some (.cells l ty)) (j:Nat) (c:Cell) (hc:l[j]?=some c):w.cell? ⟨ρ n,j,none⟩=some (c.aq ρ):=by
 have:w.heap[ρ n]?=some (.cells (aA ρ l).toArray ty (0,0)):=hO.q n _ hn
 simp [World.cell?,this,aA,hc]
theorem nP {t:Option V1} {why:String} {v:SV} (h:(one t why).val=some v):∃x,t=some x /\ v=.v x:=by
 unfold one at h
 split at h
 ·simp only [T.val,aaC] at h;exact⟨_,rfl,h.symm⟩
 ·cases h
theorem jO {t:TypeId} {l:List Cell} {off:Nat} {x:V1} (h:rF N t l off=some x) (hc:mL H l):jG H x:=by
 unfold rF at h
 split at h
 ·exact DE h hc
 ·cases h
theorem M9 (hO:eZ N ρ H w) {n:Nat} {l:List Cell} {es:Nat} {ty:TypeId} (hn:ae H n=some (.kD l es ty)) (j:Nat) (c:Cell) (hc:l[j]?=some c):w.cell? ⟨ρ n,(ρ.L n).o+j,none⟩=some (c.aq ρ):=by
 rcases hO.q n _ hn with⟨_,h0,_⟩ | ⟨_,_,row,h2,_,_,h5⟩
 ·have:l=[]:=by simpa [aA] using h0
  rw [this] at hc;simp at hc
 ·have:=h5 j (c.aq ρ) (by simp [aA,hc])
  simp only [World.cell?,Nm.f,h2]
  simpa using this
theorem WC (hT:fD P N) (hO:eZ N ρ H w) (hC:dM N H) {t:TypeId} {p v:SV} (h:(Ea N t H p).val=some v) :
 (Instr.loadAt t (p.aq ρ)).run P w=.ok (v.aq ρ) w /\ fh H v:=by
 unfold Ea at h
 split at h
 ·rename_i n off
  split at h
  ·rename_i l ty hn
   obtain⟨x,hx,rfl⟩:=nP h
   have:=lW (ρ:=ρ) (w:=w) hT hx (ρ n) 0 (fun j c hc=>by rw [abJ];exact E6 hO hn j c hc)
   rw [abJ] at this
   refine⟨?_,jO hx (hC.1 n _ hn)⟩
   simp only [Instr.loadAt,SV.aq,V1.aq,Cell.aq,Instr.sureAddr,abA,abC,abz]
   exact this
  ·rename_i a hn
   split at h
   ·rename_i l hw
    obtain⟨x,hx,rfl⟩:=nP h
    have hq:N.F.q a (ρ.L n) (ρ.S n) w:=hO.q n _ hn
    have hrow:=N.F.Ck a (ρ.L n) (ρ.S n) w l hq hw
    have:=lW (ρ:=ρ) (w:=w) hT hx (ρ n) 0 (fun j c hc=>by
     have h2:=hrow j c hc
     have h1:=N.F.vp a l hw c (ab8 hc)
     rw [abJ,show ρ n=(ρ.L n).b from rfl,h2,b4 c (ρ:=Nm.id) (ρ':=ρ) (fun m hm=>by rw [h1] at hm;cases hm)])
    rw [abJ] at this
    refine⟨?_,jO hx (iz fun c hc=>?_)⟩
    ·simp only [Instr.loadAt,SV.aq,V1.aq,Cell.aq,Instr.sureAddr,abA,abC,abz]
     exact this
    ·exact N.F.vp a l hw c hc
   ·cases h
  ·cases h
 ·rename_i n idx es off
  split at h
  ·rename_i a hn
   split at h
   ·-- a part asw place may be open
    rename_i t' ht
    unfold afU at ht
    split at ht
    ·rename_i i hi
     split at ht
     ·rename_i b l hp
      cases ht
      obtain⟨rfl,h⟩:=fN h
      obtain⟨x,hx,rfl⟩:=nP h
      have Jt:rF N t l 0=some x:=by unfold rF;rw [hi];exact hx
      have hq:N.F.q a (ρ.L n) (ρ.S n) w:=hO.q n _ hn
      have hrow:=N.F.I4 a (ρ.L n) (ρ.S n) w idx es off i.size l hO.ro.1 hq hp
      have:=lW (ρ:=ρ) (w:=w) hT Jt (ρ n) ((ρ.L n).o+idx * es+off) (fun j c hc=>by
       have h2:=hrow j c hc
       have h1:=N.F.Aa a idx es off i.size l hp c (ab8 hc)
       rw [show ρ n=(ρ.L n).b from rfl,h2,b4 c (ρ:=Nm.id) (ρ':=ρ) (fun m hm=>by rw [h1] at hm;cases hm)])
      refine⟨?_,jO Jt (iz fun c hc=>N.F.Aa a idx es off i.size l hp c hc)⟩
      simp only [Instr.loadAt,SV.aq,V1.aq,Cell.aq,Instr.sureAddr,abA,abC,abz]
      exact this
     ·cases ht
    ·cases ht
   split at h
   ·rename_i b l hr
    obtain⟨rfl,h⟩:=fN h
    obtain⟨x,hx,rfl⟩:=nP h
    have hq:N.F.q a (ρ.L n) (ρ.S n) w:=hO.q n _ hn
    have hrow:=N.F.xq a (ρ.L n) (ρ.S n) w idx es l hO.ro.1 hq hr
    have:=lW (ρ:=ρ) (w:=w) hT hx (ρ n) ((ρ.L n).o+idx * es) (fun j c hc=>by
     have h2:=hrow j c hc
     have h1:=N.F.ud a idx es l hr c (ab8 hc)
     rw [show ρ n=(ρ.L n).b from rfl,h2,b4 c (ρ:=Nm.id) (ρ':=ρ) (fun m hm=>by rw [h1] at hm;cases hm)])
    refine⟨?_,jO hx (iz fun c hc=>?_)⟩
    ·simp only [Instr.loadAt,SV.aq,V1.aq,Cell.aq,Instr.sureAddr,abA,abC,abz]
     exact this
    ·exact N.F.ud a idx es l hr c hc
   ·cases h
  ·rename_i l _ ty hn
   obtain⟨x,hx,rfl⟩:=nP h
   have:=lW (ρ:=ρ) (w:=w) hT hx (ρ n) (ρ.L n).o (fun j c hc=>M9 hO hn j c hc)
   refine⟨?_,jO hx (hC.1 n _ hn)⟩
   simp only [Instr.loadAt,SV.aq,V1.aq,Cell.aq,Instr.sureAddr,abA,abC,abz]
   rw [aej]
   exact this
  ·cases h
 ·cases h
theorem yr (hT:fD P N) {t:TypeId} {i:TI} {b off:Nat} {row:List Value} {ty:TypeId} {v:V1} (Ot:w.heap[b]?=some (.cells row.toArray ty (0,0))) (ht:N.tt.get t=some i) (hs:i.size=v.cells.length)
 (hle:off+v.cells.length<=row.length):(Instr.storeAt t (.pointer (some ⟨b,off,none⟩)) (v.aq ρ)).run P w=.ok () (w.setRow b (row.take off++(aA ρ v.cells++row.drop (off+v.cells.length))).toArray):=by
 have hcl:(v.aq ρ).cells.toList=aA ρ v.cells:=V1.nH ρ v
 have hcs:(v.aq ρ).cells.size=i.size:=by rw [<- af6,hcl,ee,hs]
 have:=run_storeCells_at P b off ty (aA ρ v.cells) 0 row.toArray w Ot (by simp [ee];omega) (by
  intro x hx
  simp only [aA,adK] at hx
  obtain⟨c,_,rfl⟩:=hx
  exact zp ρ c)
 simp only [Instr.storeAt,Instr.sureAddr,abA,abC,abz,storeVar,dD (C3 hT ht),hcs,ne_eq,not_true_eq_false,if_false,hcl]
 erw [this]
 congr 3
 simp [aA]
theorem Rq (hT:fD P N) (hO:eZ N ρ H w) {t:TypeId} {i:TI} {n off:Nat} {l l':List Cell} {ty:TypeId} {v:V1} (hn:ae H n=some (.cells l ty)) (ht:N.tt.get t=some i) (hs:i.size=v.cells.length)
 (hl:l6 l off v.cells=some l'):(Instr.storeAt t (.pointer (some ⟨ρ n,off,none⟩)) (v.aq ρ)).run P w=.ok () (w.setRow (ρ n) (aA ρ l').toArray):=by
 have Ot:w.heap[ρ n]?=some (.cells (aA ρ l).toArray ty (0,0)):=hO.q n _ hn
 obtain⟨e1,e2⟩:=lput_eq hl
 have hcl:(v.aq ρ).cells.toList=aA ρ v.cells:=V1.nH ρ v
 have hcs:(v.aq ρ).cells.size=i.size:=by rw [<- af6,hcl,ee,hs]
 have:=run_storeCells_at P (ρ n) off ty (aA ρ v.cells) 0 (aA ρ l).toArray w Ot (by simp [ee];omega) (by
  intro x hx
  simp only [aA,adK] at hx
  obtain⟨c,_,rfl⟩:=hx
  exact zp ρ c)
 simp only [Instr.storeAt,Instr.sureAddr,abA,abC,abz,storeVar,dD (C3 hT ht),hcs,ne_eq,not_true_eq_false,if_false,hcl]
 erw [this]
 congr 3
 rw [e1]
 simp [aA,aen,List.map_take,List.map_drop]
end
section
variable {AV:Type} {P:Program} {N:dV AV}
theorem jZ {t:TypeId} {si:SI} (h:yU P t=some si):P.underlying t=some (.slice si.e) /\ ∃(i:TypeInfo) (z:Value),P.info? si.e=some i /\ i.zero=some z /\ i.size=si.size /\ i.bytes=si.bytes /\ 0 < si.size /\ si.zero.length=si.size /\
 (∀ρ:Nm,aA ρ si.zero=z.cells.toList) /\ ∀c∈si.zero,c.name=none:=by
 unfold yU at h
 split at h
 ·rename_i e he
  split at h
  ·rename_i i hi
   split at h
   ·rename_i z hz
    split at h
    ·rename_i l hl
     split at h
     ·rename_i h1 h2
      cases h
      have hp:1<=i.size:=by simpa [Nat.blt] using h2
      exact⟨he,i,z,hi,hz,rfl,rfl,hp,(aC _ _).1 h1,fun ρ=>(mn ρ hl).1,(mn Nm.id hl).2⟩
     ·cases h
    ·cases h
   ·cases h
  ·cases h
 ·cases h
theorem rB (z:List Cell):∀n,(kg z n).length=n * z.length
 | 0=>by simp [kg]
 | n+1=>by simp [kg,rB z n,Nat.succ_mul];omega
theorem z5 {z:List Cell}:∀{n:Nat} {c:Cell},c∈kg z n->c∈z
 | 0,c,h=>by cases h
 | n+1,c,h=>by
   rcases aec.1 h with h | h
   ·exact h
   ·exact z5 h
theorem z6 (z:List Cell) (hz:0 < z.length):∀(n j:Nat),j < n * z.length->(kg z n)[j]?=z[j % z.length]?
 | 0,j,h=>by omega
 | n+1,j,h=>by
   simp only [kg]
   rcases Nat.lt_or_ge j z.length with hj | hj
   ·rw [acQ hj,Nat.mod_eq_of_lt hj]
   ·rw [acR hj,z6 z hz n (j - z.length) (by rw [Nat.succ_mul] at h;omega),<- Nat.mod_eq_sub_mod hj]
theorem bY (ρ:Nm) (l:List Cell):(aA ρ l).length=l.length:=by simp [aA]
theorem zq (ρ:Nm) (l:List Cell) (j:Nat) (v:Value) (h:(aA ρ l)[j]?=some v):∃c,l[j]?=some c /\ v=c.aq ρ:=by
 simp only [aA,aeR,abu] at h
 obtain⟨c,hc,rfl⟩:=h
 exact⟨c,hc,rfl⟩
theorem jz (ρ:Nm) (n:Nat) (l:l8) (S:Nat->Prop):(ρ.set n l S).L n=l /\ (ρ.set n l S).S n=S:=ρ.U8 n l S
theorem aaG {ρ:Nm} {H:Hp AV} {w:World} (hO:eZ N ρ H w) (hC:dM N H) {nm:Nat} (hn:ae H nm=none) (du:nm < H.length) (hG:¬nm < N.G) {l:List Cell} {es cap:Nat} {e:TypeId} (hl:mL H l) {L:Nat} (hL:L<=nm) {row:Array Value}
 (Hq:row.size=cap * es) (hle:l.length<=cap * es) (hrow:∀(j:Nat) v,(aA ρ l)[j]?=some v->row[j]?=some v) :
 eZ N (ρ.set nm ⟨w.heap.size,0,cap+1⟩ fun k=>k=w.heap.size) (cV H nm (some (.kD l es e))) (w.alloc (.cells row e)) /\
 iZ N L ρ H w (ρ.set nm ⟨w.heap.size,0,cap+1⟩ fun k=>k=w.heap.size) (cV H nm (some (.kD l es e))) (w.alloc (.cells row e)) /\
 dM N (cV H nm (some (.kD l es e))):=by
 have dA:∀n c,ae H n=some c->n≠nm:=fun n c h e=>by subst e;rw [hn] at h;cases h
 have Oq:aA (ρ.set nm ⟨w.heap.size,0,cap+1⟩ fun k=>k=w.heap.size) l=aA ρ l:=dF hl fun n c h=>(ρ.qE _ _ (dA n c h)).1
 refine I6 hO hC hn du hG (ck:=.kD l es e) hl hL (fun k hk=>?_) rfl rfl rfl ?_ ?_ ?_
 ·show (w.heap.push _)[k]?=_
  rw [Array.getElem?_push,if_neg (by omega)]
 ·show w.heap.size<=(w.heap.push _).size;simp
 ·show mM _ _ _ _ _ _
  rw [(jz _ _ _ _).1,(jz _ _ _ _).2,Oq]
  refine .inr ⟨by simp,fun k=>Iff.rfl,row.toList,?_,?_,?_,?_⟩
  ·show (w.heap.push _)[w.heap.size]?=_
   simp
  ·simp [Hq]
  ·rw [bY];simpa using hle
  ·intro j v hv
   have:=hrow j v hv
   simpa using this
 ·intro k hk
  have hk:(ρ.set nm ⟨w.heap.size,0,cap+1⟩ fun k=>k=w.heap.size).S nm k:=hk
  rw [(jz _ _ _ _).2] at hk
  omega
theorem CT {ρ:Nm} {nm len cap es b:Nat} {S:Nat->Prop}:(SV.v (.c (.vs nm 0 len es true))).aq (ρ.set nm ⟨b,0,cap+1⟩ S)=.slice (some ⟨b,0,none⟩) len cap:=by
 simp only [SV.aq,V1.aq,Cell.aq,bN,(jz _ _ _ _).1]
 rw [if_neg (by omega)]
 simp
theorem made_eq (ρ:Nm) {z:Value} {si:SI} (LO:aA ρ si.zero=z.cells.toList) (B8:si.zero.length=si.size) (fq:0 < si.size) (n:Nat):(Array.range (n * si.size)).map (z.cells[· % z.cells.size]!)=(aA ρ (kg si.zero n)).toArray:=by
 have sD:z.cells.size=si.size:=by
  have:=congrArg List.length LO
  rw [bY] at this
  simp at this
  omega
 apply Array.ext'
 apply List.ext_getElem?
 intro j
 rw [sD]
 by_cases hj:j < n * si.size
 ·have du:j % si.size < z.cells.size:=by rw [sD];exact Nat.mod_lt _ fq
  have h1:(aA ρ (kg si.zero n))[j]?=z.cells.toList[j % si.size]?:=by
   rw [<- LO]
   simp only [aA,aeR]
   rw [z6 si.zero (by omega) n j (by rw [B8];exact hj),B8]
  simp only [h1]
  rw [Array.getElem?_toList,Array.getElem?_map,Array.getElem?_range,if_pos hj]
  simp only [Option.map_some]
  rw [getElem!_pos z.cells (j % si.size) du,Array.getElem?_toList,Array.getElem?_eq_getElem du]
 ·rw [List.getElem?_eq_none (by simp;omega),List.getElem?_eq_none (by simp [bY,rB,B8];omega)]
theorem E7 (hT:fD P N) {ρ:Nm} {H:Hp AV} {ev:Operand->Option SV} {e:Operand->Value} (dy:Gg ρ H ev e) {t:TypeId} {len:Nat} {parts:Array (Nat×Operand)} {fW:Arr} (h:Jk N t len (zh ev parts.toList)=some fW) (w:World):mL H fW.1 /\ ∃row cap,
 (Instr.buildSlice t len (parts.map fun(i,x)=>(i,e x))).run P w=.ok (.slice (some ⟨w.heap.size,0,none⟩) fW.2.2.2 cap) (w.alloc (.cells row fW.2.2.1)) /\ row.size=cap * fW.2.1 /\ fW.1.length<=cap * fW.2.1 /\ ∀(j:Nat) v,(aA ρ fW.1)[j]?=some v->row[j]?=some v:=by
 unfold Jk at h
 split at h
 ·rename_i si ps hs hp
  split at h
  ·rename_i l hl hb
   cases h
   obtain⟨hu,i,z,hi,hz,e1,e2,fq,B8,LO,Jr⟩:=jZ (hT.sl t si hs)
   obtain⟨hp1,hp2⟩:=zg dy hp
   have arc:mL H (kg si.zero len):=iz fun c hc=>Jr c (z5 hc)
   have BH:=AW (ρ:=ρ) (H:=H) si.size ps (kg si.zero len) l hl arc hp2
   have hlen:l.length=len * si.size:=by
    have h1:∀(ps:List (Nat×V1)) (z r:List Cell),xe si.size z ps=some r->r.length=z.length:=by
     intro ps
     induction ps with
     | nil=>intro z r h;simp only [xe,aaC] at h;rw [h]
     | cons p ps ih =>
       intro z r h
       obtain⟨i,x⟩:=p
       simp only [xe] at h
       split at h
       ·split at h
        ·rename_i z' hz'
         rw [ih z' r h]
         obtain⟨q1,q2⟩:=lput_eq hz'
         rw [q1]
         simp
         omega
        ·cases h
       ·cases h
    rw [h1 ps _ l hl,rB,B8]
   have hle:=adI hb
   refine⟨BH.2,(aA ρ l).toArray,len,?_,by simp [bY,hlen],by simp [hlen],fun j v hv=>by simpa using hv⟩
   have h3:=BH.1
   rw [<- hp1] at h3
   have hm:=made_eq ρ (LO ρ) B8 fq len
   unfold Instr.buildSlice
   simp only [abA,run_underlying hu,sizeOf,typeInfo,program,Sem.run,hi,abz,abC,e1]
   rw [if_neg (by omega)]
   by_cases h0:len * si.size=0
   ·have:len=0:=by
     rcases Nat.mul_eq_zero.1 h0 with h | h
     ·exact h
     ·omega
    subst this
    have h3':Instr.fill (fun i=>some (i * si.size,si.size)) #[] (parts.toList.map fun p=>(p.1,e p.2))=some (aA ρ l).toArray:=h3
    have hr0:(Array.range 0)=#[]:=rfl
    simp [h3',hr0,newRow,newObj,Sem.run]
   ·have hm':(Array.range (len * si.size)).map (fun x=>z.cells[x % z.cells.size]!)=(aA ρ (kg si.zero len)).toArray:=hm
    simp only [if_neg h0,zeroValue,typeInfo,program,abA,Sem.run,hi,hz,abz,abC]
    simp only [hm']
    simp [h3,newRow,newObj,Sem.run]
  ·cases h
 ·cases h
theorem Lo (hT:fD P N) {t:TypeId} {a b:Option SV} {fW:Arr} (h:N8 N t a b=some fW) (w:World) (ρ:Nm):∃kl kc n c,a=some (.v (.c (.il kl n))) /\ b=some (.v (.c (.il kc c))) /\ (∀x∈fW.1,x.name=none) /\ ∃row cap,
 (Instr.makeSlice t (.int kl n) (.int kc c)).run P w=.ok (.slice (some ⟨w.heap.size,0,none⟩) fW.2.2.2 cap) (w.alloc (.cells row fW.2.2.1)) /\ row.size=cap * fW.2.1 /\ fW.1.length<=cap * fW.2.1 /\ ∀(j:Nat) v,(aA ρ fW.1)[j]?=some v->row[j]?=some v:=by
 unfold N8 at h
 split at h
 ·rename_i si kl n kc c hs
  split at h
  ·rename_i hb
   cases h
   obtain⟨h0,h1,h2⟩:=aaV hb
   obtain⟨hu,i,z,hi,hz,e1,e2,fq,B8,LO,Jr⟩:=jZ (hT.sl t si hs)
   have hcb:c.toNat * si.bytes<=qU:=abL (adV _ (Nat.le_succ _)) h2
   have hcn:c.toNat<=qU:=by
    have:c.toNat * 1<=c.toNat * (si.bytes+1):=adV _ (by omega)
    omega
   have wH:(c.toNat:Int)=c:=by omega
   have hr:=run_make (P:=P) w t si.e i z hu hi hz kl kc n c h0 h1 (by
    rw [e2,<- wH,<- Int.natCast_mul,Nat.mul_comm]
    simp only [qU] at hcb
    omega) (by simp only [qU] at hcn;omega)
   have sD:z.cells.size=si.size:=by
    have:=congrArg List.length (LO Nm.id)
    rw [bY] at this
    simp at this
    omega
   refine⟨kl,kc,n,c,rfl,rfl,fun x hx=>Jr x (z5 hx),_,c.toNat,hr,by rw [size_madeCells,e1],by rw [rB,B8];exact abV _,fun j v hv=>?_⟩
   obtain⟨cc,F8,rfl⟩:=zq ρ _ j v hv
   have hj:j < c.toNat * si.size:=by
    have:=(abt.1 F8).1
    rw [rB,B8] at this
    exact this
   rw [z6 si.zero (by omega) _ j (by rw [B8];exact hj),B8] at F8
   have hzj:z.cells.toList[j % si.size]?=some (cc.aq ρ):=by
    rw [<- LO ρ]
    simp [aA,F8]
   simp only [madeCells,Array.getElem?_map,e1]
   rw [Array.getElem?_range]
   rw [if_pos hj]
   simp only [Option.map_some,sD]
   have du:j % si.size < z.cells.size:=by rw [sD];exact Nat.mod_lt _ fq
   rw [getElem!_pos z.cells (j % si.size) du]
   rw [Array.getElem?_toList,Array.getElem?_eq_getElem du] at hzj
   exact hzj
  ·cases h
 ·cases h
theorem VW (hT:fD P N) {t:TypeId} {a b:Option SV} {g:AV} {es len:Nat} (h:N7 N t a b=some (true,g,es,len)) (w:World):∃x y kl kc n c,a=some (.v (.c x)) /\ b=some (.v (.c y)) /\ (∀ρ:Nm,x.aq ρ=.int kl n) /\ (∀ρ:Nm,y.aq ρ=.int kc c) /\ ∃(row:Array Value) (e:TypeId),
 (Instr.makeSlice t (.int kl n) (.int kc c)).run P w=.ok (.slice (some ⟨w.heap.size,0,none⟩) len len) (w.alloc (.cells row e)) /\ row.size=len * es /\ N.F.fW g=some (es,e,row.toList):=by
 unfold N7 at h
 split at h
 ·rename_i si x y hs
  split at h
  ·rename_i kl n k1 kc c k2 hx hy
   split at h
   ·rename_i g' hg
    simp only [aaC,aaF] at h
    obtain⟨hb,rfl,rfl,rfl⟩:=h
    obtain⟨h0,h1,h2⟩:=aaV hb
    subst h1
    obtain⟨hu,i,z,hi,hz,e1,e2,fq,B8,LO,Jr⟩:=jZ (hT.sl t si hs)
    have hcb:n.toNat * si.bytes<=qU:=abL (adV _ (Nat.le_succ _)) h2
    have hcn:n.toNat<=qU:=by
     have:n.toNat * 1<=n.toNat * (si.bytes+1):=adV _ (by omega)
     omega
    have wH:(n.toNat:Int)=n:=by omega
    have hr:=run_make (P:=P) w t si.e i z hu hi hz kl kc n n h0 (aef _) (by
     rw [e2,<- wH,<- Int.natCast_mul,Nat.mul_comm]
     simp only [qU] at hcb
     omega) (by simp only [qU] at hcn;omega)
    refine⟨x,y,kl,kc,n,n,rfl,rfl,fun ρ=>fC ρ hx,fun ρ=>fC ρ hy,_,si.e,hr,by rw [size_madeCells,e1],?_⟩
    rw [N.F.zK _ _ _ _ _ hg]
    congr 3
    have:=made_eq Nm.id (LO Nm.id) B8 fq n.toNat
    rw [e1,show madeCells z.cells (n.toNat * si.size)=(Array.range (n.toNat * si.size)).map (z.cells[· % z.cells.size]!) from rfl,this]
   ·cases h
  ·cases h
 ·cases h
theorem VU {ρ:Nm} {H:Hp AV} {w:World} (hO:eZ N ρ H w) (hC:dM N H) {nm:Nat} (hn:ae H nm=none) (du:nm < H.length) (hG:¬nm < N.G) {g:AV} {es cap:Nat} {e:TypeId} {L:Nat} (hL:L<=nm) {row:Array Value}
 (Hq:row.size=cap * es) (hg:N.F.fW g=some (es,e,row.toList)) :
 eZ N (ρ.set nm ⟨w.heap.size,0,cap+1⟩ fun k=>k=w.heap.size) (cV H nm (some (.bI g))) (w.alloc (.cells row e)) /\
 iZ N L ρ H w (ρ.set nm ⟨w.heap.size,0,cap+1⟩ fun k=>k=w.heap.size) (cV H nm (some (.bI g))) (w.alloc (.cells row e)) /\
 dM N (cV H nm (some (.bI g))):=by
 refine I6 hO hC hn du hG (ck:=.bI g) (fun c hc=>by cases hc) hL (fun k hk=>?_) rfl rfl rfl ?_ ?_ ?_
 ·show (w.heap.push _)[k]?=_
  rw [Array.getElem?_push,if_neg (by omega)]
 ·show w.heap.size<=(w.heap.push _).size;simp
 ·show N.F.q g _ _ _
  rw [(jz _ _ _ _).1,(jz _ _ _ _).2]
  refine((N.F.mJ g _ _ _ hg).2 _ _ _).2 (.inr ⟨by simp,fun k=>Iff.rfl,row.toList,?_,?_,?_,?_⟩)
  ·show (w.heap.push _)[w.heap.size]?=_
   simp
  ·simp [Hq]
  ·simp [Hq]
  ·intro j v hv
   simpa using hv
 ·intro k hk
  have hk:(ρ.set nm ⟨w.heap.size,0,cap+1⟩ fun k=>k=w.heap.size).S nm k:=hk
  rw [(jz _ _ _ _).2] at hk
  omega
