import Derived.Test.YtadmfaohjnjajaaGreatDoorSxF
import Derived.Laws.MakeOwn
set_option linter.unusedVariables false
set_option linter.unusedSimpArgs false
set_option maxHeartbeats 4000000
namespace Go.Sx
section
variable {AV:Type} {P:Program} {N:Env AV} {ρ:Nm} {H:Hp AV} {w:World}
def bU (_N:Env AV) (H:Hp AV):Prop:=(∀n x,ab H n=some x->ClL H x.cellsOf) /\ True
theorem Own.lt (h:Own N ρ H w) {n:Nat} {c:Chunk AV} {k:Nat} (hc:ab H n=some c) (hk:c.fp ρ n k):k < w.heap.size:=by
 have:=h.q n c hc
 cases c with
 | cells l ty =>
   have hk':k=ρ n:=hk
   subst hk'
   exact(Array.getElem?_eq_some_iff.1 this).1
 | vec l es ty =>
   rcases this with⟨_,_,h0⟩ | ⟨_,h1,row,h2,_⟩
   ·exact absurd hk (h0 k)
   ·have:=(h1 k).1 hk
    subst this
    exact(Array.getElem?_eq_some_iff.1 h2).1
 | dead=>exact hk.elim
 | abs a=>exact N.F.dom a (ρ.L n) (ρ.S n) w k this hk
theorem jK {ρ':Nm} {w':World} {n:Nat} {c:Chunk AV} (hq:c.q N ρ n w) (hn:ρ'.L n=ρ.L n) (hS:ρ'.S n=ρ.S n) (hl:ah ρ' c.cellsOf=ah ρ c.cellsOf)
 (hk:∀k,c.fp ρ n k->w'.heap[k]?=w.heap[k]?):c.q N ρ' n w':=by
 cases c with
 | cells l ty =>
   have hf:ρ' n=ρ n:=by simp only [Nm.f,hn]
   show w'.heap[ρ' n]?=_
   have hl':ah ρ' l=ah ρ l:=hl
   rw [hf,hl',hk (ρ n) rfl]
   exact hq
 | vec l es ty =>
   show iC (ρ'.L n) (ρ'.S n) (ah ρ' l) es ty w'
   have hl':ah ρ' l=ah ρ l:=hl
   rw [hn,hS,hl']
   exact sG hq hk
 | dead=>trivial
 | abs a =>
   show N.F.q a (ρ'.L n) (ρ'.S n) w'
   rw [hn,hS]
   exact N.F.loc a (ρ.L n) (ρ.S n) w w' hk hq
theorem bA {ρ':Nm} {n:Nat} {c:Chunk AV} (hn:ρ'.L n=ρ.L n) (hS:ρ'.S n=ρ.S n):c.fp ρ' n=c.fp ρ n:=by
 cases c<;>simp [Chunk.fp,Nm.f,hn,hS]
def Nm.set (ρ:Nm) (nm:Nat) (l:Loc) (S:Nat->Prop):Nm:=⟨fun m=>if m=nm then l else ρ.L m,fun m=>if m=nm then S else ρ.S m⟩
theorem Nm.set_self (ρ:Nm) (nm:Nat) (l:Loc) (S:Nat->Prop):(ρ.set nm l S).L nm=l /\ (ρ.set nm l S).S nm=S:=by simp [Nm.set]
theorem Nm.set_ne (ρ:Nm) {nm n:Nat} (l:Loc) (S:Nat->Prop) (h:n≠nm):(ρ.set nm l S).L n=ρ.L n /\ (ρ.set nm l S).S n=ρ.S n:=by simp [Nm.set,h]
theorem Bh (hO:Own N ρ H w) (hC:bU N H) {nm:Nat} (hn:ab H nm=none) (hlt:nm < H.length) (hG:¬nm < N.G) {ck:Chunk AV} (hl:ClL H ck.cellsOf) {L:Nat} (hL:L<=nm) {w':World} {lc:Loc} {S:Nat->Prop}
 (hheap:∀k,k < w.heap.size->w'.heap[k]?=w.heap[k]?) (hos:w'.os=w.os) (htp:w'.tape=w.tape) (hout:w'.output=w.output) (hsz:w.heap.size<=w'.heap.size)
 (hq:ck.q N (ρ.set nm lc S) nm w') (hfp:∀k,ck.fp (ρ.set nm lc S) nm k->w.heap.size<=k) :
 Own N (ρ.set nm lc S) (bC H nm (some ck)) w' /\ Evo N L ρ H w (ρ.set nm lc S) (bC H nm (some ck)) w' /\ bU N (bC H nm (some ck)):=by
 have hne:∀n c,ab H n=some c->n≠nm:=fun n c h e=>by subst e;rw [hn] at h;cases h
 have hag:∀n c,ab H n=some c->(ρ.set nm lc S).L n=ρ.L n:=fun n c h=>(ρ.set_ne lc S (hne n c h)).1
 have hagS:∀n c,ab H n=some c->(ρ.set nm lc S).S n=ρ.S n:=fun n c h=>(ρ.set_ne lc S (hne n c h)).2
 have hold:∀n c,n≠nm->ab (bC H nm (some ck)) n=some c->ab H n=some c:=fun n c h e=>by rwa [aK _ (Ne.symm h)] at e
 have hnew:∀c,ab (bC H nm (some ck)) nm=some c->c=ck:=fun c h=>by rw [bn _ hlt] at h;exact(Option.some.inj h).symm
 have pers:∀n c,ab H n=some c->∃c',ab (bC H nm (some ck)) n=some c':=fun n c h=>⟨c,by rw [aK _ (Ne.symm (hne n c h))];exact h⟩
 refine hO.up3 ⟨⟨?_,?_,?_⟩,⟨pers,hag,?_,?_,?_,?_,hos,htp,hout,hsz⟩,?_,?_⟩
 ·intro n c hc
  by_cases e:n=nm
  ·subst e
   rw [hnew c hc]
   exact hq
  ·have hc':=hold n c e hc
   exact jK (hO.q n c hc') (hag n c hc') (hagS n c hc') (denL_congr (hC.1 n c hc') hag) (fun k hk=>hheap k (hO.lt hc' hk))
 ·intro n m c d hnm hc hd k hk hk'
  by_cases e:n=nm
  ·subst e
   rw [hnew c hc] at hk
   have hk:=hfp k hk
   have hd':=hold m d (Ne.symm hnm) hd
   rw [bA (hag m d hd') (hagS m d hd')] at hk'
   have:=hO.lt hd' hk'
   omega
  ·have hc':=hold n c e hc
   rw [bA (hag n c hc') (hagS n c hc')] at hk
   by_cases e':m=nm
   ·subst e'
    rw [hnew d hd] at hk'
    have hk'':=hfp k hk'
    have:=hO.lt hc' hk
    omega
   ·have hd':=hold m d e' hd
    rw [bA (hag m d hd') (hagS m d hd')] at hk'
    exact hO.dis n m c d hnm hc' hd' k hk hk'
 ·intro g hg
  have:g≠nm:=fun e=>hG (e▸hg)
  have h2:=(ρ.set_ne lc S this).1
  simp only [Nm.f,h2]
  exact hO.glb g hg
 ·intro n hnL hh
  have:n≠nm:=by omega
  rw [aK _ (Ne.symm this)];exact hh
 ·simp [bX]
 ·intro k hk _;exact hheap k hk
 ·intro n c k hc hk
  by_cases e:n=nm
  ·subst e
   rw [hnew c hc] at hk
   exact .inl (hfp k hk)
  ·have hc':=hold n c e hc
   rw [bA (hag n c hc') (hagS n c hc')] at hk
   exact .inr ⟨n,c,hc',hk⟩
 ·intro n x hc
  by_cases e:n=nm
  ·subst e
   rw [hnew x hc]
   exact hl.mono pers
  ·exact(hC.1 n x (hold n _ e hc)).mono pers
 ·trivial
theorem zq (hO:Own N ρ H w) (hC:bU N H) {nm:Nat} (hn:ab H nm=none) (hlt:nm < H.length) (hG:¬nm < N.G) {l:List Cell} (ty:TypeId) (hl:ClL H l) {L:Nat} (hL:L<=nm) :
 Own N (ρ.set nm ⟨w.heap.size,0,0⟩ fun _=>False) (bC H nm (some (.cells l ty))) (w.alloc (.cells (ah ρ l).toArray ty)) /\
 Evo N L ρ H w (ρ.set nm ⟨w.heap.size,0,0⟩ fun _=>False) (bC H nm (some (.cells l ty))) (w.alloc (.cells (ah ρ l).toArray ty)) /\
 bU N (bC H nm (some (.cells l ty))):=by
 have hne:∀n c,ab H n=some c->n≠nm:=fun n c h e=>by subst e;rw [hn] at h;cases h
 have hag:∀n c,ab H n=some c->(ρ.set nm ⟨w.heap.size,0,0⟩ fun _=>False).L n=ρ.L n:=fun n c h=>(ρ.set_ne _ _ (hne n c h)).1
 refine Bh hO hC hn hlt hG (ck:=.cells l ty) hl hL (fun k hk=>?_) rfl rfl rfl ?_ ?_ ?_
 ·show (w.heap.push _)[k]?=_
  rw [Array.getElem?_push,if_neg (by omega)]
 ·show w.heap.size<=(w.heap.push _).size;simp
 ·show (w.heap.push _)[(ρ.set nm _ _) nm]?=_
  have:(ρ.set nm ⟨w.heap.size,0,0⟩ fun _=>False) nm=w.heap.size:=by simp [Nm.f,Nm.set]
  rw [this,denL_congr hl hag]
  simp
 ·intro k hk
  have hk:k=(ρ.set nm ⟨w.heap.size,0,0⟩ fun _=>False) nm:=hk
  simp [Nm.f,Nm.set] at hk
  omega
theorem s8 (hO:Own N ρ H w) (hC:bU N H) {n:Nat} {ck ck':Chunk AV} (hn:ab H n=some ck) (hl:ClL H ck'.cellsOf) (L:Nat) {row:Array Value}
 (hfp:ck.fp ρ n (ρ n)) (hsame:∀k,ck'.fp ρ n k->ck.fp ρ n k) (hq:ck'.q N ρ n (w.setRow (ρ n) row)) :
 Own N ρ (bC H n (some ck')) (w.setRow (ρ n) row) /\ Evo N L ρ H w ρ (bC H n (some ck')) (w.setRow (ρ n) row) /\ bU N (bC H n (some ck')):=by
 have hlt:=aX hn
 have hself:=bn (H:=H) ck' hlt
 have hold:∀m c,m≠n->ab (bC H n (some ck')) m=some c->ab H m=some c:=fun m c h e=>by rwa [aK _ (Ne.symm h)] at e
 have pers:∀m c,ab H m=some c->∃c',ab (bC H n (some ck')) m=some c':=fun m c h=>by
  by_cases e:m=n
  ·subst e;exact⟨_,hself⟩
  ·exact⟨c,by rw [aK _ (Ne.symm e)];exact h⟩
 have hfp':∀m c,ab (bC H n (some ck')) m=some c->∃d,ab H m=some d /\ ∀k,c.fp ρ m k->d.fp ρ m k:=fun m c h=>by
  by_cases e:m=n
  ·subst e
   rw [hself] at h
   cases h
   exact⟨_,hn,hsame⟩
  ·exact⟨c,hold m c e h,fun _ h=>h⟩
 refine hO.up3 ⟨⟨?_,?_,hO.glb⟩,⟨pers,fun _ _ _=>rfl,?_,?_,?_,?_,rfl,rfl,rfl,?_⟩,?_,?_⟩
 ·intro m c hc
  by_cases e:m=n
  ·subst e
   rw [hself] at hc
   cases hc
   exact hq
  ·have hc':=hold m c e hc
   refine jK (hO.q m c hc') rfl rfl rfl (fun k hk=>setRow_other w (ρ n) k _ ?_)
   intro hkn
   subst hkn
   exact hO.dis m n c _ e hc' hn _ hk hfp
 ·intro m m' c d hmm hc hd k hk hk'
  obtain⟨c',h1,e1⟩:=hfp' m c hc
  obtain⟨d',h2,e2⟩:=hfp' m' d hd
  exact hO.dis m m' c' d' hmm h1 h2 k (e1 k hk) (e2 k hk')
 ·intro m _ hh
  by_cases e:m=n
  ·subst e;rw [hn] at hh;cases hh
  ·rw [aK _ (Ne.symm e)];exact hh
 ·simp [bX]
 ·intro k _ hk
  exact setRow_other w (ρ n) k _ (fun e=>hk n _ hn (e▸hfp))
 ·intro m c k hc hk
  obtain⟨d,h1,e1⟩:=hfp' m c hc
  exact .inr ⟨m,d,h1,e1 k hk⟩
 ·simp
 ·intro m x hc
  by_cases e:m=n
  ·subst e
   rw [hself] at hc
   cases hc
   exact hl.mono pers
  ·exact(hC.1 m x (hold m _ e hc)).mono pers
 ·trivial
theorem Ig (hO:Own N ρ H w) (hC:bU N H) {n:Nat} {l l':List Cell} {ty:TypeId} (hn:ab H n=some (.cells l ty)) (hl:ClL H l') (L:Nat) :
 Own N ρ (bC H n (some (.cells l' ty))) (w.setRow (ρ n) (ah ρ l').toArray) /\
 Evo N L ρ H w ρ (bC H n (some (.cells l' ty))) (w.setRow (ρ n) (ah ρ l').toArray) /\ bU N (bC H n (some (.cells l' ty))):=by
 have hblk:w.heap[ρ n]?=some (.cells (ah ρ l).toArray ty (0,0)):=hO.q n _ hn
 exact s8 hO hC hn (ck':=.cells l' ty) hl L rfl (fun _ h=>h) (setRow_heap w (ρ n) _ _ ty (0,0) hblk)
theorem gU (hT:TblOk P N) {t:TypeId} {l:List Cell} {off:Nat} {x:V1} (h:mg N t l off=some x) (b o:Nat) (hcell:∀j c,l[j]?=some c->w.cell? ⟨b,o+j,none⟩=some (c.den ρ)) :
 (loadVar t ⟨b,o+off,none⟩).run P w=.ok (x.den ρ) w:=by
 unfold mg at h
 split at h
 ·rename_i i ht
  have hk:=b7 hT ht
  have hs:=v8 hT ht
  obtain⟨h1,h2⟩:=n5 h
  unfold loadVar
  simp only [Sem.run_bind,ID hk,Result.andThen_ok]
  cases ha:oy i.kd with
  | true =>
    obtain⟨hle,rfl⟩:=h1 ha
    have hlen:(ah ρ ((l.drop off).take i.size)).length=i.size:=by simp [ah];omega
    have:=run_loadCells_list (P:=P) w ⟨b,o+off,none⟩ (ah ρ ((l.drop off).take i.size)) (by
     intro j v hj
     have hadd:(⟨b,o+off,none⟩:Addr).add j=⟨b,o+(off+j),none⟩:=by unfold Addr.add;split<;>simp_all [Nat.add_assoc]
     rw [hadd]
     simp only [ah,List.getElem?_map,Option.map_eq_some_iff] at hj
     obtain⟨c,hc,rfl⟩:=hj
     refine hcell (off+j) c ?_
     rw [List.getElem?_take] at hc
     split at hc
     ·rwa [List.getElem?_drop] at hc
     ·cases hc)
    rw [hlen] at this
    simp only [if_true,Sem.run_bind,bM hs,Result.andThen_ok,this,Sem.run_pure,V1.den]
  | false =>
    obtain⟨c,hc,rfl⟩:=h2 ha
    simp only [Bool.false_eq_true,if_false,run_load,hcell off c hc,V1.den]
 ·cases h
theorem yr (hO:Own N ρ H w) {n:Nat} {l:List Cell} {ty:TypeId} (hn:ab H n=some (.cells l ty)) (j:Nat) (c:Cell) (hc:l[j]?=some c):w.cell? ⟨ρ n,j,none⟩=some (c.den ρ):=by
 have:w.heap[ρ n]?=some (.cells (ah ρ l).toArray ty (0,0)):=hO.q n _ hn
 simp [World.cell?,this,ah,hc]
theorem jf {t:Option V1} {why:String} {v:SV} (h:(one t why).val=some v):∃x,t=some x /\ v=.v x:=by
 unfold one at h
 split at h
 ·simp only [T.val,Option.some.injEq] at h;exact⟨_,rfl,h.symm⟩
 ·simp [T.val] at h
theorem fI {t:TypeId} {l:List Cell} {off:Nat} {x:V1} (h:mg N t l off=some x) (hc:ClL H l):ClV1 H x:=by
 unfold mg at h
 split at h
 ·exact wV h hc
 ·cases h
theorem DV (hO:Own N ρ H w) {n:Nat} {l:List Cell} {es:Nat} {ty:TypeId} (hn:ab H n=some (.vec l es ty)) (j:Nat) (c:Cell) (hc:l[j]?=some c):w.cell? ⟨ρ n,(ρ.L n).o+j,none⟩=some (c.den ρ):=by
 rcases hO.q n _ hn with⟨_,h0,_⟩ | ⟨_,_,row,h2,_,_,h5⟩
 ·have:l=[]:=by simpa [ah] using h0
  rw [this] at hc;simp at hc
 ·have:=h5 j (c.den ρ) (by simp [ah,hc])
  simp only [World.cell?,Nm.f,h2]
  simpa using this
theorem L6 (hT:TblOk P N) (hO:Own N ρ H w) (hC:bU N H) {t:TypeId} {p v:SV} (h:(xC N t H p).val=some v) :
 (Instr.loadAt t (p.den ρ)).run P w=.ok (v.den ρ) w /\ ClV H v:=by
 unfold xC at h
 split at h
 ·rename_i n off
  split at h
  ·rename_i l ty hn
   obtain⟨x,hx,rfl⟩:=jf h
   have:=gU (ρ:=ρ) (w:=w) hT hx (ρ n) 0 (fun j c hc=>by rw [Nat.zero_add];exact yr hO hn j c hc)
   rw [Nat.zero_add] at this
   refine⟨?_,fI hx (hC.1 n _ hn)⟩
   simp only [Instr.loadAt,SV.den,V1.den,Cell.den,Instr.sureAddr,Sem.run_bind,Sem.run_pure,Result.andThen_ok]
   exact this
  ·rename_i a hn
   split at h
   ·rename_i l hw
    obtain⟨x,hx,rfl⟩:=jf h
    have hq:N.F.q a (ρ.L n) (ρ.S n) w:=hO.q n _ hn
    have hrow:=N.F.word_ok a (ρ.L n) (ρ.S n) w l hq hw
    have:=gU (ρ:=ρ) (w:=w) hT hx (ρ n) 0 (fun j c hc=>by
     have h2:=hrow j c hc
     have h1:=N.F.word_nm a l hw c (List.mem_of_getElem? hc)
     rw [Nat.zero_add,show ρ n=(ρ.L n).b from rfl,h2,den_congr c (ρ:=Nm.id) (ρ':=ρ) (fun m hm=>by rw [h1] at hm;cases hm)])
    rw [Nat.zero_add] at this
    refine⟨?_,fI hx (eh fun c hc=>?_)⟩
    ·simp only [Instr.loadAt,SV.den,V1.den,Cell.den,Instr.sureAddr,Sem.run_bind,Sem.run_pure,Result.andThen_ok]
     exact this
    ·exact N.F.word_nm a l hw c hc
   ·simp [T.val] at h
  ·simp [T.val] at h
 ·rename_i n idx es off
  split at h
  ·rename_i a hn
   split at h
   ·-- a part whose place may be open
    rename_i t' ht
    unfold SR at ht
    split at ht
    ·rename_i i hi
     split at ht
     ·rename_i b l hp
      cases ht
      obtain⟨rfl,h⟩:=cZ h
      obtain⟨x,hx,rfl⟩:=jf h
      have hx':mg N t l 0=some x:=by unfold mg;rw [hi];exact hx
      have hq:N.F.q a (ρ.L n) (ρ.S n) w:=hO.q n _ hn
      have hrow:=N.F.prt_ok a (ρ.L n) (ρ.S n) w idx es off i.size l hO.ro.1 hq hp
      have:=gU (ρ:=ρ) (w:=w) hT hx' (ρ n) ((ρ.L n).o+idx * es+off) (fun j c hc=>by
       have h2:=hrow j c hc
       have h1:=N.F.prt_nm a idx es off i.size l hp c (List.mem_of_getElem? hc)
       rw [show ρ n=(ρ.L n).b from rfl,h2,den_congr c (ρ:=Nm.id) (ρ':=ρ) (fun m hm=>by rw [h1] at hm;cases hm)])
      refine⟨?_,fI hx' (eh fun c hc=>N.F.prt_nm a idx es off i.size l hp c hc)⟩
      simp only [Instr.loadAt,SV.den,V1.den,Cell.den,Instr.sureAddr,Sem.run_bind,Sem.run_pure,Result.andThen_ok]
      exact this
     ·cases ht
    ·cases ht
   split at h
   ·rename_i b l hr
    obtain⟨rfl,h⟩:=cZ h
    obtain⟨x,hx,rfl⟩:=jf h
    have hq:N.F.q a (ρ.L n) (ρ.S n) w:=hO.q n _ hn
    have hrow:=N.F.row_ok a (ρ.L n) (ρ.S n) w idx es l hO.ro.1 hq hr
    have:=gU (ρ:=ρ) (w:=w) hT hx (ρ n) ((ρ.L n).o+idx * es) (fun j c hc=>by
     have h2:=hrow j c hc
     have h1:=N.F.row_nm a idx es l hr c (List.mem_of_getElem? hc)
     rw [show ρ n=(ρ.L n).b from rfl,h2,den_congr c (ρ:=Nm.id) (ρ':=ρ) (fun m hm=>by rw [h1] at hm;cases hm)])
    refine⟨?_,fI hx (eh fun c hc=>?_)⟩
    ·simp only [Instr.loadAt,SV.den,V1.den,Cell.den,Instr.sureAddr,Sem.run_bind,Sem.run_pure,Result.andThen_ok]
     exact this
    ·exact N.F.row_nm a idx es l hr c hc
   ·simp [T.val] at h
  ·rename_i l _ ty hn
   obtain⟨x,hx,rfl⟩:=jf h
   have:=gU (ρ:=ρ) (w:=w) hT hx (ρ n) (ρ.L n).o (fun j c hc=>DV hO hn j c hc)
   refine⟨?_,fI hx (hC.1 n _ hn)⟩
   simp only [Instr.loadAt,SV.den,V1.den,Cell.den,Instr.sureAddr,Sem.run_bind,Sem.run_pure,Result.andThen_ok]
   rw [Nat.add_assoc]
   exact this
  ·simp [T.val] at h
 ·simp [T.val] at h
theorem qY (hT:TblOk P N) {t:TypeId} {i:TI} {b off:Nat} {row:List Value} {ty:TypeId} {v:V1} (hblk:w.heap[b]?=some (.cells row.toArray ty (0,0))) (ht:N.tt.get t=some i) (hs:i.size=v.cells.length)
 (hle:off+v.cells.length<=row.length):(Instr.storeAt t (.pointer (some ⟨b,off,none⟩)) (v.den ρ)).run P w=.ok () (w.setRow b (row.take off++(ah ρ v.cells++row.drop (off+v.cells.length))).toArray):=by
 have hcl:(v.den ρ).cells.toList=ah ρ v.cells:=V1.den_cells ρ v
 have hcs:(v.den ρ).cells.size=i.size:=by rw [<- Array.length_toList,hcl,bY,hs]
 have:=run_storeCells_at P b off ty (ah ρ v.cells) 0 row.toArray w hblk (by simp [bY];omega) (by
  intro x hx
  simp only [ah,List.mem_map] at hx
  obtain⟨c,_,rfl⟩:=hx
  exact sd ρ c)
 simp only [Instr.storeAt,Instr.sureAddr,Sem.run_bind,Sem.run_pure,Result.andThen_ok,storeVar,bM (v8 hT ht),hcs,ne_eq,not_true_eq_false,if_false,hcl]
 erw [this]
 congr 3
 simp [ah]
theorem HG (hT:TblOk P N) (hO:Own N ρ H w) {t:TypeId} {i:TI} {n off:Nat} {l l':List Cell} {ty:TypeId} {v:V1} (hn:ab H n=some (.cells l ty)) (ht:N.tt.get t=some i) (hs:i.size=v.cells.length)
 (hl:gZ l off v.cells=some l'):(Instr.storeAt t (.pointer (some ⟨ρ n,off,none⟩)) (v.den ρ)).run P w=.ok () (w.setRow (ρ n) (ah ρ l').toArray):=by
 have hblk:w.heap[ρ n]?=some (.cells (ah ρ l).toArray ty (0,0)):=hO.q n _ hn
 obtain⟨e1,e2⟩:=lput_eq hl
 have hcl:(v.den ρ).cells.toList=ah ρ v.cells:=V1.den_cells ρ v
 have hcs:(v.den ρ).cells.size=i.size:=by rw [<- Array.length_toList,hcl,bY,hs]
 have:=run_storeCells_at P (ρ n) off ty (ah ρ v.cells) 0 (ah ρ l).toArray w hblk (by simp [bY];omega) (by
  intro x hx
  simp only [ah,List.mem_map] at hx
  obtain⟨c,_,rfl⟩:=hx
  exact sd ρ c)
 simp only [Instr.storeAt,Instr.sureAddr,Sem.run_bind,Sem.run_pure,Result.andThen_ok,storeVar,bM (v8 hT ht),hcs,ne_eq,not_true_eq_false,if_false,hcl]
 erw [this]
 congr 3
 rw [e1]
 simp [ah,List.map_append,List.map_take,List.map_drop]
end
section
variable {AV:Type} {P:Program} {N:Env AV}
theorem fT {t:TypeId} {si:SI} (h:rI P t=some si):P.underlying t=some (.slice si.e) /\ ∃(i:TypeInfo) (z:Value),P.info? si.e=some i /\ i.zero=some z /\ i.size=si.size /\ i.bytes=si.bytes /\ 0 < si.size /\ si.zero.length=si.size /\
 (∀ρ:Nm,ah ρ si.zero=z.cells.toList) /\ ∀c∈si.zero,c.name=none:=by
 unfold rI at h
 split at h
 ·rename_i e he
  split at h
  ·rename_i i hi
   split at h
   ·rename_i z hz
    split at h
    ·rename_i l hl
     split at h
     ·rename_i h1 h2
      cases h
      have hp:1<=i.size:=by simpa [Nat.blt] using h2
      exact⟨he,i,z,hi,hz,rfl,rfl,hp,(ai _ _).1 h1,fun ρ=>(ic ρ hl).1,(ic Nm.id hl).2⟩
     ·cases h
    ·cases h
   ·cases h
  ·cases h
 ·cases h
theorem mb (z:List Cell):∀n,(fW z n).length=n * z.length
 | 0=>by simp [fW]
 | n+1=>by simp [fW,mb z n,Nat.succ_mul];omega
theorem sW {z:List Cell}:∀{n:Nat} {c:Cell},c∈fW z n->c∈z
 | 0,c,h=>by cases h
 | n+1,c,h=>by
   rcases List.mem_append.1 h with h | h
   ·exact h
   ·exact sW h
theorem sX (z:List Cell) (hz:0 < z.length):∀(n j:Nat),j < n * z.length->(fW z n)[j]?=z[j % z.length]?
 | 0,j,h=>by omega
 | n+1,j,h=>by
   simp only [fW]
   rcases Nat.lt_or_ge j z.length with hj | hj
   ·rw [List.getElem?_append_left hj,Nat.mod_eq_of_lt hj]
   ·rw [List.getElem?_append_right hj,sX z hz n (j - z.length) (by rw [Nat.succ_mul] at h;omega),<- Nat.mod_eq_sub_mod hj]
theorem bc (ρ:Nm) (l:List Cell):(ah ρ l).length=l.length:=by simp [ah]
theorem sg (ρ:Nm) (l:List Cell) (j:Nat) (v:Value) (h:(ah ρ l)[j]?=some v):∃c,l[j]?=some c /\ v=c.den ρ:=by
 simp only [ah,List.getElem?_map,Option.map_eq_some_iff] at h
 obtain⟨c,hc,rfl⟩:=h
 exact⟨c,hc,rfl⟩
theorem fz (ρ:Nm) (n:Nat) (l:Loc) (S:Nat->Prop):(ρ.set n l S).L n=l /\ (ρ.set n l S).S n=S:=ρ.set_self n l S
theorem Pb {ρ:Nm} {H:Hp AV} {w:World} (hO:Own N ρ H w) (hC:bU N H) {nm:Nat} (hn:ab H nm=none) (hlt:nm < H.length) (hG:¬nm < N.G) {l:List Cell} {es cap:Nat} {e:TypeId} (hl:ClL H l) {L:Nat} (hL:L<=nm) {row:Array Value}
 (hsize:row.size=cap * es) (hle:l.length<=cap * es) (hrow:∀(j:Nat) v,(ah ρ l)[j]?=some v->row[j]?=some v) :
 Own N (ρ.set nm ⟨w.heap.size,0,cap+1⟩ fun k=>k=w.heap.size) (bC H nm (some (.vec l es e))) (w.alloc (.cells row e)) /\
 Evo N L ρ H w (ρ.set nm ⟨w.heap.size,0,cap+1⟩ fun k=>k=w.heap.size) (bC H nm (some (.vec l es e))) (w.alloc (.cells row e)) /\
 bU N (bC H nm (some (.vec l es e))):=by
 have hne:∀n c,ab H n=some c->n≠nm:=fun n c h e=>by subst e;rw [hn] at h;cases h
 have hden:ah (ρ.set nm ⟨w.heap.size,0,cap+1⟩ fun k=>k=w.heap.size) l=ah ρ l:=denL_congr hl fun n c h=>(ρ.set_ne _ _ (hne n c h)).1
 refine Bh hO hC hn hlt hG (ck:=.vec l es e) hl hL (fun k hk=>?_) rfl rfl rfl ?_ ?_ ?_
 ·show (w.heap.push _)[k]?=_
  rw [Array.getElem?_push,if_neg (by omega)]
 ·show w.heap.size<=(w.heap.push _).size;simp
 ·show iC _ _ _ _ _ _
  rw [(fz _ _ _ _).1,(fz _ _ _ _).2,hden]
  refine .inr ⟨by simp,fun k=>Iff.rfl,row.toList,?_,?_,?_,?_⟩
  ·show (w.heap.push _)[w.heap.size]?=_
   simp
  ·simp [hsize]
  ·rw [bc];simpa using hle
  ·intro j v hv
   have:=hrow j v hv
   simpa using this
 ·intro k hk
  have hk:(ρ.set nm ⟨w.heap.size,0,cap+1⟩ fun k=>k=w.heap.size).S nm k:=hk
  rw [(fz _ _ _ _).2] at hk
  omega
theorem vM {ρ:Nm} {nm len cap es b:Nat} {S:Nat->Prop}:(SV.v (.c (.vs nm 0 len es true))).den (ρ.set nm ⟨b,0,cap+1⟩ S)=.slice (some ⟨b,0,none⟩) len cap:=by
 simp only [SV.den,V1.den,Cell.den,aW,(fz _ _ _ _).1]
 rw [if_neg (by omega)]
 simp
theorem made_eq (ρ:Nm) {z:Value} {si:SI} (hzd:ah ρ si.zero=z.cells.toList) (hzl:si.zero.length=si.size) (hpos:0 < si.size) (n:Nat):(Array.range (n * si.size)).map (z.cells[· % z.cells.size]!)=(ah ρ (fW si.zero n)).toArray:=by
 have hsz:z.cells.size=si.size:=by
  have:=congrArg List.length hzd
  rw [bc] at this
  simp at this
  omega
 apply Array.ext'
 apply List.ext_getElem?
 intro j
 rw [hsz]
 by_cases hj:j < n * si.size
 ·have hlt:j % si.size < z.cells.size:=by rw [hsz];exact Nat.mod_lt _ hpos
  have h1:(ah ρ (fW si.zero n))[j]?=z.cells.toList[j % si.size]?:=by
   rw [<- hzd]
   simp only [ah,List.getElem?_map]
   rw [sX si.zero (by omega) n j (by rw [hzl];exact hj),hzl]
  simp only [h1]
  rw [Array.getElem?_toList,Array.getElem?_map,Array.getElem?_range,if_pos hj]
  simp only [Option.map_some]
  rw [getElem!_pos z.cells (j % si.size) hlt,Array.getElem?_toList,Array.getElem?_eq_getElem hlt]
 ·rw [List.getElem?_eq_none (by simp;omega),List.getElem?_eq_none (by simp [bc,mb,hzl];omega)]
theorem yt (hT:TblOk P N) {ρ:Nm} {H:Hp AV} {ev:Operand->Option SV} {e:Operand->Value} (hev:EvOk ρ H ev e) {t:TypeId} {len:Nat} {parts:Array (Nat×Operand)} {arr:Arr} (h:Bu N t len (sa ev parts.toList)=some arr) (w:World):ClL H arr.1 /\ ∃row cap,
 (Instr.buildSlice t len (parts.map fun(i,x)=>(i,e x))).run P w=.ok (.slice (some ⟨w.heap.size,0,none⟩) arr.2.2.2 cap) (w.alloc (.cells row arr.2.2.1)) /\ row.size=cap * arr.2.1 /\ arr.1.length<=cap * arr.2.1 /\ ∀(j:Nat) v,(ah ρ arr.1)[j]?=some v->row[j]?=some v:=by
 unfold Bu at h
 split at h
 ·rename_i si ps hs hp
  split at h
  ·rename_i l hl hb
   cases h
   obtain⟨hu,i,z,hi,hz,e1,e2,hpos,hzl,hzd,hzn⟩:=fT (hT.sl t si hs)
   obtain⟨hp1,hp2⟩:=rZ hev hp
   have hcl0:ClL H (fW si.zero len):=eh fun c hc=>hzn c (sW hc)
   have hfill:=tX (ρ:=ρ) (H:=H) si.size ps (fW si.zero len) l hl hcl0 hp2
   have hlen:l.length=len * si.size:=by
    have h1:∀(ps:List (Nat×V1)) (z r:List Cell),p8 si.size z ps=some r->r.length=z.length:=by
     intro ps
     induction ps with
     | nil=>intro z r h;simp only [p8,Option.some.injEq] at h;rw [h]
     | cons p ps ih =>
       intro z r h
       obtain⟨i,x⟩:=p
       simp only [p8] at h
       split at h
       ·split at h
        ·rename_i z' hz'
         rw [ih z' r h]
         obtain⟨q1,q2⟩:=lput_eq hz'
         rw [q1]
         simp
         omega
        ·cases h
       ·cases h
    rw [h1 ps _ l hl,mb,hzl]
   have hle:=Nat.le_of_ble_eq_true hb
   refine⟨hfill.2,(ah ρ l).toArray,len,?_,by simp [bc,hlen],by simp [hlen],fun j v hv=>by simpa using hv⟩
   have h3:=hfill.1
   rw [<- hp1] at h3
   have hm:=made_eq ρ (hzd ρ) hzl hpos len
   unfold Instr.buildSlice
   simp only [Sem.run_bind,run_underlying hu,sizeOf,typeInfo,program,Sem.run,hi,Result.andThen_ok,Sem.run_pure,e1]
   rw [if_neg (by omega)]
   by_cases h0:len * si.size=0
   ·have:len=0:=by
     rcases Nat.mul_eq_zero.1 h0 with h | h
     ·exact h
     ·omega
    subst this
    have h3':Instr.fill (fun i=>some (i * si.size,si.size)) #[] (parts.toList.map fun p=>(p.1,e p.2))=some (ah ρ l).toArray:=h3
    have hr0:(Array.range 0)=#[]:=rfl
    simp [h3',hr0,newRow,newObj,Sem.run]
   ·have hm':(Array.range (len * si.size)).map (fun x=>z.cells[x % z.cells.size]!)=(ah ρ (fW si.zero len)).toArray:=hm
    simp only [if_neg h0,zeroValue,typeInfo,program,Sem.run_bind,Sem.run,hi,hz,Result.andThen_ok,Sem.run_pure]
    simp only [hm']
    simp [h3,newRow,newObj,Sem.run]
  ·cases h
 ·cases h
theorem CX (hT:TblOk P N) {t:TypeId} {a b:Option SV} {arr:Arr} (h:EP N t a b=some arr) (w:World) (ρ:Nm):∃kl kc n c,a=some (.v (.c (.il kl n))) /\ b=some (.v (.c (.il kc c))) /\ (∀x∈arr.1,x.name=none) /\ ∃row cap,
 (Instr.makeSlice t (.int kl n) (.int kc c)).run P w=.ok (.slice (some ⟨w.heap.size,0,none⟩) arr.2.2.2 cap) (w.alloc (.cells row arr.2.2.1)) /\ row.size=cap * arr.2.1 /\ arr.1.length<=cap * arr.2.1 /\ ∀(j:Nat) v,(ah ρ arr.1)[j]?=some v->row[j]?=some v:=by
 unfold EP at h
 split at h
 ·rename_i si kl n kc c hs
  split at h
  ·rename_i hb
   cases h
   obtain⟨h0,h1,h2⟩:=of_decide_eq_true hb
   obtain⟨hu,i,z,hi,hz,e1,e2,hpos,hzl,hzd,hzn⟩:=fT (hT.sl t si hs)
   have hcb:c.toNat * si.bytes<=lim:=Nat.le_trans (Nat.mul_le_mul_left _ (Nat.le_succ _)) h2
   have hcn:c.toNat<=lim:=by
    have:c.toNat * 1<=c.toNat * (si.bytes+1):=Nat.mul_le_mul_left _ (by omega)
    omega
   have hc0:(c.toNat:Int)=c:=by omega
   have hr:=run_make (P:=P) w t si.e i z hu hi hz kl kc n c h0 h1 (by
    rw [e2,<- hc0,<- Int.natCast_mul,Nat.mul_comm]
    simp only [lim] at hcb
    omega) (by simp only [lim] at hcn;omega)
   have hsz:z.cells.size=si.size:=by
    have:=congrArg List.length (hzd Nm.id)
    rw [bc] at this
    simp at this
    omega
   refine⟨kl,kc,n,c,rfl,rfl,fun x hx=>hzn x (sW hx),_,c.toNat,hr,by rw [size_madeCells,e1],by rw [mb,hzl];exact Nat.le_refl _,fun j v hv=>?_⟩
   obtain⟨cc,hcc,rfl⟩:=sg ρ _ j v hv
   have hj:j < c.toNat * si.size:=by
    have:=(List.getElem?_eq_some_iff.1 hcc).1
    rw [mb,hzl] at this
    exact this
   rw [sX si.zero (by omega) _ j (by rw [hzl];exact hj),hzl] at hcc
   have hzj:z.cells.toList[j % si.size]?=some (cc.den ρ):=by
    rw [<- hzd ρ]
    simp [ah,hcc]
   simp only [madeCells,Array.getElem?_map,e1]
   rw [Array.getElem?_range]
   rw [if_pos hj]
   simp only [Option.map_some,hsz]
   have hlt:j % si.size < z.cells.size:=by rw [hsz];exact Nat.mod_lt _ hpos
   rw [getElem!_pos z.cells (j % si.size) hlt]
   rw [Array.getElem?_toList,Array.getElem?_eq_getElem hlt] at hzj
   exact hzj
  ·cases h
 ·cases h
theorem Li (hT:TblOk P N) {t:TypeId} {a b:Option SV} {g:AV} {es len:Nat} (h:EO N t a b=some (true,g,es,len)) (w:World):∃x y kl kc n c,a=some (.v (.c x)) /\ b=some (.v (.c y)) /\ (∀ρ:Nm,x.den ρ=.int kl n) /\ (∀ρ:Nm,y.den ρ=.int kc c) /\ ∃(row:Array Value) (e:TypeId),
 (Instr.makeSlice t (.int kl n) (.int kc c)).run P w=.ok (.slice (some ⟨w.heap.size,0,none⟩) len len) (w.alloc (.cells row e)) /\ row.size=len * es /\ N.F.arr g=some (es,e,row.toList):=by
 unfold EO at h
 split at h
 ·rename_i si x y hs
  split at h
  ·rename_i kl n k1 kc c k2 hx hy
   split at h
   ·rename_i g' hg
    simp only [Option.some.injEq,Prod.mk.injEq] at h
    obtain⟨hb,rfl,rfl,rfl⟩:=h
    obtain⟨h0,h1,h2⟩:=of_decide_eq_true hb
    subst h1
    obtain⟨hu,i,z,hi,hz,e1,e2,hpos,hzl,hzd,hzn⟩:=fT (hT.sl t si hs)
    have hcb:n.toNat * si.bytes<=lim:=Nat.le_trans (Nat.mul_le_mul_left _ (Nat.le_succ _)) h2
    have hcn:n.toNat<=lim:=by
     have:n.toNat * 1<=n.toNat * (si.bytes+1):=Nat.mul_le_mul_left _ (by omega)
     omega
    have hc0:(n.toNat:Int)=n:=by omega
    have hr:=run_make (P:=P) w t si.e i z hu hi hz kl kc n n h0 (Int.le_refl _) (by
     rw [e2,<- hc0,<- Int.natCast_mul,Nat.mul_comm]
     simp only [lim] at hcb
     omega) (by simp only [lim] at hcn;omega)
    refine⟨x,y,kl,kc,n,n,rfl,rfl,fun ρ=>cR ρ hx,fun ρ=>cR ρ hy,_,si.e,hr,by rw [size_madeCells,e1],?_⟩
    rw [N.F.zer_ok _ _ _ _ _ hg]
    congr 3
    have:=made_eq Nm.id (hzd Nm.id) hzl hpos n.toNat
    rw [e1,show madeCells z.cells (n.toNat * si.size)=(Array.range (n.toNat * si.size)).map (z.cells[· % z.cells.size]!) from rfl,this]
   ·cases h
  ·cases h
 ·cases h
theorem Lg {ρ:Nm} {H:Hp AV} {w:World} (hO:Own N ρ H w) (hC:bU N H) {nm:Nat} (hn:ab H nm=none) (hlt:nm < H.length) (hG:¬nm < N.G) {g:AV} {es cap:Nat} {e:TypeId} {L:Nat} (hL:L<=nm) {row:Array Value}
 (hsize:row.size=cap * es) (hg:N.F.arr g=some (es,e,row.toList)) :
 Own N (ρ.set nm ⟨w.heap.size,0,cap+1⟩ fun k=>k=w.heap.size) (bC H nm (some (.abs g))) (w.alloc (.cells row e)) /\
 Evo N L ρ H w (ρ.set nm ⟨w.heap.size,0,cap+1⟩ fun k=>k=w.heap.size) (bC H nm (some (.abs g))) (w.alloc (.cells row e)) /\
 bU N (bC H nm (some (.abs g))):=by
 refine Bh hO hC hn hlt hG (ck:=.abs g) (fun c hc=>by cases hc) hL (fun k hk=>?_) rfl rfl rfl ?_ ?_ ?_
 ·show (w.heap.push _)[k]?=_
  rw [Array.getElem?_push,if_neg (by omega)]
 ·show w.heap.size<=(w.heap.push _).size;simp
 ·show N.F.q g _ _ _
  rw [(fz _ _ _ _).1,(fz _ _ _ _).2]
  refine((N.F.arr_q g _ _ _ hg).2 _ _ _).2 (.inr ⟨by simp,fun k=>Iff.rfl,row.toList,?_,?_,?_,?_⟩)
  ·show (w.heap.push _)[w.heap.size]?=_
   simp
  ·simp [hsize]
  ·simp [hsize]
  ·intro j v hv
   simpa using hv
 ·intro k hk
  have hk:(ρ.set nm ⟨w.heap.size,0,cap+1⟩ fun k=>k=w.heap.size).S nm k:=hk
  rw [(fz _ _ _ _).2] at hk
  omega
end
end Go.Sx
