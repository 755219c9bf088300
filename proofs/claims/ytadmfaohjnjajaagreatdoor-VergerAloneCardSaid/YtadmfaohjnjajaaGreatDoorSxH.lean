import Derived.Test.YtadmfaohjnjajaaGreatDoorSxF
import Derived.Laws.MakeOwn
set_option linter.unusedVariables false
set_option linter.unusedSimpArgs false
set_option maxHeartbeats 0
set_option maxRecDepth 100000
namespace Go.Sx
section
variable {AV:Type} {P:Program} {N:eI AV} {ρ:Nm} {H:Hp AV} {w:World}
def eX (_N:eI AV) (H:Hp AV):Prop:=(∀n x,af H n=some x->oy H x.cellsOf) /\ True
theorem gF.lt (h:gF N ρ H w) {n:Nat} {c:aK AV} {k:Nat} (hc:af H n=some c) (hk:c.fp ρ n k):k < w.heap.size:=by
 have:=h.q n c hc;cases c with
 | cells l ty =>have eh:k=ρ n:=hk;subst eh;exact(ada.1 this).1
 | oB l es ty =>
   rcases this with⟨_,_,h0⟩ | ⟨_,h1,row,h2,_⟩
   ·exact absurd hk (h0 k)
   ·have:=(h1 k).1 hk;subst this;exact(ada.1 h2).1
 | kN=>exact hk.elim
 | bN a=>exact N.F.dom a (ρ.L n) (ρ.S n) w k this hk
theorem o7 {ρ':Nm} {w':World} {n:Nat} {c:aK AV} (hq:c.q N ρ n w) (hn:ρ'.L n=ρ.L n) (hS:ρ'.S n=ρ.S n) (hl:aF ρ' c.cellsOf=aF ρ c.cellsOf)
 (hk:∀k,c.fp ρ n k->w'.heap[k]?=w.heap[k]?):c.q N ρ' n w':=by
 cases c with
 | cells l ty =>
   have hf:ρ' n=ρ n:=by simp only [Nm.f,hn]
   show w'.heap[ρ' n]?=_;have Co:aF ρ' l=aF ρ l:=hl;rw [hf,Co,hk (ρ n) rfl];exact hq
 | oB l es ty =>show ng (ρ'.L n) (ρ'.S n) (aF ρ' l) es ty w';have Co:aF ρ' l=aF ρ l:=hl;rw [hn,hS,Co];exact AA hq hk
 | kN=>trivial
 | bN a =>show N.F.q a (ρ'.L n) (ρ'.S n) w';rw [hn,hS];exact N.F.loc a (ρ.L n) (ρ.S n) w w' hk hq
theorem cY {ρ':Nm} {n:Nat} {c:aK AV} (hn:ρ'.L n=ρ.L n) (hS:ρ'.S n=ρ.S n):c.fp ρ' n=c.fp ρ n:=by cases c<;>simp [aK.fp,Nm.f,hn,hS]
def Nm.set (ρ:Nm) (nm:Nat) (l:m9) (S:Nat->Prop):Nm:=⟨fun m=>if m=nm then l else ρ.L m,fun m=>if m=nm then S else ρ.S m⟩
theorem Nm.WV (ρ:Nm) (nm:Nat) (l:m9) (S:Nat->Prop):(ρ.set nm l S).L nm=l /\ (ρ.set nm l S).S nm=S:=by simp [Nm.set]
theorem Nm.uR (ρ:Nm) {nm n:Nat} (l:m9) (S:Nat->Prop) (h:n≠nm):(ρ.set nm l S).L n=ρ.L n /\ (ρ.set nm l S).S n=ρ.S n:=by simp [Nm.set,h]
theorem J2 (hO:gF N ρ H w) (hC:eX N H) {nm:Nat} (hn:af H nm=none) (hlt:nm < H.length) (hG:¬nm < N.G) {ck:aK AV} (hl:oy H ck.cellsOf) {L:Nat} (hL:L<=nm) {w':World} {lc:m9} {S:Nat->Prop}
 (IB:∀k,k < w.heap.size->w'.heap[k]?=w.heap[k]?) (hos:w'.os=w.os) (htp:w'.tape=w.tape) (aiP:w'.output=w.output) (tP:w.heap.size<=w'.heap.size)
 (hq:ck.q N (ρ.set nm lc S) nm w') (hfp:∀k,ck.fp (ρ.set nm lc S) nm k->w.heap.size<=k) :
 gF N (ρ.set nm lc S) (de H nm (some ck)) w' /\ lj N L ρ H w (ρ.set nm lc S) (de H nm (some ck)) w' /\ eX N (de H nm (some ck)):=by
 have dE:∀n c,af H n=some c->n≠nm:=fun n c h e=>by subst e;rw [hn] at h;cases h
 have xw:∀n c,af H n=some c->(ρ.set nm lc S).L n=ρ.L n:=fun n c h=>(ρ.uR lc S (dE n c h)).1;have FD:∀n c,af H n=some c->(ρ.set nm lc S).S n=ρ.S n:=fun n c h=>(ρ.uR lc S (dE n c h)).2;have hold:∀n c,n≠nm->af (de H nm (some ck)) n=some c->af H n=some c:=fun n c h e=>by rwa [bz _ (Ne.symm h)] at e
 have yw:∀c,af (de H nm (some ck)) nm=some c->c=ck:=fun c h=>by rw [cG _ hlt] at h;exact(afT h).symm
 have dC:∀n c,af H n=some c->∃c',af (de H nm (some ck)) n=some c':=fun n c h=>⟨c,by rw [bz _ (Ne.symm (dE n c h))];exact h⟩;refine hO.up3 ⟨⟨?_,?_,?_⟩,⟨dC,xw,?_,?_,?_,?_,hos,htp,aiP,tP⟩,?_,?_⟩
 ·intro n c hc;by_cases e:n=nm
  ·subst e;rw [yw c hc];exact hq
  ·have oU:=hold n c e hc;exact o7 (hO.q n c oU) (xw n c oU) (FD n c oU) (eV (hC.1 n c oU) xw) (fun k hk=>IB k (hO.lt oU hk))
 ·intro n m c d uv hc hd k hk eh;by_cases e:n=nm
  ·subst e;rw [yw c hc] at hk;have hk:=hfp k hk;have Bw:=hold m d (Ne.symm uv) hd;rw [cY (xw m d Bw) (FD m d Bw)] at eh;have:=hO.lt Bw eh;omega
  ·have oU:=hold n c e hc;rw [cY (xw n c oU) (FD n c oU)] at hk;by_cases e':m=nm
   ·subst e';rw [yw d hd] at eh;have ayl:=hfp k eh;have:=hO.lt oU hk;omega
   ·have Bw:=hold m d e' hd;rw [cY (xw m d Bw) (FD m d Bw)] at eh;exact hO.qR n m c d uv oU Bw k hk eh
 ·intro g hg;have:g≠nm:=fun e=>hG (e▸hg);have h2:=(ρ.uR lc S this).1;simp only [Nm.f,h2];exact hO.rU g hg
 ·intro n hnL hh;have:n≠nm:=by omega
  rw [bz _ (Ne.symm this)];exact hh
 ·simp [eB]
 ·intro k hk _;exact IB k hk
 ·intro n c k hc hk;by_cases e:n=nm
  ·subst e;rw [yw c hc] at hk;exact .inl (hfp k hk)
  ·have oU:=hold n c e hc;rw [cY (xw n c oU) (FD n c oU)] at hk;exact .inr ⟨n,c,oU,hk⟩
 ·intro n x hc;by_cases e:n=nm
  ·subst e;rw [yw x hc];exact hl.mono dC
  ·exact(hC.1 n x (hold n _ e hc)).mono dC
 ·trivial
theorem HR (hO:gF N ρ H w) (hC:eX N H) {nm:Nat} (hn:af H nm=none) (hlt:nm < H.length) (hG:¬nm < N.G) {l:List Cell} (ty:TypeId) (hl:oy H l) {L:Nat} (hL:L<=nm) :
 gF N (ρ.set nm ⟨w.heap.size,0,0⟩ fun _=>False) (de H nm (some (.cells l ty))) (w.alloc (.cells (aF ρ l).toArray ty)) /\
 lj N L ρ H w (ρ.set nm ⟨w.heap.size,0,0⟩ fun _=>False) (de H nm (some (.cells l ty))) (w.alloc (.cells (aF ρ l).toArray ty)) /\
 eX N (de H nm (some (.cells l ty))):=by
 have dE:∀n c,af H n=some c->n≠nm:=fun n c h e=>by subst e;rw [hn] at h;cases h
 have xw:∀n c,af H n=some c->(ρ.set nm ⟨w.heap.size,0,0⟩ fun _=>False).L n=ρ.L n:=fun n c h=>(ρ.uR _ _ (dE n c h)).1;refine J2 hO hC hn hlt hG (ck:=.cells l ty) hl hL (fun k hk=>?_) rfl rfl rfl ?_ ?_ ?_
 ·show (w.heap.push _)[k]?=_;rw [Array.getElem?_push,if_neg (by omega)]
 ·show w.heap.size<=(w.heap.push _).size;simp
 ·show (w.heap.push _)[(ρ.set nm _ _) nm]?=_;have:(ρ.set nm ⟨w.heap.size,0,0⟩ fun _=>False) nm=w.heap.size:=by simp [Nm.f,Nm.set]
  rw [this,eV hl xw];simp
 ·intro k hk;have hk:k=(ρ.set nm ⟨w.heap.size,0,0⟩ fun _=>False) nm:=hk;simp [Nm.f,Nm.set] at hk;omega
theorem A5 (hO:gF N ρ H w) (hC:eX N H) {n:Nat} {ck KM:aK AV} (hn:af H n=some ck) (hl:oy H KM.cellsOf) (L:Nat) {row:Array Value}
 (hfp:ck.fp ρ n (ρ n)) (aoa:∀k,KM.fp ρ n k->ck.fp ρ n k) (hq:KM.q N ρ n (w.setRow (ρ n) row)) :
 gF N ρ (de H n (some KM)) (w.setRow (ρ n) row) /\ lj N L ρ H w ρ (de H n (some KM)) (w.setRow (ρ n) row) /\ eX N (de H n (some KM)):=by
 have hlt:=b7 hn;have kX:=cG (H:=H) KM hlt;have hold:∀m c,m≠n->af (de H n (some KM)) m=some c->af H m=some c:=fun m c h e=>by rwa [bz _ (Ne.symm h)] at e
 have dC:∀m c,af H m=some c->∃c',af (de H n (some KM)) m=some c':=fun m c h=>by
  by_cases e:m=n
  ·subst e;exact⟨_,kX⟩
  ·exact⟨c,by rw [bz _ (Ne.symm e)];exact h⟩
 have aiX:∀m c,af (de H n (some KM)) m=some c->∃d,af H m=some d /\ ∀k,c.fp ρ m k->d.fp ρ m k:=fun m c h=>by
  by_cases e:m=n
  ·subst e;rw [kX] at h;cases h;exact⟨_,hn,aoa⟩
  ·exact⟨c,hold m c e h,fun _ h=>h⟩
 refine hO.up3 ⟨⟨?_,?_,hO.rU⟩,⟨dC,fun _ _ _=>rfl,?_,?_,?_,?_,rfl,rfl,rfl,?_⟩,?_,?_⟩
 ·intro m c hc;by_cases e:m=n
  ·subst e;rw [kX] at hc;cases hc;exact hq
  ·have oU:=hold m c e hc;refine o7 (hO.q m c oU) rfl rfl rfl (fun k hk=>setRow_other w (ρ n) k _ ?_);intro PW;subst PW;exact hO.qR m n c _ e oU hn _ hk hfp
 ·intro m m' c d hmm hc hd k hk eh;obtain⟨c',h1,e1⟩:=aiX m c hc;obtain⟨d',h2,e2⟩:=aiX m' d hd;exact hO.qR m m' c' d' hmm h1 h2 k (e1 k hk) (e2 k eh)
 ·intro m _ hh;by_cases e:m=n
  ·subst e;rw [hn] at hh;cases hh
  ·rw [bz _ (Ne.symm e)];exact hh
 ·simp [eB]
 ·intro k _ hk;exact setRow_other w (ρ n) k _ (fun e=>hk n _ hn (e▸hfp))
 ·intro m c k hc hk;obtain⟨d,h1,e1⟩:=aiX m c hc;exact .inr ⟨m,d,h1,e1 k hk⟩
 ·simp
 ·intro m x hc;by_cases e:m=n
  ·subst e;rw [kX] at hc;cases hc;exact hl.mono dC
  ·exact(hC.1 m x (hold m _ e hc)).mono dC
 ·trivial
theorem TR (hO:gF N ρ H w) (hC:eX N H) {n:Nat} {l l':List Cell} {ty:TypeId} (hn:af H n=some (.cells l ty)) (hl:oy H l') (L:Nat) :
 gF N ρ (de H n (some (.cells l' ty))) (w.setRow (ρ n) (aF ρ l').toArray) /\
 lj N L ρ H w ρ (de H n (some (.cells l' ty))) (w.setRow (ρ n) (aF ρ l').toArray) /\ eX N (de H n (some (.cells l' ty))):=by
 have Zd:w.heap[ρ n]?=some (.cells (aF ρ l).toArray ty (0,0)):=hO.q n _ hn;exact A5 hO hC hn (KM:=.cells l' ty) hl L rfl (fun _ h=>h) (setRow_heap w (ρ n) _ _ ty (0,0) Zd)
theorem mw (hT:fN P N) {t:TypeId} {l:List Cell} {off:Nat} {x:V1} (h:sH N t l off=some x) (b o:Nat) (R7:∀j c,l[j]?=some c->w.cell? ⟨b,o+j,none⟩=some (c.ay ρ)) :
 (loadVar t ⟨b,o+off,none⟩).run P w=.ok (x.ay ρ) w:=by
 unfold sH at h;split at h
 ·rename_i i ht;have hk:=eN hT ht;have hs:=DV hT ht;obtain⟨h1,h2⟩:=vd h;unfold loadVar;simp only [aaY,Ui hk,aaX];cases ha:vA i.kd with
  | true =>
    obtain⟨hle,rfl⟩:=h1 ha;have hlen:(aF ρ ((l.drop off).take i.size)).length=i.size:=by simp [aF];omega
    have:=run_loadCells_list (P:=P) w ⟨b,o+off,none⟩ (aF ρ ((l.drop off).take i.size)) (by
     intro j v hj;have auc:(⟨b,o+off,none⟩:Addr).add j=⟨b,o+(off+j),none⟩:=by unfold Addr.add;split<;>simp_all [adr]
     rw [auc];simp only [aF,aeG,aaT] at hj;obtain⟨c,hc,rfl⟩:=hj;refine R7 (off+j) c ?_;rw [aeE] at hc;split at hc
     ·rwa [afG] at hc
     ·cases hc)
    rw [hlen] at this;simp only [if_true,aaY,dJ hs,aaX,this,aa0,V1.ay]
  | false =>obtain⟨c,hc,rfl⟩:=h2 ha;simp only [Bool.false_eq_true,if_false,run_load,R7 off c hc,V1.ay]
 ·cases h
theorem Gb (hO:gF N ρ H w) {n:Nat} {l:List Cell} {ty:TypeId} (hn:af H n=some (.cells l ty)) (j:Nat) (c:Cell) (hc:l[j]?=some c):w.cell? ⟨ρ n,j,none⟩=some (c.ay ρ):=by have:w.heap[ρ n]?=some (.cells (aF ρ l).toArray ty (0,0)):=hO.q n _ hn;simp [World.cell?,this,aF,hc]
theorem oe {t:Option V1} {why:String} {v:SV} (h:(one t why).val=some v):∃x,t=some x /\ v=.v x:=by
 unfold one at h;split at h
 ·simp only [T.val,aaf] at h;exact⟨_,rfl,h.symm⟩
 ·cases h
theorem km {t:TypeId} {l:List Cell} {off:Nat} {x:V1} (h:sH N t l off=some x) (hc:oy H l):jY H x:=by
 unfold sH at h;split at h
 ·exact Ez h hc
 ·cases h
theorem agH (hO:gF N ρ H w) {n:Nat} {l:List Cell} {es:Nat} {ty:TypeId} (hn:af H n=some (.oB l es ty)) (j:Nat) (c:Cell) (hc:l[j]?=some c):w.cell? ⟨ρ n,(ρ.L n).o+j,none⟩=some (c.ay ρ):=by
 rcases hO.q n _ hn with⟨_,h0,_⟩ | ⟨_,_,row,h2,_,_,h5⟩
 ·have:l=[]:=by simpa [aF] using h0
  rw [this] at hc;simp at hc
 ·have:=h5 j (c.ay ρ) (by simp [aF,hc]);simp only [World.cell?,Nm.f,h2];simpa using this
theorem Yk (hT:fN P N) (hO:gF N ρ H w) (hC:eX N H) {t:TypeId} {p v:SV} (h:(Fg N t H p).val=some v) :
 (Instr.loadAt t (p.ay ρ)).run P w=.ok (v.ay ρ) w /\ gf H v:=by
 unfold Fg at h;split at h
 ·rename_i n off;split at h
  ·rename_i l ty hn;obtain⟨x,hx,rfl⟩:=oe h;have:=mw (ρ:=ρ) (w:=w) hT hx (ρ n) 0 (fun j c hc=>by rw [aby];exact Gb hO hn j c hc);rw [aby] at this;refine⟨?_,km hx (hC.1 n _ hn)⟩;simp only [Instr.loadAt,SV.ay,V1.ay,Cell.ay,Instr.sureAddr,aaY,aa0,aaX];exact this
  ·rename_i a hn;split at h
   ·rename_i l hw;obtain⟨x,hx,rfl⟩:=oe h;have hq:N.F.q a (ρ.L n) (ρ.S n) w:=hO.q n _ hn;have hrow:=N.F.C1 a (ρ.L n) (ρ.S n) w l hq hw;have:=mw (ρ:=ρ) (w:=w) hT hx (ρ n) 0 (fun j c hc=>by
     have h2:=hrow j c hc;have h1:=N.F.wy a l hw c (aca hc);rw [aby,show ρ n=(ρ.L n).b from rfl,h2,cg c (ρ:=Nm.id) (ρ':=ρ) (fun m hm=>by rw [h1] at hm;cases hm)])
    rw [aby] at this;refine⟨?_,km hx (iT fun c hc=>?_)⟩
    ·simp only [Instr.loadAt,SV.ay,V1.ay,Cell.ay,Instr.sureAddr,aaY,aa0,aaX];exact this
    ·exact N.F.wy a l hw c hc
   ·cases h
  ·cases h
 ·rename_i n idx es off;split at h
  ·rename_i a hn;split at h
   ·-- a part avk place may be open
    rename_i t' ht;unfold ahH at ht;split at ht
    ·rename_i i hi;split at ht
     ·rename_i b l hp;cases ht;obtain⟨rfl,h⟩:=fZ h;obtain⟨x,hx,rfl⟩:=oe h;have Ko:sH N t l 0=some x:=by unfold sH;rw [hi];exact hx
      have hq:N.F.q a (ρ.L n) (ρ.S n) w:=hO.q n _ hn;have hrow:=N.F.J1 a (ρ.L n) (ρ.S n) w idx es off i.size l hO.ro.1 hq hp;have:=mw (ρ:=ρ) (w:=w) hT Ko (ρ n) ((ρ.L n).o+idx * es+off) (fun j c hc=>by
       have h2:=hrow j c hc;have h1:=N.F.A0 a idx es off i.size l hp c (aca hc);rw [show ρ n=(ρ.L n).b from rfl,h2,cg c (ρ:=Nm.id) (ρ':=ρ) (fun m hm=>by rw [h1] at hm;cases hm)])
      refine⟨?_,km Ko (iT fun c hc=>N.F.A0 a idx es off i.size l hp c hc)⟩;simp only [Instr.loadAt,SV.ay,V1.ay,Cell.ay,Instr.sureAddr,aaY,aa0,aaX];exact this
     ·cases ht
    ·cases ht
   split at h
   ·rename_i b l hr;obtain⟨rfl,h⟩:=fZ h;obtain⟨x,hx,rfl⟩:=oe h;have hq:N.F.q a (ρ.L n) (ρ.S n) w:=hO.q n _ hn;have hrow:=N.F.yf a (ρ.L n) (ρ.S n) w idx es l hO.ro.1 hq hr;have:=mw (ρ:=ρ) (w:=w) hT hx (ρ n) ((ρ.L n).o+idx * es) (fun j c hc=>by
     have h2:=hrow j c hc;have h1:=N.F.uV a idx es l hr c (aca hc);rw [show ρ n=(ρ.L n).b from rfl,h2,cg c (ρ:=Nm.id) (ρ':=ρ) (fun m hm=>by rw [h1] at hm;cases hm)])
    refine⟨?_,km hx (iT fun c hc=>?_)⟩
    ·simp only [Instr.loadAt,SV.ay,V1.ay,Cell.ay,Instr.sureAddr,aaY,aa0,aaX];exact this
    ·exact N.F.uV a idx es l hr c hc
   ·cases h
  ·rename_i l _ ty hn;obtain⟨x,hx,rfl⟩:=oe h;have:=mw (ρ:=ρ) (w:=w) hT hx (ρ n) (ρ.L n).o (fun j c hc=>agH hO hn j c hc);refine⟨?_,km hx (hC.1 n _ hn)⟩;simp only [Instr.loadAt,SV.ay,V1.ay,Cell.ay,Instr.sureAddr,aaY,aa0,aaX];rw [adr];exact this
  ·cases h
 ·cases h
theorem y7 (hT:fN P N) {t:TypeId} {i:TI} {b off:Nat} {row:List Value} {ty:TypeId} {v:V1} (Zd:w.heap[b]?=some (.cells row.toArray ty (0,0))) (ht:N.tt.get t=some i) (hs:i.size=v.cells.length)
 (hle:off+v.cells.length<=row.length):(Instr.storeAt t (.pointer (some ⟨b,off,none⟩)) (v.ay ρ)).run P w=.ok () (w.setRow b (row.take off++(aF ρ v.cells++row.drop (off+v.cells.length))).toArray):=by
 have hcl:(v.ay ρ).cells.toList=aF ρ v.cells:=V1.nY ρ v;have hcs:(v.ay ρ).cells.size=i.size:=by rw [<- afI,hcl,eC,hs]
 have:=run_storeCells_at P b off ty (aF ρ v.cells) 0 row.toArray w Zd (by simp [eC];omega) (by
  intro x hx;simp only [aF,ac0] at hx;obtain⟨c,_,rfl⟩:=hx;exact Ab ρ c)
 simp only [Instr.storeAt,Instr.sureAddr,aaY,aa0,aaX,storeVar,dJ (DV hT ht),hcs,ne_eq,not_true_eq_false,if_false,hcl];erw [this];congr 3;simp [aF]
theorem Tj (hT:fN P N) (hO:gF N ρ H w) {t:TypeId} {i:TI} {n off:Nat} {l l':List Cell} {ty:TypeId} {v:V1} (hn:af H n=some (.cells l ty)) (ht:N.tt.get t=some i) (hs:i.size=v.cells.length)
 (hl:mB l off v.cells=some l'):(Instr.storeAt t (.pointer (some ⟨ρ n,off,none⟩)) (v.ay ρ)).run P w=.ok () (w.setRow (ρ n) (aF ρ l').toArray):=by
 have Zd:w.heap[ρ n]?=some (.cells (aF ρ l).toArray ty (0,0)):=hO.q n _ hn;obtain⟨e1,e2⟩:=lput_eq hl;have hcl:(v.ay ρ).cells.toList=aF ρ v.cells:=V1.nY ρ v;have hcs:(v.ay ρ).cells.size=i.size:=by rw [<- afI,hcl,eC,hs]
 have:=run_storeCells_at P (ρ n) off ty (aF ρ v.cells) 0 (aF ρ l).toArray w Zd (by simp [eC];omega) (by
  intro x hx;simp only [aF,ac0] at hx;obtain⟨c,_,rfl⟩:=hx;exact Ab ρ c)
 simp only [Instr.storeAt,Instr.sureAddr,aaY,aa0,aaX,storeVar,dJ (DV hT ht),hcs,ne_eq,not_true_eq_false,if_false,hcl];erw [this];congr 3;rw [e1];simp [aF,adA,List.map_take,List.map_drop]
end
section
variable {AV:Type} {P:Program} {N:eI AV}
theorem pT {t:TypeId} {si:SI} (h:zy P t=some si):P.underlying t=some (.slice si.e) /\ ∃(i:TypeInfo) (z:Value),P.info? si.e=some i /\ i.zero=some z /\ i.size=si.size /\ i.bytes=si.bytes /\ 0 < si.size /\ si.zero.length=si.size /\
 (∀ρ:Nm,aF ρ si.zero=z.cells.toList) /\ ∀c∈si.zero,c.name=none:=by
 unfold zy at h;split at h
 ·rename_i e he;split at h
  ·rename_i i hi;split at h
   ·rename_i z hz;split at h
    ·rename_i l hl;split at h
     ·rename_i h1 h2;cases h;have hp:1<=i.size:=by simpa [Nat.blt] using h2
      exact⟨he,i,z,hi,hz,rfl,rfl,hp,(aG _ _).1 h1,fun ρ=>(mM ρ hl).1,(mM Nm.id hl).2⟩
     ·cases h
    ·cases h
   ·cases h
  ·cases h
 ·cases h
theorem sD (z:List Cell):∀n,(kR z n).length=n * z.length
 | 0=>by simp [kR]
 | n+1=>by simp [kR,sD z n,Nat.succ_mul];omega
theorem AW {z:List Cell}:∀{n:Nat} {c:Cell},c∈kR z n->c∈z
 | 0,c,h=>by cases h
 | n+1,c,h=>by
   rcases adg.1 h with h | h
   ·exact h
   ·exact AW h
theorem AX (z:List Cell) (hz:0 < z.length):∀(n j:Nat),j < n * z.length->(kR z n)[j]?=z[j % z.length]?
 | 0,j,h=>by omega
 | n+1,j,h=>by
   simp only [kR];rcases Nat.lt_or_ge j z.length with hj | hj
   ·rw [acM hj,Nat.mod_eq_of_lt hj]
   ·rw [acR hj,AX z hz n (j - z.length) (by rw [Nat.succ_mul] at h;omega),<- Nat.mod_eq_sub_mod hj]
theorem dM (ρ:Nm) (l:List Cell):(aF ρ l).length=l.length:=by simp [aF]
theorem Sv (ρ:Nm) (l:List Cell) (j:Nat) (v:Value) (h:(aF ρ l)[j]?=some v):∃c,l[j]?=some c /\ v=c.ay ρ:=by simp only [aF,aeG,aaT] at h;obtain⟨c,hc,rfl⟩:=h;exact⟨c,hc,rfl⟩
theorem p6 (ρ:Nm) (n:Nat) (l:m9) (S:Nat->Prop):(ρ.set n l S).L n=l /\ (ρ.set n l S).S n=S:=ρ.WV n l S
theorem ab6 {ρ:Nm} {H:Hp AV} {w:World} (hO:gF N ρ H w) (hC:eX N H) {nm:Nat} (hn:af H nm=none) (hlt:nm < H.length) (hG:¬nm < N.G) {l:List Cell} {es cap:Nat} {e:TypeId} (hl:oy H l) {L:Nat} (hL:L<=nm) {row:Array Value}
 (R4:row.size=cap * es) (hle:l.length<=cap * es) (hrow:∀(j:Nat) v,(aF ρ l)[j]?=some v->row[j]?=some v) :
 gF N (ρ.set nm ⟨w.heap.size,0,cap+1⟩ fun k=>k=w.heap.size) (de H nm (some (.oB l es e))) (w.alloc (.cells row e)) /\
 lj N L ρ H w (ρ.set nm ⟨w.heap.size,0,cap+1⟩ fun k=>k=w.heap.size) (de H nm (some (.oB l es e))) (w.alloc (.cells row e)) /\
 eX N (de H nm (some (.oB l es e))):=by
 have dE:∀n c,af H n=some c->n≠nm:=fun n c h e=>by subst e;rw [hn] at h;cases h
 have ai1:aF (ρ.set nm ⟨w.heap.size,0,cap+1⟩ fun k=>k=w.heap.size) l=aF ρ l:=eV hl fun n c h=>(ρ.uR _ _ (dE n c h)).1;refine J2 hO hC hn hlt hG (ck:=.oB l es e) hl hL (fun k hk=>?_) rfl rfl rfl ?_ ?_ ?_
 ·show (w.heap.push _)[k]?=_;rw [Array.getElem?_push,if_neg (by omega)]
 ·show w.heap.size<=(w.heap.push _).size;simp
 ·show ng _ _ _ _ _ _;rw [(p6 _ _ _ _).1,(p6 _ _ _ _).2,ai1];refine .inr ⟨by simp,fun k=>Iff.rfl,row.toList,?_,?_,?_,?_⟩
  ·show (w.heap.push _)[w.heap.size]?=_;simp
  ·simp [R4]
  ·rw [dM];simpa using hle
  ·intro j v hv;have:=hrow j v hv;simpa using this
 ·intro k hk;have hk:(ρ.set nm ⟨w.heap.size,0,cap+1⟩ fun k=>k=w.heap.size).S nm k:=hk;rw [(p6 _ _ _ _).2] at hk;omega
theorem DL {ρ:Nm} {nm len cap es b:Nat} {S:Nat->Prop}:(SV.v (.c (.vs nm 0 len es true))).ay (ρ.set nm ⟨b,0,cap+1⟩ S)=.slice (some ⟨b,0,none⟩) len cap:=by simp only [SV.ay,V1.ay,Cell.ay,cH,(p6 _ _ _ _).1];rw [if_neg (by omega)];simp
theorem made_eq (ρ:Nm) {z:Value} {si:SI} (Ve:aF ρ si.zero=z.cells.toList) (GP:si.zero.length=si.size) (kM:0 < si.size) (n:Nat):(Array.range (n * si.size)).map (z.cells[· % z.cells.size]!)=(aF ρ (kR si.zero n)).toArray:=by
 have tP:z.cells.size=si.size:=by have:=congrArg List.length Ve;rw [dM] at this;simp at this;omega
 apply Array.ext';apply List.ext_getElem?;intro j;rw [tP];by_cases hj:j < n * si.size
 ·have hlt:j % si.size < z.cells.size:=by rw [tP];exact Nat.mod_lt _ kM
  have h1:(aF ρ (kR si.zero n))[j]?=z.cells.toList[j % si.size]?:=by rw [<- Ve];simp only [aF,aeG];rw [AX si.zero (by omega) n j (by rw [GP];exact hj),GP]
  simp only [h1];rw [Array.getElem?_toList,Array.getElem?_map,Array.getElem?_range,if_pos hj];simp only [Option.map_some];rw [getElem!_pos z.cells (j % si.size) hlt,Array.getElem?_toList,Array.getElem?_eq_getElem hlt]
 ·rw [List.getElem?_eq_none (by simp;omega),List.getElem?_eq_none (by simp [dM,sD,GP];omega)]
theorem Gc (hT:fN P N) {ρ:Nm} {H:Hp AV} {ev:Operand->Option SV} {e:Operand->Value} (dD:Hf ρ H ev e) {t:TypeId} {len:Nat} {parts:Array (Nat×Operand)} {gb:Arr} (h:Ke N t len (zY ev parts.toList)=some gb) (w:World):oy H gb.1 /\ ∃row cap,
 (Instr.buildSlice t len (parts.map fun(i,x)=>(i,e x))).run P w=.ok (.slice (some ⟨w.heap.size,0,none⟩) gb.2.2.2 cap) (w.alloc (.cells row gb.2.2.1)) /\ row.size=cap * gb.2.1 /\ gb.1.length<=cap * gb.2.1 /\ ∀(j:Nat) v,(aF ρ gb.1)[j]?=some v->row[j]?=some v:=by
 unfold Ke at h;split at h
 ·rename_i si ps hs hp;split at h
  ·rename_i l hl hb;cases h;obtain⟨hu,i,z,hi,hz,e1,e2,kM,GP,Ve,Oy⟩:=pT (hT.sl t si hs);obtain⟨hp1,hp2⟩:=zX dD hp;have atY:oy H (kR si.zero len):=iT fun c hc=>Oy c (AW hc);have Cp:=BC (ρ:=ρ) (H:=H) si.size ps (kR si.zero len) l hl atY hp2;have hlen:l.length=len * si.size:=by
    have h1:∀(ps:List (Nat×V1)) (z r:List Cell),xU si.size z ps=some r->r.length=z.length:=by
     intro ps;induction ps with
     | nil=>intro z r h;simp only [xU,aaf] at h;rw [h]
     | cons p ps ih =>
       intro z r h;obtain⟨i,x⟩:=p;simp only [xU] at h;split at h
       ·split at h
        ·rename_i z' hz';rw [ih z' r h];obtain⟨q1,q2⟩:=lput_eq hz';rw [q1];simp;omega
        ·cases h
       ·cases h
    rw [h1 ps _ l hl,sD,GP]
   have hle:=acZ hb;refine⟨Cp.2,(aF ρ l).toArray,len,?_,by simp [dM,hlen],by simp [hlen],fun j v hv=>by simpa using hv⟩;have h3:=Cp.1;rw [<- hp1] at h3;have hm:=made_eq ρ (Ve ρ) GP kM len;unfold Instr.buildSlice;simp only [aaY,run_underlying hu,sizeOf,typeInfo,program,Sem.run,hi,aaX,aa0,e1];rw [if_neg (by omega)];by_cases h0:len * si.size=0
   ·have:len=0:=by
     rcases Nat.mul_eq_zero.1 h0 with h | h
     ·exact h
     ·omega
    subst this;have h3':Instr.fill (fun i=>some (i * si.size,si.size)) #[] (parts.toList.map fun p=>(p.1,e p.2))=some (aF ρ l).toArray:=h3;have hr0:(Array.range 0)=#[]:=rfl;simp [h3',hr0,newRow,newObj,Sem.run]
   ·have hm':(Array.range (len * si.size)).map (fun x=>z.cells[x % z.cells.size]!)=(aF ρ (kR si.zero len)).toArray:=hm;simp only [if_neg h0,zeroValue,typeInfo,program,aaY,Sem.run,hi,hz,aaX,aa0];simp only [hm'];simp [h3,newRow,newObj,Sem.run]
  ·cases h
 ·cases h
theorem MJ (hT:fN P N) {t:TypeId} {a b:Option SV} {gb:Arr} (h:PD N t a b=some gb) (w:World) (ρ:Nm):∃kl kc n c,a=some (.v (.c (.il kl n))) /\ b=some (.v (.c (.il kc c))) /\ (∀x∈gb.1,x.name=none) /\ ∃row cap,
 (Instr.makeSlice t (.int kl n) (.int kc c)).run P w=.ok (.slice (some ⟨w.heap.size,0,none⟩) gb.2.2.2 cap) (w.alloc (.cells row gb.2.2.1)) /\ row.size=cap * gb.2.1 /\ gb.1.length<=cap * gb.2.1 /\ ∀(j:Nat) v,(aF ρ gb.1)[j]?=some v->row[j]?=some v:=by
 unfold PD at h;split at h
 ·rename_i si kl n kc c hs;split at h
  ·rename_i hb;cases h;obtain⟨h0,h1,h2⟩:=aaF hb;obtain⟨hu,i,z,hi,hz,e1,e2,kM,GP,Ve,Oy⟩:=pT (hT.sl t si hs);have hcb:c.toNat * si.bytes<=zF:=abz (ac3 _ (Nat.le_succ _)) h2;have hcn:c.toNat<=zF:=by have:c.toNat * 1<=c.toNat * (si.bytes+1):=ac3 _ (by omega);omega
   have xR:(c.toNat:Int)=c:=by omega
   have hr:=run_make (P:=P) w t si.e i z hu hi hz kl kc n c h0 h1 (by
    rw [e2,<- xR,<- Int.natCast_mul,Nat.mul_comm];simp only [zF] at hcb;omega) (by simp only [zF] at hcn;omega)
   have tP:z.cells.size=si.size:=by have:=congrArg List.length (Ve Nm.id);rw [dM] at this;simp at this;omega
   refine⟨kl,kc,n,c,rfl,rfl,fun x hx=>Oy x (AW hx),_,c.toNat,hr,by rw [size_madeCells,e1],by rw [sD,GP];exact ab4 _,fun j v hv=>?_⟩;obtain⟨cc,R8,rfl⟩:=Sv ρ _ j v hv;have hj:j < c.toNat * si.size:=by have:=(aaS.1 R8).1;rw [sD,GP] at this;exact this
   rw [AX si.zero (by omega) _ j (by rw [GP];exact hj),GP] at R8;have hzj:z.cells.toList[j % si.size]?=some (cc.ay ρ):=by rw [<- Ve ρ];simp [aF,R8]
   simp only [madeCells,Array.getElem?_map,e1];rw [Array.getElem?_range];rw [if_pos hj];simp only [Option.map_some,tP];have hlt:j % si.size < z.cells.size:=by rw [tP];exact Nat.mod_lt _ kM
   rw [getElem!_pos z.cells (j % si.size) hlt];rw [Array.getElem?_toList,Array.getElem?_eq_getElem hlt] at hzj;exact hzj
  ·cases h
 ·cases h
theorem XI (hT:fN P N) {t:TypeId} {a b:Option SV} {g:AV} {es len:Nat} (h:PC N t a b=some (true,g,es,len)) (w:World):∃x y kl kc n c,a=some (.v (.c x)) /\ b=some (.v (.c y)) /\ (∀ρ:Nm,x.ay ρ=.int kl n) /\ (∀ρ:Nm,y.ay ρ=.int kc c) /\ ∃(row:Array Value) (e:TypeId),
 (Instr.makeSlice t (.int kl n) (.int kc c)).run P w=.ok (.slice (some ⟨w.heap.size,0,none⟩) len len) (w.alloc (.cells row e)) /\ row.size=len * es /\ N.F.gb g=some (es,e,row.toList):=by
 unfold PC at h;split at h
 ·rename_i si x y hs;split at h
  ·rename_i kl n k1 kc c k2 hx hy;split at h
   ·rename_i g' hg;simp only [aaf,aaB] at h;obtain⟨hb,rfl,rfl,rfl⟩:=h;obtain⟨h0,h1,h2⟩:=aaF hb;subst h1;obtain⟨hu,i,z,hi,hz,e1,e2,kM,GP,Ve,Oy⟩:=pT (hT.sl t si hs);have hcb:n.toNat * si.bytes<=zF:=abz (ac3 _ (Nat.le_succ _)) h2;have hcn:n.toNat<=zF:=by have:n.toNat * 1<=n.toNat * (si.bytes+1):=ac3 _ (by omega);omega
    have xR:(n.toNat:Int)=n:=by omega
    have hr:=run_make (P:=P) w t si.e i z hu hi hz kl kc n n h0 (adi _) (by
     rw [e2,<- xR,<- Int.natCast_mul,Nat.mul_comm];simp only [zF] at hcb;omega) (by simp only [zF] at hcn;omega)
    refine⟨x,y,kl,kc,n,n,rfl,rfl,fun ρ=>fJ ρ hx,fun ρ=>fJ ρ hy,_,si.e,hr,by rw [size_madeCells,e1],?_⟩;rw [N.F.Az _ _ _ _ _ hg];congr 3;have:=made_eq Nm.id (Ve Nm.id) GP kM n.toNat;rw [e1,show madeCells z.cells (n.toNat * si.size)=(Array.range (n.toNat * si.size)).map (z.cells[· % z.cells.size]!) from rfl,this]
   ·cases h
  ·cases h
 ·cases h
theorem XE {ρ:Nm} {H:Hp AV} {w:World} (hO:gF N ρ H w) (hC:eX N H) {nm:Nat} (hn:af H nm=none) (hlt:nm < H.length) (hG:¬nm < N.G) {g:AV} {es cap:Nat} {e:TypeId} {L:Nat} (hL:L<=nm) {row:Array Value}
 (R4:row.size=cap * es) (hg:N.F.gb g=some (es,e,row.toList)) :
 gF N (ρ.set nm ⟨w.heap.size,0,cap+1⟩ fun k=>k=w.heap.size) (de H nm (some (.bN g))) (w.alloc (.cells row e)) /\
 lj N L ρ H w (ρ.set nm ⟨w.heap.size,0,cap+1⟩ fun k=>k=w.heap.size) (de H nm (some (.bN g))) (w.alloc (.cells row e)) /\
 eX N (de H nm (some (.bN g))):=by
 refine J2 hO hC hn hlt hG (ck:=.bN g) (fun c hc=>by cases hc) hL (fun k hk=>?_) rfl rfl rfl ?_ ?_ ?_
 ·show (w.heap.push _)[k]?=_;rw [Array.getElem?_push,if_neg (by omega)]
 ·show w.heap.size<=(w.heap.push _).size;simp
 ·show N.F.q g _ _ _;rw [(p6 _ _ _ _).1,(p6 _ _ _ _).2];refine((N.F.kZ g _ _ _ hg).2 _ _ _).2 (.inr ⟨by simp,fun k=>Iff.rfl,row.toList,?_,?_,?_,?_⟩)
  ·show (w.heap.push _)[w.heap.size]?=_;simp
  ·simp [R4]
  ·simp [R4]
  ·intro j v hv;simpa using hv
 ·intro k hk;have hk:(ρ.set nm ⟨w.heap.size,0,cap+1⟩ fun k=>k=w.heap.size).S nm k:=hk;rw [(p6 _ _ _ _).2] at hk;omega
