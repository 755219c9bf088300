import Derived.Test.YtadmfaohjnjajaaGreatDoorSxA
set_option linter.unusedVariables false
set_option linter.unusedSimpArgs false
set_option maxHeartbeats 0
set_option maxRecDepth 100000
namespace Go.Sx
section
section lists
variable {AV:Type}
theorem nth_eq {α:Type}:∀(l:List α) (n:Nat),yc l n=l[n]?
 | [],_=>by simp [yc]
 | _::_,0=>by simp [yc]
 | _::r,n+1=>by simp [yc,nth_eq r n]
theorem hget_eq:∀(H:Hp AV) (n:Nat),ae H n=(H[n]?).bind id
 | [],_=>by simp [ae]
 | _::_,0=>by simp [ae]
 | _::r,n+1=>by simp [ae,hget_eq r n]
theorem bQ {H:Hp AV} {n:Nat} {c:aG AV} (h:ae H n=some c):n < H.length:=by
 rw [hget_eq] at h
 rcases Nat.lt_or_ge n H.length with h' | h'
 ·exact h'
 ·simp [List.getElem?_eq_none h'] at h
theorem lset_eq {α:Type}:∀(l:List α) (n:Nat) (y:α),cV l n y=l.set n y
 | [],_,_=>by simp [cV]
 | _::_,0,_=>by simp [cV]
 | _::r,n+1,y=>by simp [cV,lset_eq r n y]
theorem cg {H:Hp AV} {n:Nat} (c:aG AV) (h:n < H.length):ae (cV H n (some c)) n=some c:=by
 simp [hget_eq,lset_eq,h]
theorem bp {H:Hp AV} {n m:Nat} (x:Option (aG AV)) (h:n≠m):ae (cV H n x) m=ae H m:=by
 simp [hget_eq,lset_eq,List.getElem?_set_ne h]
theorem ec {α:Type} (l:List α) (n:Nat) (y:α):(cV l n y).length=l.length:=by simp [lset_eq]
theorem GX:∀n,(kr AV n).length=n
 | 0=>rfl
 | n+1=>by simp [kr,GX n]
theorem Oo (H:Hp AV) (k n:Nat):ae (H++kr AV k) n=ae H n:=by
 rw [hget_eq,hget_eq]
 rcases Nat.lt_or_ge n H.length with h | h
 ·rw [acQ h]
 ·rw [acR h,List.getElem?_eq_none h]
  have:∀(k m:Nat),((kr AV k)[m]?).bind id=none:=by
   intro k
   induction k with
   | zero=>intro m;simp [kr]
   | succ k ih=>intro m;cases m with
     | zero=>simp [kr]
     | succ m=>simp [kr,ih m]
  rw [this];rfl
theorem aC (a b:Nat):Nat.beq a b=true↔a=b:=⟨Nat.eq_of_beq_eq_true,fun h=>by subst h;exact agu a⟩
theorem bE (a b:Nat):Nat.beq a b=false↔a≠b:=by
 rw [<- Bool.not_eq_true,aC]
theorem fw (a b:Nat):Nat.blt a b=true↔a < b:=by
 unfold Nat.blt;rw [Nat.ble_eq];omega
theorem jo (a b:Nat):Nat.blt a b=false↔¬a < b:=by
 rw [<- Bool.not_eq_true,fw]
end lists
section aq
theorem b4 {ρ ρ':Nm}:∀(c:Cell),(∀n,c.name=some n->ρ'.L n=ρ.L n)->c.aq ρ'=c.aq ρ
 | .ptr n _,h=>by simp [Cell.aq,Nm.f,h n rfl]
 | .CV n _ _ _,h=>by simp [Cell.aq,Nm.f,h n rfl]
 | .sl n _ _ _,h=>by simp [Cell.aq,Nm.f,h n rfl]
 | .vs n _ _ _ _,h=>by simp [Cell.aq,h n rfl]
 | .sf n _ _ _ _ _,h=>by simp [Cell.aq,h n rfl]
 | .wZ t c,h=>by simp only [Cell.aq];rw [b4 c h]
 | .bl _,_=>rfl
 | .bt _,_=>rfl
 | .il _ _,_=>rfl
 | .it _ _,_=>rfl
 | .iv _ _ _ _,_=>rfl
 | .ir _ _ _ _ _,_=>rfl
 | .st _,_=>rfl
 | .sv _,_=>rfl
 | .iK,_=>rfl
 | .dq,_=>rfl
 | .sx _ _,_=>rfl
 | .fL,_=>rfl
 | .fn _,_=>rfl
 | .Zd,_=>rfl
 | .op _ _,_=>rfl
 | .mp none,_=>rfl
 | .mp (some n),h=>by simp [Cell.aq,Nm.f,h n rfl]
theorem zp (ρ:Nm):∀c:Cell,(c.aq ρ).oneCell'=true
 | .ptr _ _=>rfl
 | .CV _ _ _ _=>rfl
 | .sl _ _ _ _=>rfl
 | .vs _ _ _ _ _=>by simp only [Cell.aq,bN];split<;>rfl
 | .sf _ _ _ _ _ _=>by simp only [Cell.aq,bN];split<;>rfl
 | .wZ _ _=>rfl
 | .bl _=>rfl
 | .bt _=>rfl
 | .il _ _=>rfl
 | .it _ _=>rfl
 | .iv _ _ _ _=>rfl
 | .ir _ _ _ _ _=>rfl
 | .st _=>rfl
 | .sv _=>rfl
 | .iK=>rfl
 | .dq=>rfl
 | .sx _ _=>rfl
 | .fL=>rfl
 | .fn _=>rfl
 | .Zd=>rfl
 | .op _ _=>rfl
 | .mp _=>rfl
theorem nH (ρ:Nm) (c:Cell):(c.aq ρ).cells=#[c.aq ρ]:=by
 cases c with
 | vs _ _ _ _ _=>simp only [Cell.aq,bN];split<;>rfl
 | sf _ _ _ _ _ _=>simp only [Cell.aq,bN];split<;>rfl
 | _=>rfl
theorem V1.nH (ρ:Nm) (x:V1):(x.aq ρ).cells.toList=aA ρ x.cells:=by
 cases x with
 | c x=>simp [V1.aq,V1.cells,Sx.nH,aA]
 | agg l=>simp [V1.aq,V1.cells,Value.cells]
theorem BA (ρ:Nm) {v:Value} {c:Cell} (h:Cell.ofValue v=some c):c.aq ρ=v /\ c.name=none:=by
 unfold Cell.ofValue at h
 split at h<;>first
  | (cases h;exact⟨rfl,rfl⟩)
  | cases h
theorem mn (ρ:Nm):∀{vs:List Value} {l:List Cell},mo vs=some l->aA ρ l=vs /\ ∀c∈l,c.name=none
 | [],l,h=>by cases h;simp [aA]
 | v::r,l,h=>by
   simp only [mo] at h
   cases hv:Cell.ofValue v with
   | none=>simp [hv] at h
   | some c =>
     cases hr:mo r with
     | none=>simp [hv,hr] at h
     | some l' =>
       simp only [hv,hr,aaC] at h
       subst h
       have ih:=mn ρ hr
       have hc:=BA ρ hv
       refine⟨by simp [aA,hc.1];exact ih.1,fun x hx=>?_⟩
       rcases abk.1 hx with rfl | hx
       ·exact hc.2
       ·exact ih.2 x hx
end aq
section aaU
variable {AV:Type} (N:dV AV)
def aG.fp (ρ:Nm) (n:Nat):aG AV->Nat->Prop
 | .cells _ _=>fun k=>k=ρ n
 | .kD _ _ _=>ρ.S n
 | .j8=>fun _=>False
 | .bI _=>ρ.S n
def aG.q (ρ:Nm) (n:Nat) (w:World):aG AV->Prop
 | .cells l ty=>w.heap[ρ n]?=some (.cells (aA ρ l).toArray ty (0,0))
 | .kD l es ty=>mM (ρ.L n) (ρ.S n) (aA ρ l) es ty w
 | .j8=>True
 | .bI a=>N.F.q a (ρ.L n) (ρ.S n) w
def aG.cellsOf:aG AV->List Cell
 | .cells l _=>l
 | .kD l _ _=>l
 | .j8=>[]
 | .bI _=>[]
theorem zL {l:l8} {S:Nat->Prop} {cs:List Value} {es:Nat} {ty:TypeId} {w w':World} (h:mM l S cs es ty w) (hk:∀k,S k->w'.heap[k]?=w.heap[k]?):mM l S cs es ty w':=by
 rcases h with h | ⟨h1,h2,row,h3,h4⟩
 ·exact .inl h
 ·exact .inr ⟨h1,h2,row,by rw [hk l.b ((h2 _).2 rfl)];exact h3,h4⟩
def anO (ρ:Nm) (H:Hp AV) (w:World):Prop:=(∀k o,N.F.R k=some o->w.heap[k]?=some o) /\ ∀n c k,ae H n=some c->c.fp ρ n k->N.F.R k=none
structure Y9 (ρ:Nm) (H:Hp AV) (w:World):Prop where
 q:∀n c,ae H n=some c->c.q N ρ n w
 qz:∀n m c d,n≠m->ae H n=some c->ae H m=some d->∀k,c.fp ρ n k->d.fp ρ m k->False
 qW:∀g,g < N.G->ρ g=g
structure eZ (ρ:Nm) (H:Hp AV) (w:World):Prop extends Y9 N ρ H w where
 ro:anO N ρ H w
def ClC (H:Hp AV) (c:Cell):Prop:=∀n,c.name=some n->∃x,ae H n=some x
def mL (H:Hp AV) (l:List Cell):Prop:=∀c∈l,ClC H c
def jG (H:Hp AV) (x:V1):Prop:=mL H x.cells
def fh (H:Hp AV):SV->Prop
 | .v x=>jG H x
 | .ji l=>∀x∈l,jG H x
 | .lE=>True
 | .wJ _ l=>mL H l
structure bH (_N:dV AV) (s:St AV):Prop where
 E:∀k,fh s.H (aF s.E k)
 H:∀n x,ae s.H n=some x->mL s.H x.cellsOf
structure EM (ρ:Nm) (nt:Nat) (E:Ev) (a:Act):Prop where
 size:a.tmps.size=nt
 get:∀k,aF E k≠.lE->a.tmps.getD k undef=(aF E k).aq ρ
structure iZ (_N:dV AV) (L:Nat) (ρ:Nm) (H:Hp AV) (w:World) (ρ':Nm) (H':Hp AV) (w':World):Prop where
 dw:∀n c,ae H n=some c->∃c',ae H' n=some c'
 jV:∀n c,ae H n=some c->ρ'.L n=ρ.L n
 GY:∀n,n < L->ae H n=none->ae H' n=none
 len:H.length<=H'.length
 mE:∀k,k < w.heap.size->(∀n c,ae H n=some c->¬c.fp ρ n k)->w'.heap[k]?=w.heap[k]?
 new:∀n c k,ae H' n=some c->c.fp ρ' n k->w.heap.size<=k \/ ∃m d,ae H m=some d /\ d.fp ρ m k
 os:w'.os=w.os
 tape:w'.tape=w.tape
 output:w'.output=w.output
 size:w.heap.size<=w'.heap.size
variable {N}
theorem iZ.refl (L:Nat) (ρ:Nm) (H:Hp AV) (w:World):iZ N L ρ H w ρ H w :=
 ⟨fun _ c h=>⟨c,h⟩,fun _ _ _=>rfl,fun _ _ h=>h,abV _,fun _ _ _=>rfl,fun n c _ h hk=>.inr ⟨n,c,h,hk⟩,rfl,rfl,rfl,abV _⟩
theorem iZ.trans {L:Nat} {ρ ρ₁ ρ₂:Nm} {H H₁ H₂:Hp AV} {w w₁ w₂:World} (h:iZ N L ρ H w ρ₁ H₁ w₁) (k:iZ N L ρ₁ H₁ w₁ ρ₂ H₂ w₂):iZ N L ρ H w ρ₂ H₂ w₂ where
 dw n c hc:=let ⟨c',nC⟩:=h.dw n c hc;k.dw n c' nC
 jV n c hc:=let ⟨c',nC⟩:=h.dw n c hc;(k.jV n c' nC).trans (h.jV n c hc)
 GY n hn hc:=k.GY n hn (h.GY n hn hc)
 len:=abL h.len k.len
 mE i hi hn:=by
  rw [k.mE i (Nat.lt_of_lt_of_le hi h.size) ?_,h.mE i hi hn]
  intro n c hc hk
  rcases h.new n c i hc hk with h1 | ⟨m,d,hd,dW⟩
  ·omega
  ·exact hn m d hd dW
 new n c i hc hk:=by
  rcases k.new n c i hc hk with h1 | ⟨m,d,hd,dW⟩
  ·exact .inl (abL h.size h1)
  ·exact h.new m d i hd dW
 os:=k.os.trans h.os
 tape:=k.tape.trans h.tape
 output:=k.output.trans h.output
 size:=abL h.size k.size
theorem iZ.drew {L:Nat} {ρ ρ':Nm} {H H':Hp AV} {w w':World} (h:iZ N L ρ H w.drew ρ' H' w'):iZ N L ρ H w ρ' H' w' :=
 ⟨h.dw,h.jV,h.GY,h.len,h.mE,h.new,h.os,h.tape,h.output,h.size⟩
theorem iZ.anp {L:Nat} {ρ ρ':Nm} {H H':Hp AV} {w w':World} (h:iZ N L ρ H w ρ' H' w'):iZ N L ρ H w ρ' H' w'.drew :=
 ⟨h.dw,h.jV,h.GY,h.len,h.mE,h.new,h.os,h.tape,h.output,h.size⟩
theorem eZ.drew {ρ:Nm} {H:Hp AV} {w:World} (h:eZ N ρ H w):eZ N ρ H w.drew where
 q n c hc:=by
   have:=h.q n c hc
   cases c with
   | cells l ty=>exact this
   | kD l es ty=>exact zL this (fun _ _=>rfl)
   | j8=>trivial
   | bI a=>exact N.F.loc a (ρ.L n) (ρ.S n) w w.drew (fun _ _=>rfl) this
 qz:=h.qz
 qW:=h.qW
 ro:=h.ro
theorem eZ.wz {L:Nat} {ρ ρ':Nm} {H H':Hp AV} {w w':World} (hO:eZ N ρ H w) (h:Y9 N ρ' H' w') (hE:iZ N L ρ H w ρ' H' w'):eZ N ρ' H' w':=by
 have lt:∀k o,N.F.R k=some o->k < w.heap.size:=fun k o h=>(ad0.1 (hO.ro.1 k o h)).1
 refine⟨h,fun k o hk=>?_,fun n c k hc hk=>?_⟩
 ·rw [hE.mE k (lt k o hk) fun n c hc hf=>(by rw [hO.ro.2 n c k hc hf] at hk;cases hk)]
  exact hO.ro.1 k o hk
 ·rcases hE.new n c k hc hk with h1 | ⟨m,d,hd,dW⟩
  ·cases hr:N.F.R k with
   | none=>rfl
   | some o=>have:=lt k o hr;omega
  ·exact hO.ro.2 m d k hd dW
theorem eZ.up2 {L:Nat} {ρ ρ':Nm} {H H':Hp AV} {w w':World} (hO:eZ N ρ H w) (h:Y9 N ρ' H' w' /\ iZ N L ρ H w ρ' H' w'):eZ N ρ' H' w' /\ iZ N L ρ H w ρ' H' w':=⟨hO.wz h.1 h.2,h.2⟩
theorem eZ.up3 {L:Nat} {ρ ρ':Nm} {H H':Hp AV} {w w':World} {X:Prop} (hO:eZ N ρ H w) (h:Y9 N ρ' H' w' /\ iZ N L ρ H w ρ' H' w' /\ X):eZ N ρ' H' w' /\ iZ N L ρ H w ρ' H' w' /\ X:=⟨hO.wz h.1 h.2.1,h.2⟩
theorem eZ.sub {ρ ρ':Nm} {H H':Hp AV} {w:World} (hO:eZ N ρ H w) (h:Y9 N ρ' H' w) (hf:∀n c k,ae H' n=some c->c.fp ρ' n k->∃m d,ae H m=some d /\ d.fp ρ m k):eZ N ρ' H' w :=
 ⟨h,hO.ro.1,fun n c k hc hk=>let ⟨m,d,hd,dW⟩:=hf n c k hc hk;hO.ro.2 m d k hd dW⟩
theorem aco {H:Hp AV} {c:Cell}:clC H c=true↔ClC H c:=by
 unfold clC ClC
 cases hn:c.name with
 | none=>simp
 | some n =>
   cases hh:ae H n with
   | none=>simp [cJ,hh]
   | some x=>simp [cJ,hh]
theorem Mw {H:Hp AV}:∀{l:List Nat},Yv H l=true↔∀n∈l,∃c,ae H n=some c
 | []=>by simp [Yv]
 | n::r=>by
   have:=@Mw H r
   simp only [Yv,List.forall_mem_cons]
   cases hh:ae H n with
   | none=>simp [cJ]
   | some x=>simp [cJ,this]
theorem xA {n:Nat}:∀{l:List Cell},n∈eG l↔∃c∈l,c.name=some n
 | []=>by simp [eG]
 | c::r=>by
   have:=@xA n r
   cases hc:c.name with
   | none=>simp [eG,hc,this]
   | some m =>
     simp only [eG,hc,abk,this,exists_eq_or_imp,aaC]
     constructor
     ·rintro (rfl | h)
      ·exact .inl rfl
      ·exact .inr h
     ·rintro (rfl | h)
      ·exact .inl rfl
      ·exact .inr h
theorem CN {H:Hp AV} {l:List Cell}:clL H l=true↔mL H l:=by
 unfold clL
 rw [Mw]
 unfold mL ClC
 constructor
 ·intro h c hc n hn
  exact h n (xA.2 ⟨c,hc,hn⟩)
 ·intro h n hn
  obtain⟨c,hc,hcn⟩:=xA.1 hn
  exact h c hc n hcn
theorem Mv {H:Hp AV} {x:V1}:Tc H x=true↔jG H x:=by
 cases x with
 | c x=>simp [Tc,jG,V1.cells,mL,aco]
 | agg l=>simp [Tc,jG,V1.cells,CN]
theorem Ia {H:Hp AV}:∀{l:List V1},Mu H l=true↔∀x∈l,jG H x
 | []=>by simp [Mu]
 | c::r=>by
   have:=@Ia H r
   have hc:=@Mv AV H c
   simp only [Mu,List.forall_mem_cons]
   cases h:Tc H c<;>simp_all
theorem wm {H:Hp AV} {v:SV}:QN H v=true↔fh H v:=by
 cases v with
 | v x=>simp [QN,fh,Mv]
 | ji l=>simp [QN,fh,Ia]
 | lE=>simp [QN,fh]
 | wJ f l=>simp [QN,fh,CN]
theorem p5 {H:Hp AV}:∀{l:List SV},Bc H l=true↔∀x∈l,fh H x
 | []=>by simp [Bc]
 | c::r=>by
   have:=@p5 H r
   have hc:=@wm AV H c
   simp only [Bc,List.forall_mem_cons]
   cases h:QN H c<;>simp_all
theorem Mx {H:Hp AV} {c:aG AV}:Yw H c=true↔mL H c.cellsOf:=by
 cases c with
 | cells l t=>exact CN
 | kD l e t=>exact CN
 | j8=>simp [Yw,aG.cellsOf,mL]
 | bI a=>simp [Yw,aG.cellsOf,mL]
theorem jh {H:Hp AV}:∀{l:Hp AV},p6 H l=true↔∀n x,ae l n=some x->mL H x.cellsOf
 | []=>by simp [p6,ae]
 | none::r=>by
   rw [p6,jh]
   constructor
   ·intro h n x hc
    cases n with
    | zero=>simp [ae] at hc
    | succ n=>exact h n x hc
   ·intro h n x hc
    exact h (n+1) x hc
 | some c::r=>by
   have ih:=@jh H r
   simp only [p6]
   cases hl:Yw H c with
   | false =>
     simp only [Bool.false_eq_true,false_iff]
     intro h
     have:=Mx.2 (h 0 c rfl)
     rw [hl] at this;cases this
   | true =>
     simp only
     rw [ih]
     constructor
     ·intro h n x hc
      cases n with
      | zero=>simp only [ae,aaC] at hc;subst hc;exact Mx.1 hl
      | succ n=>exact h n x hc
     ·intro h n x hc
      exact h (n+1) x hc
theorem dF {ρ ρ':Nm} {H:Hp AV} {l:List Cell} (hc:mL H l) (ha:∀n c,ae H n=some c->ρ'.L n=ρ.L n):aA ρ' l=aA ρ l:=by
 unfold aA
 apply ad7
 intro c hm
 exact b4 c fun n hn=>let ⟨x,hx⟩:=hc c hm n hn;ha n x hx
theorem V1.b4 {ρ ρ':Nm} {H:Hp AV} {x:V1} (hc:jG H x) (ha:∀n c,ae H n=some c->ρ'.L n=ρ.L n):x.aq ρ'=x.aq ρ:=by
 cases x with
 | c x =>
   have:=Sx.dF (l:=[x]) hc ha
   simpa [aA,V1.aq] using this
 | agg l=>simp only [V1.aq];rw [Sx.dF (l:=l) hc ha]
theorem SV.b4 {ρ ρ':Nm} {H:Hp AV} {v:SV} (hc:fh H v) (ha:∀n c,ae H n=some c->ρ'.L n=ρ.L n):v.aq ρ'=v.aq ρ:=by
 cases v with
 | v x=>exact V1.b4 hc ha
 | ji l =>
   simp only [SV.aq]
   congr 2
   apply ad7
   intro x hx
   exact V1.b4 (hc x hx) ha
 | lE=>rfl
 | wJ f l=>simp only [SV.aq];rw [Sx.dF (l:=l) hc ha]
theorem mL.mono {H H':Hp AV} {l:List Cell} (h:mL H l) (hp:∀n c,ae H n=some c->∃c',ae H' n=some c'):mL H' l :=
 fun c hc n hn=>let ⟨x,hx⟩:=h c hc n hn;hp n x hx
theorem jG.mono {H H':Hp AV} {x:V1} (h:jG H x) (hp:∀n c,ae H n=some c->∃c',ae H' n=some c'):jG H' x:=mL.mono h hp
theorem fh.mono {H H':Hp AV} {v:SV} (h:fh H v) (hp:∀n c,ae H n=some c->∃c',ae H' n=some c'):fh H' v:=by
 cases v with
 | v x=>exact jG.mono h hp
 | ji l=>exact fun x hx=>jG.mono (h x hx) hp
 | lE=>trivial
 | wJ f l=>exact mL.mono h hp
end aaU
end
section
section apa
def Tr.All {α:Type} (q:Nat->α->Prop):Tr α->(Nat->Nat)->Prop
 | .lf,_=>True
 | .nd x l r,f=>(∀a,x=some a->q (f 0) a) /\ Tr.All q l (fun n=>f (2 * n+1)) /\ Tr.All q r (fun n=>f (2 * n+2))
theorem Tr.Fo {α:Type} {q:Nat->α->Prop}:∀{t:Tr α} {f:Nat->Nat},Tr.All q t f->∀n a,t.get n=some a->q (f n) a
 | .lf,_,_,n,a,h=>by simp [Tr.get] at h
 | .nd x l r,f,Cb,n,a,h=>by
   simp only [Tr.get] at h
   split at h
   ·rename_i h0
    obtain rfl:=(Nat.eq_of_beq_eq_true h0)
    exact Cb.1 a h
   ·rename_i h0
    have hn:n≠0:=fun e=>by subst e;simp at h0
    split at h
    ·rename_i h1
     have h1:=Nat.eq_of_beq_eq_true h1
     have:=Tr.Fo Cb.2.1 _ a h
     rw [show 2 * (n / 2)+1=n from by omega] at this
     exact this
    ·rename_i h1
     have h1:n % 2≠1:=fun e=>by rw [e] at h1;simp at h1
     have:=Tr.Fo Cb.2.2 _ a h
     rw [show 2 * ((n - 1) / 2)+2=n from by omega] at this
     exact this
theorem Tr.JW {α:Type} {q:Nat->α->Prop} {t:Tr α} (h:Tr.All q t (fun n=>n)) (n:Nat) (a:α) (hg:t.get n=some a):q n a:=Tr.Fo h n a hg
end apa
section tables
variable {AV:Type}
structure fD (P:Program) (N:dV AV):Prop where
 ty:∀t i,N.tt.get t=some i->Sc P t=some i
 fn:∀f g,N.ft.get f=some g->P.funcs[f]?=some g /\ g.body.isSome=true /\ (g.name == "runtime.NumGoroutine")=false
 mix:P.follows .mixedOrders=true
 sl:∀t si,N.sl.get t=some si->yU P t=some si
 mt:∀t m g,N.mt t m=some g->∀(v:Value) (w:World),(Go.method (P.types.size+Made.depth) t v m).run P w=.ok (g,v) w
theorem sq {P:Program} {t:TypeId} {i:TI} (h:Sc P t=some i):∃inf,P.info? t=some inf /\ AD P t=some i.kd /\ i.size=inf.size /\
 i.zero=(match inf.zero with | some v=>mo v.cells.toList | none=>none) /\
 i.amW=(match P.eqGuardType P.depth t with | true=>none | false=>oR P 12 t):=by
 unfold Sc at h
 split at h
 ·rename_i inf k h1 h2
  cases h
  exact⟨inf,h1,h2,rfl,rfl,rfl⟩
 ·cases h
theorem AA {P:Program} {t:TypeId} {fs:List cI} (h:AD P t=some (.struct fs)):∃a,P.underlying t=some (.struct a) /\ JE P a.toList=some fs:=by
 unfold AD at h
 cases hu:P.underlying t with
 | none=>simp [hu] at h
 | some d=>cases d<;>simp only [hu] at h<;>(first | (cases h;done) | skip)<;>(split at h<;>(first | (cases h;done) | skip))<;>(cases h;exact⟨_,rfl,by assumption⟩)
theorem abe {P:Program} {t:TypeId} {k:Kd} (h:AD P t=some k):∃d,P.underlying t=some d:=by
 unfold AD at h
 cases hu:P.underlying t with
 | none=>rw [hu] at h;cases h
 | some d=>exact⟨d,rfl⟩
theorem agE {P:Program} {t:TypeId} {k:IntKind} (h:AD P t=some (.int k)):P.underlying t=some (.int k):=by
 unfold AD at h
 split at h<;>(try split at h)<;>simp_all
theorem Ek {P:Program} {t:TypeId} (h:AD P t=some .Nq):P.underlying t=some .string:=by
 unfold AD at h
 split at h<;>(try split at h)<;>simp_all
theorem ow {P:Program} {t:TypeId} {n:Nat} (h:AD P t=some (.slice n)):∃e,P.underlying t=some (.slice e) /\ n6 P e=some n:=by
 unfold AD at h
 cases hu:P.underlying t with
 | none=>simp [hu] at h
 | some d=>cases d<;>simp only [hu] at h<;>(first | (cases h;done) | skip)<;>(split at h<;>(first | (cases h;done) | skip))<;>(cases h;exact⟨_,rfl,by assumption⟩)
theorem AB {P:Program} {t:TypeId} {len n:Nat} {ag:Bool} (h:AD P t=some (.fW len n ag)):∃e,P.underlying t=some (.array len e) /\ n6 P e=some n /\ fB P e=some ag:=by
 unfold AD at h
 cases hu:P.underlying t with
 | none=>simp [hu] at h
 | some d=>cases d<;>simp only [hu] at h<;>(first | (cases h;done) | skip)<;>(split at h<;>(first | (cases h;done) | skip))<;>(cases h;exact⟨_,rfl,by assumption,by assumption⟩)
theorem abf {P:Program} {t:TypeId} (h:AD P t=some .bool):P.underlying t=some .bool:=by
 unfold AD at h
 cases hu:P.underlying t with
 | none=>simp [hu] at h
 | some d=>cases d<;>simp only [hu] at h<;>(first | rfl | (cases h;done) | (split at h<;>cases h))
theorem agD {P:Program} {t:TypeId} (h:AD P t=some .ptr):∃e,P.underlying t=some (.pointer e):=by
 unfold AD at h
 cases hu:P.underlying t with
 | none=>simp [hu] at h
 | some d=>cases d<;>simp only [hu] at h<;>(first | exact⟨_,rfl⟩ | (cases h;done) | (split at h<;>cases h))
theorem W4 {P:Program} {t:TypeId} (h:AD P t=some .iface):∃e,P.underlying t=some (.interface e):=by
 unfold AD at h
 cases hu:P.underlying t with
 | none=>simp [hu] at h
 | some d=>cases d<;>simp only [hu] at h<;>(first | exact⟨_,rfl⟩ | (cases h;done) | (split at h<;>cases h))
theorem Jp {P:Program} {t:TypeId} {k:Kd} (h:AD P t=some k) (hk:k≠.iface):∃d,P.underlying t=some d /\ ∀ms,d≠.interface ms:=by
 unfold AD at h
 cases hu:P.underlying t with
 | none=>simp [hu] at h
 | some d =>
   refine⟨d,rfl,fun ms he=>?_⟩
   subst he
   simp only [hu] at h
   cases h
   exact hk rfl
theorem Sw {P:Program} {t:TypeId} {k:Kd} (h:AD P t=some k) (w:World):(isAgg t).run P w=.ok (uL k) w:=by
 unfold AD at h
 unfold isAgg
 cases hu:P.underlying t with
 | none=>simp [hu] at h
 | some d=>cases d<;>simp only [hu] at h<;>(first | (cases h;simp [underlying,program,Sem.run,hu,uL];done) | (split at h<;>(first | (cases h;done) | (cases h;simp [underlying,program,Sem.run,hu,uL]))))
theorem dD {P:Program} {t:TypeId} {n:Nat} (h:n6 P t=some n) (w:World):(sizeOf t).run P w=.ok n w:=by
 unfold n6 at h
 split at h<;>simp_all [sizeOf,typeInfo,program,Sem.run]
theorem bJ {P:Program} {t:TypeId} {d:TypeDesc} (h:P.underlying t=some d) (w:World):(underlying t).run P w=.ok d w:=by
 simp [underlying,program,Sem.run,h]
theorem UX {P:Program} {t:TypeId} {inf:TypeInfo} (h:P.info? t=some inf):n6 P t=some inf.size:=by simp [n6,h]
theorem MM {P:Program} {t:TypeId} {b:Bool} (h:fB P t=some b) (w:World):(isAgg t).run P w=.ok b w:=by
 unfold fB at h
 unfold isAgg
 cases hu:P.underlying t with
 | none=>simp [hu] at h
 | some d=>cases d<;>simp only [hu] at h<;>(cases h;simp [underlying,program,Sem.run,hu])
end tables
section sub
theorem ltake_eq:∀{l:List Cell} {n:Nat} {r:List Cell},oq l n=some r->r=l.take n /\ n<=l.length
 | _,0,r,h=>by simp [oq] at h;simp [<- h]
 | [],_+1,_,h=>by simp [oq] at h
 | x::l,n+1,r,h=>by
   simp only [oq] at h
   cases hl:oq l n with
   | none=>simp [hl] at h
   | some q =>
     simp only [hl,aaC] at h
     have:=ltake_eq hl
     subst h
     simp [this.1,this.2]
theorem lsub_eq:∀{l:List Cell} {k n:Nat} {r:List Cell},pM l k n=some r->r=(l.drop k).take n /\ k+n<=l.length
 | l,0,n,r,h=>by
   cases l<;>simp only [pM] at h<;>(have:=ltake_eq h;simpa using this)
 | [],_+1,_,_,h=>by simp [pM] at h
 | _::l,k+1,n,r,h=>by
   simp only [pM] at h
   have:=lsub_eq h
   simp;exact⟨this.1,by omega⟩
theorem lput_eq:∀{l:List Cell} {k:Nat} {ys r:List Cell},l6 l k ys=some r->r=l.take k++ys++l.drop (k+ys.length) /\ k+ys.length<=l.length
 | l,0,[],r,h=>by cases l<;>simp [l6] at h<;>simp [<- h]
 | [],0,_::_,_,h=>by simp [l6] at h
 | x::l,0,y::ys,r,h=>by
   simp only [l6] at h
   cases hl:l6 l 0 ys with
   | none=>simp [hl] at h
   | some q =>
     simp only [hl,aaC] at h
     have:=lput_eq hl
     subst h
     simp at this ⊢
     exact⟨this.1,this.2⟩
 | [],_+1,ys,_,h=>by cases ys<;>simp [l6] at h
 | x::l,n+1,ys,r,h=>by
   cases hl:l6 l n ys with
   | none=>cases ys<;>simp [l6,hl] at h
   | some q =>
     have h':x::q=r:=by cases ys<;>simpa [l6,hl] using h
     have:=lput_eq hl
     subst h'
     refine⟨?_,by simp;omega⟩
     rw [this.1]
     simp [Nat.succ_add]
theorem ee (ρ:Nm) (l:List Cell):(aA ρ l).length=l.length:=by simp [aA]
end sub
section evs
variable {AV:Type}
structure Gg (ρ:Nm) (H:Hp AV) (ev:Operand->Option SV) (e:Operand->Value):Prop where
 aq:∀x v,ev x=some v->e x=v.aq ρ
 cl:∀x v,ev x=some v->fh H v
theorem H7 {ρ:Nm} {H:Hp AV} {c:Value} {v:SV} (h:OO c=some v):c=v.aq ρ /\ fh H v:=by
 unfold OO at h
 split at h
 ·rename_i cs
  cases hl:mo cs.toList with
  | none=>simp [hl] at h
  | some l =>
    simp only [hl,aaC] at h
    subst h
    have:=mn ρ hl
    refine⟨by simp [SV.aq,V1.aq,this.1],fun c hc n hn=>?_⟩
    rw [this.2 c hc] at hn;cases hn
 ·cases hc:Cell.ofValue c with
  | none=>simp [hc] at h
  | some x =>
    simp only [hc,aaC] at h
    subst h
    have:=BA ρ hc
    refine⟨by simp [SV.aq,V1.aq,this.1],fun c hc n hn=>?_⟩
    simp [V1.cells] at hc
    subst hc
    rw [this.2] at hn;cases hn
theorem iz {H:Hp AV} {l:List Cell} (h:∀c∈l,c.name=none):mL H l:=fun c hc n hn=>by rw [h c hc] at hn;cases hn
theorem fV {H:Hp AV} {c:Cell} (h:c.name=none):fh H (.v (.c c)):=iz (by simp [V1.cells,h])
theorem xQ {N:dV AV} {s:St AV} (hc:bH N s) {x:Operand} {v:SV} (h:qP N.G s.H s.E x=some v):fh s.H v:=by
 cases x with
 | tmp t =>
   simp only [qP] at h
   have:=hc.E t
   split at h
   ·cases h
   ·cases h;exact this
 | const c=>exact(H7 (ρ:=Nm.id) (H:=s.H) h).2
 | global g =>
   simp only [qP] at h
   split at h
   ·rename_i c _ hg
    cases h
    intro c' nC n hn
    simp [V1.cells] at nC
    subst nC
    simp [Cell.name] at hn
    subst hn
    exact⟨c,hg⟩
   ·cases h
 | func f=>simp only [qP,aaC] at h;subst h;exact fV rfl
theorem iU {N:dV AV} {ρ:Nm} {nt:Nat} {s:St AV} {a:Act} (hE:EM ρ nt s.E a) (hc:bH N s) (hg:∀g,g < N.G->ρ g=g):Gg ρ s.H (qP N.G s.H s.E) a.eval where
 aq x v h:=by
  cases x with
  | tmp t =>
    simp only [qP] at h
    split at h
    ·cases h
    ·rename_i dA
     cases h
     exact hE.get t (fun e=>dA e)
  | const c=>exact(H7 (ρ:=ρ) (H:=s.H) h).1
  | global g =>
    simp only [qP] at h
    split at h
    ·rename_i du _
     cases h
     simp [Act.eval,SV.aq,V1.aq,Cell.aq,hg g ((fw _ _).1 du)]
    ·cases h
  | func f=>simp only [qP,aaC] at h;subst h;rfl
 cl x v h:=xQ hc h
theorem su (ρ:Nm) (b k:Bool):(P0 b k).aq ρ=.bool b:=by cases k<;>rfl
theorem yV (ρ:Nm) (q:IntKind) (n:Int) (k:Bool):(J4 q n k).aq ρ=.int q n:=by cases k<;>rfl
theorem As {H:Hp AV} (b k:Bool):jG H (P0 b k):=by cases k<;>exact fV rfl
theorem Jj {H:Hp AV} (q:IntKind) (n:Int) (k:Bool):jG H (J4 q n k):=by cases k<;>exact fV rfl
theorem Yn {H:Hp AV} (k:IntKind) (c:Cell) (n:Int) (lit:Bool):jG H (Mp k c n lit):=by
 unfold Mp
 repeat' split
 all_goals exact fV rfl
theorem ff (ρ:Nm) {c:Cell} {b k:Bool} (h:kX c=some (b,k)):c.aq ρ=.bool b:=by
 unfold kX at h;split at h<;>cases h<;>rfl
theorem tW (ρ:Nm) {c:Cell} {s:ByteArray} {k:Bool} (h:KB c=some (s,k)):c.aq ρ=.string s:=by
 unfold KB at h;split at h<;>cases h<;>rfl
theorem bsEq_eq:∀a b:List UInt8,acs a b=(a==b)
 | [],[]=>rfl
 | [],_::_=>rfl
 | _::_,[]=>rfl
 | x::a,y::b=>by
   simp only [acs,List.cons_beq_cons]
   cases h:Nat.beq x.toNat y.toNat with
   | true=>rw [UInt8.toNat_inj.1 (Nat.eq_of_beq_eq_true h)];simp [bsEq_eq a b]
   | false =>
     have:¬x=y:=fun e=>by subst e;simp at h
     simp [this]
theorem Rp (a b:ByteArray):Db a b=(a==b):=by
 rw [Db,bsEq_eq,Array.beq_toList]
 rfl
theorem aaR (ρ:Nm) (s:ByteArray) (k:Bool):(mkS s k).aq ρ=.string s:=by cases k<;>rfl
theorem agc {H:Hp AV} (s:ByteArray) (k:Bool):jG H (mkS s k):=by cases k<;>exact fV rfl
theorem fC (ρ:Nm) {c:Cell} {q:IntKind} {n:Int} {k:Bool} (h:oy c=some (q,n,k)):c.aq ρ=.int q n:=by
 unfold oy at h;split at h<;>cases h<;>rfl
theorem S7 (ρ:Nm) {c:Cell} {q k:IntKind} {n:Int} {lit:Bool} (h:oy c=some (q,n,lit)):(Mp k c n lit).aq ρ=.int k (k.wrap n):=by
 unfold Mp
 repeat' split
 all_goals first
  | rfl
  | (rename_i hd
     simp only [oy,aaC,aaF] at h
     obtain⟨rfl,rfl,_⟩:=h
     have hd:=aaV hd
     simp only [V1.aq,Cell.aq]
     rw [O9 (by omega)])
end evs
end
section
section parts
variable {AV:Type}
theorem DM {α:Type} {l:List α} {n:Nat} {x:α} (h:yc l n=some x):l[n]?=some x:=by rwa [nth_eq] at h
theorem ur {agg:Bool} {n:Nat} {l:List Cell} {off:Nat} {x:V1} (h:uu agg n l off=some x) :
 (agg=true->off+n<=l.length /\ x=.agg ((l.drop off).take n)) /\ (agg=false->∃c,l[off]?=some c /\ x=.c c):=by
 unfold uu at h
 cases agg with
 | true =>
   simp only at h
   cases hl:pM l off n with
   | none=>simp [hl] at h
   | some r =>
     simp only [hl,aaC] at h
     subst h
     have:=lsub_eq hl
     exact⟨fun _=>⟨this.2,by rw [this.1]⟩,(fun h=>by cases h)⟩
 | false =>
   simp only at h
   cases hl:yc l off with
   | none=>simp [hl] at h
   | some r =>
     simp only [hl,aaC] at h
     subst h
     exact⟨(fun h=>by cases h),fun _=>⟨r,DM hl,rfl⟩⟩
theorem DE {H:Hp AV} {agg:Bool} {n:Nat} {l:List Cell} {off:Nat} {x:V1} (h:uu agg n l off=some x) (hc:mL H l):jG H x:=by
 obtain⟨h1,h2⟩:=ur h
 cases agg with
 | true =>
   obtain⟨_,rfl⟩:=h1 rfl
   exact fun c hm=>hc c (List.mem_of_mem_drop (List.mem_of_mem_take hm))
 | false =>
   obtain⟨c,hl,rfl⟩:=h2 rfl
   intro d hd
   simp [V1.cells] at hd
   subst hd
   exact hc d (ab8 hl)
theorem Mg (ρ:Nm) (l:List Cell) (off n:Nat):((aA ρ l).toArray).extract off (off+n)=(aA ρ ((l.drop off).take n)).toArray:=by
 simp [aA,List.map_take,List.map_drop,List.extract_eq_take_drop]
theorem yK {P:Program} {ρ:Nm} {t:TypeId} {agg:Bool} {n:Nat} {l:List Cell} {off:Nat} {x:V1} (ha:fB P t=some agg) (hs:n6 P t=some n)
 (h:uu agg n l off=some x) (w:World):(part t (aA ρ l).toArray off).run P w=.ok (x.aq ρ) w:=by
 obtain⟨h1,h2⟩:=ur h
 unfold part
 cases agg with
 | true =>
   obtain⟨_,rfl⟩:=h1 rfl
   simp only [abA,MM ha w,abz,if_true,dD hs w,abC,V1.aq,Mg]
 | false =>
   obtain⟨c,hl,rfl⟩:=h2 rfl
   simp [MM ha w,V1.aq,aA,hl]
theorem CH {P:Program}:∀{fs:List Field} {l:List cI} {i:Nat} {f:cI},JE P fs=some l->yc l i=some f ->
 ∃g,fs[i]?=some g /\ f.off=g.offset /\ n6 P g.type=some f.size /\ fB P g.type=some f.agg
 | [],l,i,f,h,hn=>by cases h;simp [yc] at hn
 | g::r,l,i,f,h,hn=>by
   simp only [JE] at h
   split at h
   ·rename_i n a l' h1 h2 h3
    cases h
    cases i with
    | zero=>simp only [yc,aaC] at hn;subst hn;exact⟨g,rfl,rfl,h1,h2⟩
    | succ i=>simp only [yc] at hn;exact CH (fs:=r) h3 hn
   ·cases h
theorem Sy {P:Program} {t:TypeId} {k:Kd} (h:AD P t=some k):fB P t=some (uL k):=by
 unfold AD at h
 unfold fB
 cases hu:P.underlying t with
 | none=>simp [hu] at h
 | some d=>cases d<;>simp only [hu] at h<;>(first | (cases h;rfl) | (split at h<;>(first | (cases h;done) | (cases h;rfl))))
theorem C3 {P:Program} {N:dV AV} (hT:fD P N) {t:TypeId} {i:TI} (h:N.tt.get t=some i):n6 P t=some i.size:=by
 obtain⟨inf,h1,_,h2,_⟩:=sq (hT.ty t i h)
 rw [UX h1,h2]
theorem eB {P:Program} {N:dV AV} (hT:fD P N) {t:TypeId} {i:TI} (h:N.tt.get t=some i):AD P t=some i.kd:=by
 obtain⟨inf,_,h1,_⟩:=sq (hT.ty t i h)
 exact h1
theorem yo {P:Program} {N:dV AV} (hT:fD P N) {t:TypeId} {i:TI} {z:List Cell} (h:N.tt.get t=some i) (hz:i.zero=some z) (ρ:Nm) :
 ∃v,(∀w,(zeroValue t).run P w=.ok v w) /\ v.cells.toList=aA ρ z /\ ∀c∈z,c.name=none:=by
 obtain⟨inf,h1,_,_,h2,_⟩:=sq (hT.ty t i h)
 rw [h2] at hz
 cases hv:inf.zero with
 | none=>simp [hv] at hz
 | some v =>
   simp only [hv] at hz
   have:=mn ρ hz
   exact⟨v,fun w=>by simp [zeroValue,typeInfo,program,Sem.run,h1,hv],this.1.symm,this.2⟩
end parts
section build
theorem sF (off:Nat):∀(vs:List Value) (k:Nat) (cur:Array Value),off+k+vs.length<=cur.size ->
 (vs.zipIdx k).foldl (fun cs (p:Value×Nat)=>cs.setIfInBounds (off+p.2) p.1) cur=(cur.toList.take (off+k)++vs++cur.toList.drop (off+k+vs.length)).toArray
 | [],k,cur,_=>by simp
 | v::ml,k,cur,h=>by
   simp only [List.zipIdx_cons,List.foldl_cons]
   rw [sF off ml (k+1) _ (by simp at h ⊢;omega)]
   have e:=list_seg_step cur.toList (off+k) v ml (by simp at h ⊢;omega)
   simp only [Array.toList_setIfInBounds]
   simpa [aej,Nat.add_comm 1] using e
variable {AV:Type}
theorem Ma {P:Program} {ρ:Nm} {H:Hp AV} {fs:List Field} {l:List cI} (hf:JE P fs=some l) (pl:Nat->Option (Nat×Nat))
 (Zg:∀(i:Nat) (f:cI),yc l i=some f->pl i=some (f.off,f.size)) :
 ∀(ps:List (Nat×V1)) (z r:List Cell),HD l z ps=some r->mL H z->(∀p∈ps,jG H p.2) ->
   Instr.fill pl (aA ρ z).toArray (ps.map fun p=>(p.1,p.2.aq ρ))=some (aA ρ r).toArray /\ mL H r
 | [],z,r,h,hz,_=>by
   simp only [HD,aaC] at h
   subst h
   exact⟨rfl,hz⟩
 | (i,x)::ps,z,r,h,hz,hp=>by
   simp only [HD] at h
   cases hn:yc l i with
   | none=>simp [hn] at h
   | some f =>
     simp only [hn] at h
     cases hb:Nat.beq f.size x.cells.length with
     | false=>simp [hb] at h
     | true =>
       simp only [hb] at h
       cases hl:l6 z f.off x.cells with
       | none=>simp [hl] at h
       | some z' =>
         simp only [hl] at h
         have sD:f.size=x.cells.length:=(aC _ _).1 hb
         obtain⟨e1,e2⟩:=lput_eq hl
         have hx:=hp (i,x) (by simp)
         have hz':mL H z':=by
          intro c hc
          rw [e1] at hc
          rcases aec.1 hc with hc | hc
          ·rcases aec.1 hc with hc | hc
           ·exact hz c (List.mem_of_mem_take hc)
           ·exact hx c hc
          ·exact hz c (List.mem_of_mem_drop hc)
         obtain⟨ih1,ih2⟩:=Ma hf pl Zg ps z' r h hz' (fun p hm=>hp p (by simp [hm]))
         refine⟨?_,ih2⟩
         have hcl:(x.aq ρ).cells.toList=aA ρ x.cells:=V1.nH ρ x
         have hcs:(x.aq ρ).cells.size=x.cells.length:=by rw [<- af6,hcl,ee]
         simp only [abv,Instr.fill,Zg i f hn]
         rw [if_neg (by simp [hcs,sD,ee];omega)]
         rw [<- ih1]
         congr 1
         have:=sF f.off (aA ρ x.cells) 0 (aA ρ z).toArray (by simp [ee];omega)
         rw [<- hcl] at this
         rw [<- Array.foldl_toList,Array.toList_zipIdx]
         refine this.trans ?_
         rw [hcl,e1]
         simp [aA,aen,List.map_take,List.map_drop]
theorem AW {ρ:Nm} {H:Hp AV} (Gc:Nat) :
 ∀(ps:List (Nat×V1)) (z r:List Cell),xe Gc z ps=some r->mL H z->(∀p∈ps,jG H p.2) ->
   Instr.fill (fun i=>some (i * Gc,Gc)) (aA ρ z).toArray (ps.map fun p=>(p.1,p.2.aq ρ))=some (aA ρ r).toArray /\ mL H r
 | [],z,r,h,hz,_=>by
   simp only [xe,aaC] at h
   subst h
   exact⟨rfl,hz⟩
 | (i,x)::ps,z,r,h,hz,hp=>by
   simp only [xe] at h
   cases hb:Nat.beq Gc x.cells.length with
   | false=>simp [hb] at h
   | true =>
     simp only [hb] at h
     cases hl:l6 z (i * Gc) x.cells with
     | none=>simp [hl] at h
     | some z' =>
       simp only [hl] at h
       have sD:Gc=x.cells.length:=(aC _ _).1 hb
       obtain⟨e1,e2⟩:=lput_eq hl
       have hx:=hp (i,x) (by simp)
       have hz':mL H z':=by
        intro c hc
        rw [e1] at hc
        rcases aec.1 hc with hc | hc
        ·rcases aec.1 hc with hc | hc
         ·exact hz c (List.mem_of_mem_take hc)
         ·exact hx c hc
        ·exact hz c (List.mem_of_mem_drop hc)
       obtain⟨ih1,ih2⟩:=AW Gc ps z' r h hz' (fun p hm=>hp p (by simp [hm]))
       refine⟨?_,ih2⟩
       have hcl:(x.aq ρ).cells.toList=aA ρ x.cells:=V1.nH ρ x
       have hcs:(x.aq ρ).cells.size=x.cells.length:=by rw [<- af6,hcl,ee]
       simp only [abv,Instr.fill]
       rw [if_neg (by simp [hcs,sD,ee];rw [<- sD];omega)]
       rw [<- ih1]
       congr 1
       have:=sF (i * Gc) (aA ρ x.cells) 0 (aA ρ z).toArray (by simp [ee];omega)
       rw [<- hcl] at this
       rw [<- Array.foldl_toList,Array.toList_zipIdx]
       refine this.trans ?_
       rw [hcl,e1]
       simp [aA,aen,List.map_take,List.map_drop]
end build
end
section
def vEq:Value->Value->Bool
 | .bool a,.bool b=>a==b
 | .string a,.string b=>a==b
 | .int _ a,.int _ b=>a==b
 | _,_=>false
def kB:List Value->List Value->Bool
 | [],[]=>true
 | x::xs,y::ys=>vEq x y&&kB xs ys
 | _,_=>false
theorem abW (ρ:Nm) {x y:Cell} {b k:Bool} (h:eqC x y=some (b,k)):b=vEq (x.aq ρ) (y.aq ρ):=by
 unfold eqC at h
 split at h
 ·rename_i a ka b' kb h1 h2
  cases h
  rw [ff ρ h1,ff ρ h2]
  rfl
 ·split at h
  ·rename_i _ a ka _ b' kb h1 h2
   cases h
   rw [fC ρ h1,fC ρ h2]
   rfl
  ·split at h
   ·rename_i a ka b' kb h1 h2
    cases h
    rw [tW ρ h1,tW ρ h2]
    exact Rp _ _
   ·cases h
theorem QB (ρ:Nm):∀{xs ys:List Cell} {b k:Bool},eqL xs ys=some (b,k)->b=kB (aA ρ xs) (aA ρ ys)
 | [],[],b,k,h=>by cases h;rfl
 | [],_::_,_,_,h=>by simp [eqL] at h
 | _::_,[],_,_,h=>by simp [eqL] at h
 | x::xs,y::ys,b,k,h=>by
   simp only [eqL] at h
   cases h1:eqC x y with
   | none=>simp [h1] at h
   | some p =>
     obtain⟨b1,k1⟩:=p
     cases h2:eqL xs ys with
     | none=>simp [h1,h2] at h
     | some q =>
       obtain⟨b2,k2⟩:=q
       have e1:=abW ρ h1
       have e2:=QB ρ h2
       have e:kB (aA ρ (x::xs)) (aA ρ (y::ys))=(b1&&b2):=by simp [aA,kB,e1,e2]
       rw [e]
       simp only [h1,h2] at h
       cases k1<;>cases b1<;>cases k2<;>cases b2<;>simp at h<;>simp [<- h.1]
theorem kQ:∀{ks:List FK} {l:List Cell},fK ks l=true->l.length=ks.length
 | [],[],_=>rfl
 | [],_::_,h=>by simp [fK] at h
 | _::_,[],h=>by simp [fK] at h
 | k::ks,c::cs,h=>by
   simp only [fK] at h
   split at h
   ·split at h
    ·simp [kQ h]
    ·cases h
   ·cases h
theorem qL:∀{ks ks':List FK} {l:List Cell},fK (ks++ks') l=true->fK ks (l.take ks.length)=true /\ fK ks' (l.drop ks.length)=true
 | [],_,l,h=>by simpa [fK] using h
 | k::ks,ks',[],h=>by simp [fK] at h
 | k::ks,ks',c::cs,h=>by
   simp only [adF,fK] at h
   simp only [abn,List.take_succ_cons,List.drop_succ_cons,fK]
   split at h
   ·rename_i k' hk
    split at h
    ·rename_i hd
     exact qL h
    ·cases h
   ·cases h
theorem zC:∀(a b c d:List Value),a.length=c.length->kB (a++b) (c++d)=(kB a c&&kB b d)
 | [],_,[],_,_=>by simp [kB]
 | [],_,_::_,_,h=>by simp at h
 | _::_,_,[],_,h=>by simp at h
 | x::a,b,y::c,d,h=>by simp [kB,zC a b c d (by simpa using h),Bool.and_assoc]
def vf (P:Program) (t:TypeId) (x:V1):Prop:=(fB P t=some true /\ ∃l,x=.agg l) \/ (fB P t=some false /\ ∃c,x=.c c)
theorem L9 {P:Program} {d:Nat} {t:TypeId} {ks:List FK} (h:oR P d t=some ks):∃b,fB P t=some b:=by
 cases d with
 | zero=>cases h
 | succ d =>
   unfold oR at h
   unfold fB
   cases hu:P.underlying t with
   | none=>simp [hu] at h
   | some u=>cases u<;>exact⟨_,rfl⟩
theorem XS {P:Program} {d:Nat} {t:TypeId} {ks:List FK} (h:oR P d t=some ks) (ha:fB P t=some false):ks.length=1:=by
 cases d with
 | zero=>cases h
 | succ d =>
   unfold oR at h
   unfold fB at ha
   cases hu:P.underlying t with
   | none=>simp [hu] at h
   | some u=>cases u<;>simp [hu] at h ha<;>simp [<- h]
theorem D4 {P:Program} {ρ:Nm} {d D:Nat} (xs ys:List Cell) (w:World)
 (ih:∀(t:TypeId) (ks:List FK) (x y:V1),oR P d t=some ks->vf P t x->vf P t y->fK ks x.cells=true->fK ks y.cells=true ->
   (Op.equalIn D t (x.aq ρ) (y.aq ρ)).run P w=.ok (kB (aA ρ x.cells) (aA ρ y.cells)) w) :
 ∀(r:List Field) (off:Nat) (ks:List FK),off<=xs.length->off<=ys.length->sG P (oR P d) r off=some ks->fK ks (xs.drop off)=true->fK ks (ys.drop off)=true ->
   (forIn r ((none,()):Option Bool×Unit) fun f __s =>
     if f.name ≠ "_" then do
      let __do_lift <- part f.type (aA ρ xs).toArray f.offset
      let __do_lift_1 <- part f.type (aA ρ ys).toArray f.offset
      let __do_lift <- Op.equalIn D f.type __do_lift __do_lift_1
      if (!__do_lift)=true then pure (ForInStep.done (some false,())) else pure (ForInStep.yield (none,()))
     else pure (ForInStep.yield (none,())):Sem (Option Bool×Unit)).run P w =
     .ok (if kB (aA ρ (xs.drop off)) (aA ρ (ys.drop off))=true then(none,()) else(some false,())) w
 | [],off,ks,_,_,h,hx,hy=>by
   simp only [sG,aaC] at h
   subst h
   have e1:xs.drop off=[]:=List.eq_nil_of_length_eq_zero (kQ hx)
   have e2:ys.drop off=[]:=List.eq_nil_of_length_eq_zero (kQ hy)
   simp [e1,e2,aA,kB]
 | f::r,off,ks,hox,hoy,h,hx,hy=>by
   simp only [sG] at h
   split at h
   ·cases h
   ·rename_i al8
    split at h
    ·cases h
    ·rename_i Om
     have Om:=(aC _ _).1 Om
     split at h
     ·cases h
     ·rename_i k1 hk1
      split at h
      ·cases h
      ·rename_i n hn
       split at h
       ·cases h
       ·rename_i hlen
        have hlen:=(aC _ _).1 hlen
        split at h
        ·rename_i k2 hk2
         cases h
         obtain⟨agg,XI⟩:=L9 hk1
         obtain⟨x1,x2⟩:=qL hx
         obtain⟨y1,y2⟩:=qL hy
         have lx:=kQ hx
         have ly:=kQ hy
         simp only [agW,abl] at lx ly
         rw [List.drop_drop,<- hlen] at x2 y2
         have abq:=D4 xs ys w ih r (off+n) k2 (by omega) (by omega) hk2 x2 y2
         have key:∀l:List Cell,fK k1 ((l.drop off).take k1.length)=true->off+n<=l.length ->
          ∃x,uu agg n l off=some x /\ vf P f.type x /\ x.cells=(l.drop off).take n:=by
          intro l hl hle
          cases agg with
          | true =>
            refine⟨.agg ((l.drop off).take n),?_,.inl ⟨XI,_,rfl⟩,rfl⟩
            have:∀(l:List Cell) (k m:Nat),k+m<=l.length->pM l k m=some ((l.drop k).take m):=by
             have ht:∀(l:List Cell) (m:Nat),m<=l.length->oq l m=some (l.take m):=by
              intro l
              induction l with
              | nil=>intro m hm;simp at hm;subst hm;rfl
              | cons c l ih=>intro m hm;cases m with
                | zero=>rfl
                | succ m=>simp at hm;simp [oq,ih m hm]
             intro l
             induction l with
             | nil=>intro k m hm;simp at hm;obtain⟨rfl,rfl⟩:=hm;rfl
             | cons c l ih=>intro k m hm;cases k with
               | zero=>simp only [pM,List.drop_zero];exact ht _ _ (by simpa using hm)
               | succ k=>simp only [pM,List.drop_succ_cons];exact ih k m (by simp at hm;omega)
            simp [uu,this l off n hle]
          | false =>
            have h1:=XS hk1 XI
            have hn1:n=1:=by omega
            subst hn1
            have du:off < l.length:=by omega
            refine⟨.c l[off],?_,.inr ⟨XI,_,rfl⟩,?_⟩
            ·simp [uu,nth_eq,du]
            ·simp only [V1.cells];rw [List.drop_eq_getElem_cons du];rfl
         obtain⟨px,SC,hsx,hcx⟩:=key xs x1 (by omega)
         obtain⟨py,hpy,hsy,hcy⟩:=key ys y1 (by omega)
         have rx:=yK (ρ:=ρ) XI hn SC w
         have ry:=yK (ρ:=ρ) XI hn hpy w
         have tH:f.name ≠ "_" := by simpa using al8
         have e0:=ih f.type k1 px py hk1 hsx hsy (by rw [hcx,hlen];exact x1) (by rw [hcy,hlen];exact y1)
         have UO:∀l:List Cell,l.drop off=(l.drop off).take n++l.drop (off+n):=by
          intro l
          rw [<- List.drop_drop,agU]
         have arX:kB (aA ρ (xs.drop off)) (aA ρ (ys.drop off))=(kB (aA ρ px.cells) (aA ρ py.cells)&&kB (aA ρ (xs.drop (off+n))) (aA ρ (ys.drop (off+n)))):=by
          rw [UO xs,UO ys]
          simp only [aA,aen]
          rw [zC _ _ _ _ (by simp;omega)]
          rw [<- hcx,<- hcy]
         rw [List.forIn_cons]
         simp only [tH,ne_eq,not_false_eq_true,if_true,abA,Om,rx,ry,e0,abz]
         rw [arX]
         cases hb:kB (aA ρ px.cells) (aA ρ py.cells) with
         | false=>simp
         | true =>
           simp only [Bool.not_true,Bool.false_eq_true,if_false,abC,abz,Bool.true_and]
           exact abq
        ·cases h
theorem arrFs_eq (e:TypeId) (n:Nat):∀k i,Im e n k i=(List.range' i k).map (QU e n)
 | 0,_=>rfl
 | k+1,i=>by simp [Im,List.range'_succ,arrFs_eq e n k (i+1)]
theorem He {c:Cell} {k:IntKind} (h:y9 c=some (.int k)):∃n,∀ρ:Nm,c.aq ρ=.int k n:=by
 cases c<;>simp [y9] at h<;>subst h<;>exact⟨_,fun _=>rfl⟩
theorem HP {P:Program} {ρ:Nm} (w:World):∀(d D:Nat),d<=D->∀(t:TypeId) (ks:List FK) (x y:V1),oR P d t=some ks->vf P t x->vf P t y->fK ks x.cells=true->fK ks y.cells=true ->
 (Op.equalIn D t (x.aq ρ) (y.aq ρ)).run P w=.ok (kB (aA ρ x.cells) (aA ρ y.cells)) w
 | 0,_,_,_,_,_,_,h,_,_,_,_=>by cases h
 | d+1,0,hle,_,_,_,_,_,_,_,_,_=>by omega
 | d+1,D+1,hle,t,ks,x,y,h,sx,sy,kx,ky=>by
   have ih:=HP (ρ:=ρ) (P:=P) w d D (by omega)
   unfold oR at h
   have R0:∀{k:FK} {x:V1} (_:fB P t=some false) (_:vf P t x),fK [k] x.cells=true->∃c,x=.c c /\ y9 c=some k:=by
    intro k x ha hs hk
    rcases hs with⟨h1,_⟩ | ⟨_,c,rfl⟩
    ·rw [ha] at h1;cases h1
    ·refine⟨c,rfl,?_⟩
     simp only [V1.cells,fK] at hk
     cases h1:y9 c with
     | none=>simp [h1] at hk
     | some k' =>
       cases h2:decide (k=k') with
       | false=>simp [h1,h2] at hk
       | true=>exact congrArg some (aaV h2).symm
   cases hu:P.underlying t with
   | none=>simp [hu] at h
   | some u =>
     rw [Op.equalIn]
     cases u<;>simp only [hu] at h<;>(first | (cases h;done) | skip)
     case bool =>
      cases h
      have ha:fB P t=some false:=by simp [fB,hu]
      obtain⟨c,rfl,hc⟩:=R0 ha sx kx
      obtain⟨c',rfl,nC⟩:=R0 ha sy ky
      cases c<;>simp [y9] at hc<;>cases c'<;>simp [y9] at nC<;>simp [bJ hu,V1.aq,Cell.aq,V1.cells,aA,kB,vEq]
     case string =>
      cases h
      have ha:fB P t=some false:=by simp [fB,hu]
      obtain⟨c,rfl,hc⟩:=R0 ha sx kx
      obtain⟨c',rfl,nC⟩:=R0 ha sy ky
      cases c<;>simp [y9] at hc<;>cases c'<;>simp [y9] at nC<;>simp [bJ hu,V1.aq,Cell.aq,V1.cells,aA,kB,vEq]
     case int k =>
      cases h
      have ha:fB P t=some false:=by simp [fB,hu]
      obtain⟨c,rfl,hc⟩:=R0 ha sx kx
      obtain⟨c',rfl,nC⟩:=R0 ha sy ky
      obtain⟨n,e1⟩:=He hc
      obtain⟨n',e2⟩:=He nC
      simp [bJ hu,V1.aq,V1.cells,aA,kB,vEq,e1 ρ,e2 ρ]
     case struct fs =>
      have ha:fB P t=some true:=by simp [fB,hu]
      obtain⟨xs,rfl⟩:∃l,x=.agg l:=by
       rcases sx with⟨_,h⟩ | ⟨h1,_⟩
       ·exact h
       ·rw [ha] at h1;cases h1
      obtain⟨ys,rfl⟩:∃l,y=.agg l:=by
       rcases sy with⟨_,h⟩ | ⟨h1,_⟩
       ·exact h
       ·rw [ha] at h1;cases h1
      cases hs:P.stoodInHeld t with
      | true=>simp [hs] at h
      | false =>
        simp only [hs] at h
        have hl:=D4 (ρ:=ρ) xs ys w ih fs.toList 0 ks (adr _) (adr _) h (by simpa [V1.cells] using kx) (by simpa [V1.cells] using ky)
        simp only [abA,bJ hu,abz,program,Sem.run,hs,Bool.false_eq_true,if_false,V1.aq]
        rw [<- Array.forIn_toList,hl]
        simp only [V1.cells,List.drop_zero,abz]
        cases kB (aA ρ xs) (aA ρ ys)<;>simp
     case array len e =>
      have ha:fB P t=some true:=by simp [fB,hu]
      obtain⟨xs,rfl⟩:∃l,x=.agg l:=by
       rcases sx with⟨_,h⟩ | ⟨h1,_⟩
       ·exact h
       ·rw [ha] at h1;cases h1
      obtain⟨ys,rfl⟩:∃l,y=.agg l:=by
       rcases sy with⟨_,h⟩ | ⟨h1,_⟩
       ·exact h
       ·rw [ha] at h1;cases h1
      cases hs:n6 P e with
      | none=>simp [hs] at h
      | some n =>
        simp only [hs] at h
        have hl:=D4 (ρ:=ρ) xs ys w ih (Im e n len 0) 0 ks (adr _) (adr _) h (by simpa [V1.cells] using kx) (by simpa [V1.cells] using ky)
        rw [arrFs_eq,List.forIn_map] at hl
        simp only [QU,show ("x" : String) ≠ "_" from by decide,ne_eq,not_false_eq_true,if_true] at hl
        simp only [abA,bJ hu,abz,dD hs w,V1.aq]
        simp only [Std.Legacy.Range.forIn_eq_forIn_range',Std.Legacy.Range.size,Nat.sub_zero,Nat.add_one_sub_one,Nat.div_one]
        rw [hl]
        simp only [V1.cells,List.drop_zero,abz]
        cases kB (aA ρ xs) (aA ρ ys)<;>simp
