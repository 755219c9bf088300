import Derived.Test.YtadmfaohjnjajaaGreatDoorSxA
set_option linter.unusedVariables false
set_option linter.unusedSimpArgs false
set_option maxHeartbeats 0
set_option maxRecDepth 100000
namespace Go.Sx
section
section lists
variable {AV:Type}
theorem nth_eq {α:Type}:∀(l:List α) (n:Nat),yQ l n=l[n]?
 | [],_=>by simp [yQ]
 | _::_,0=>by simp [yQ]
 | _::r,n+1=>by simp [yQ,nth_eq r n]
theorem hget_eq:∀(H:Hp AV) (n:Nat),af H n=(H[n]?).bind id
 | [],_=>by simp [af]
 | _::_,0=>by simp [af]
 | _::r,n+1=>by simp [af,hget_eq r n]
theorem b7 {H:Hp AV} {n:Nat} {c:aK AV} (h:af H n=some c):n < H.length:=by
 rw [hget_eq] at h;rcases Nat.lt_or_ge n H.length with h' | h'
 ·exact h'
 ·simp [List.getElem?_eq_none h'] at h
theorem lset_eq {α:Type}:∀(l:List α) (n:Nat) (y:α),de l n y=l.set n y
 | [],_,_=>by simp [de]
 | _::_,0,_=>by simp [de]
 | _::r,n+1,y=>by simp [de,lset_eq r n y]
theorem cG {H:Hp AV} {n:Nat} (c:aK AV) (h:n < H.length):af (de H n (some c)) n=some c:=by simp [hget_eq,lset_eq,h]
theorem bz {H:Hp AV} {n m:Nat} (x:Option (aK AV)) (h:n≠m):af (de H n x) m=af H m:=by simp [hget_eq,lset_eq,List.getElem?_set_ne h]
theorem eB {α:Type} (l:List α) (n:Nat) (y:α):(de l n y).length=l.length:=by simp [lset_eq]
theorem H5:∀n,(kV AV n).length=n
 | 0=>rfl
 | n+1=>by simp [kV,H5 n]
theorem PX (H:Hp AV) (k n:Nat):af (H++kV AV k) n=af H n:=by
 rw [hget_eq,hget_eq];rcases Nat.lt_or_ge n H.length with h | h
 ·rw [acM h]
 ·rw [acR h,List.getElem?_eq_none h];have:∀(k m:Nat),((kV AV k)[m]?).bind id=none:=by
   intro k;induction k with
   | zero=>intro m;simp [kV]
   | succ k ih=>intro m;cases m with
     | zero=>simp [kV]
     | succ m=>simp [kV,ih m]
  rw [this];rfl
theorem aG (a b:Nat):Nat.beq a b=true↔a=b:=⟨Nat.eq_of_beq_eq_true,fun h=>by subst h;exact afQ a⟩
theorem bT (a b:Nat):Nat.beq a b=false↔a≠b:=by rw [<- Bool.not_eq_true,aG]
theorem fT (a b:Nat):Nat.blt a b=true↔a < b:=by unfold Nat.blt;rw [Nat.ble_eq];omega
theorem jM (a b:Nat):Nat.blt a b=false↔¬a < b:=by rw [<- Bool.not_eq_true,fT]
end lists
section ay
theorem cg {ρ ρ':Nm}:∀(c:Cell),(∀n,c.name=some n->ρ'.L n=ρ.L n)->c.ay ρ'=c.ay ρ
 | .ptr n _,h=>by simp [Cell.ay,Nm.f,h n rfl]
 | .DN n _ _ _,h=>by simp [Cell.ay,Nm.f,h n rfl]
 | .sl n _ _ _,h=>by simp [Cell.ay,Nm.f,h n rfl]
 | .vs n _ _ _ _,h=>by simp [Cell.ay,h n rfl]
 | .sf n _ _ _ _ _,h=>by simp [Cell.ay,h n rfl]
 | .xP t c,h=>by simp only [Cell.ay];rw [cg c h]
 | .bl _,_=>rfl
 | .bt _,_=>rfl
 | .il _ _,_=>rfl
 | .it _ _,_=>rfl
 | .iv _ _ _ _,_=>rfl
 | .ir _ _ _ _ _,_=>rfl
 | .st _,_=>rfl
 | .sv _,_=>rfl
 | .jj,_=>rfl
 | .dP,_=>rfl
 | .sx _ _,_=>rfl
 | .fL,_=>rfl
 | .fn _,_=>rfl
 | .nfn,_=>rfl
 | .op _ _,_=>rfl
 | .mp none,_=>rfl
 | .mp (some n),h=>by simp [Cell.ay,Nm.f,h n rfl]
theorem Ab (ρ:Nm):∀c:Cell,(c.ay ρ).oneCell'=true
 | .ptr _ _=>rfl
 | .DN _ _ _ _=>rfl
 | .sl _ _ _ _=>rfl
 | .vs _ _ _ _ _=>by simp only [Cell.ay,cH];split<;>rfl
 | .sf _ _ _ _ _ _=>by simp only [Cell.ay,cH];split<;>rfl
 | .xP _ _=>rfl
 | .bl _=>rfl
 | .bt _=>rfl
 | .il _ _=>rfl
 | .it _ _=>rfl
 | .iv _ _ _ _=>rfl
 | .ir _ _ _ _ _=>rfl
 | .st _=>rfl
 | .sv _=>rfl
 | .jj=>rfl
 | .dP=>rfl
 | .sx _ _=>rfl
 | .fL=>rfl
 | .fn _=>rfl
 | .nfn=>rfl
 | .op _ _=>rfl
 | .mp _=>rfl
theorem nY (ρ:Nm) (c:Cell):(c.ay ρ).cells=#[c.ay ρ]:=by
 cases c with
 | vs _ _ _ _ _=>simp only [Cell.ay,cH];split<;>rfl
 | sf _ _ _ _ _ _=>simp only [Cell.ay,cH];split<;>rfl
 | _=>rfl
theorem V1.nY (ρ:Nm) (x:V1):(x.ay ρ).cells.toList=aF ρ x.cells:=by
 cases x with
 | c x=>simp [V1.ay,V1.cells,Sx.nY,aF]
 | agg l=>simp [V1.ay,V1.cells,Value.cells]
theorem Cg (ρ:Nm) {v:Value} {c:Cell} (h:Cell.ofValue v=some c):c.ay ρ=v /\ c.name=none:=by
 unfold Cell.ofValue at h;split at h<;>first
  | (cases h;exact⟨rfl,rfl⟩)
  | cases h
theorem mM (ρ:Nm):∀{vs:List Value} {l:List Cell},mN vs=some l->aF ρ l=vs /\ ∀c∈l,c.name=none
 | [],l,h=>by cases h;simp [aF]
 | v::r,l,h=>by
   simp only [mN] at h;cases hv:Cell.ofValue v with
   | none=>simp [hv] at h
   | some c =>
     cases hr:mN r with
     | none=>simp [hv,hr] at h
     | some l' =>
       simp only [hv,hr,aaf] at h;subst h;have ih:=mM ρ hr;have hc:=Cg ρ hv;refine⟨by simp [aF,hc.1];exact ih.1,fun x hx=>?_⟩;rcases aaO.1 hx with rfl | hx
       ·exact hc.2
       ·exact ih.2 x hx
end ay
section acq
variable {AV:Type} (N:eI AV)
def aK.fp (ρ:Nm) (n:Nat):aK AV->Nat->Prop
 | .cells _ _=>fun k=>k=ρ n
 | .oB _ _ _=>ρ.S n
 | .kN=>fun _=>False
 | .bN _=>ρ.S n
def aK.q (ρ:Nm) (n:Nat) (w:World):aK AV->Prop
 | .cells l ty=>w.heap[ρ n]?=some (.cells (aF ρ l).toArray ty (0,0))
 | .oB l es ty=>ng (ρ.L n) (ρ.S n) (aF ρ l) es ty w
 | .kN=>True
 | .bN a=>N.F.q a (ρ.L n) (ρ.S n) w
def aK.cellsOf:aK AV->List Cell
 | .cells l _=>l
 | .oB l _ _=>l
 | .kN=>[]
 | .bN _=>[]
theorem AA {l:m9} {S:Nat->Prop} {cs:List Value} {es:Nat} {ty:TypeId} {w w':World} (h:ng l S cs es ty w) (hk:∀k,S k->w'.heap[k]?=w.heap[k]?):ng l S cs es ty w':=by
 rcases h with h | ⟨h1,h2,row,h3,h4⟩
 ·exact .inl h
 ·exact .inr ⟨h1,h2,row,by rw [hk l.b ((h2 _).2 rfl)];exact h3,h4⟩
def ap4 (ρ:Nm) (H:Hp AV) (w:World):Prop:=(∀k o,N.F.R k=some o->w.heap[k]?=some o) /\ ∀n c k,af H n=some c->c.fp ρ n k->N.F.R k=none
structure aaH (ρ:Nm) (H:Hp AV) (w:World):Prop where
 q:∀n c,af H n=some c->c.q N ρ n w
 qR:∀n m c d,n≠m->af H n=some c->af H m=some d->∀k,c.fp ρ n k->d.fp ρ m k->False
 rU:∀g,g < N.G->ρ g=g
structure gF (ρ:Nm) (H:Hp AV) (w:World):Prop extends aaH N ρ H w where
 ro:ap4 N ρ H w
def ClC (H:Hp AV) (c:Cell):Prop:=∀n,c.name=some n->∃x,af H n=some x
def oy (H:Hp AV) (l:List Cell):Prop:=∀c∈l,ClC H c
def jY (H:Hp AV) (x:V1):Prop:=oy H x.cells
def gf (H:Hp AV):SV->Prop
 | .v x=>jY H x
 | .iW l=>∀x∈l,jY H x
 | .lU=>True
 | .xz _ l=>oy H l
structure bO (_N:eI AV) (s:St AV):Prop where
 E:∀k,gf s.H (aJ s.E k)
 H:∀n x,af s.H n=some x->oy s.H x.cellsOf
structure EM (ρ:Nm) (nt:Nat) (E:Ev) (a:Act):Prop where
 size:a.tmps.size=nt
 get:∀k,aJ E k≠.lU->a.tmps.getD k undef=(aJ E k).ay ρ
structure lj (_N:eI AV) (L:Nat) (ρ:Nm) (H:Hp AV) (w:World) (ρ':Nm) (H':Hp AV) (w':World):Prop where
 dC:∀n c,af H n=some c->∃c',af H' n=some c'
 kF:∀n c,af H n=some c->ρ'.L n=ρ.L n
 H6:∀n,n < L->af H n=none->af H' n=none
 len:H.length<=H'.length
 mW:∀k,k < w.heap.size->(∀n c,af H n=some c->¬c.fp ρ n k)->w'.heap[k]?=w.heap[k]?
 new:∀n c k,af H' n=some c->c.fp ρ' n k->w.heap.size<=k \/ ∃m d,af H m=some d /\ d.fp ρ m k
 os:w'.os=w.os
 tape:w'.tape=w.tape
 output:w'.output=w.output
 size:w.heap.size<=w'.heap.size
variable {N}
theorem lj.refl (L:Nat) (ρ:Nm) (H:Hp AV) (w:World):lj N L ρ H w ρ H w :=
 ⟨fun _ c h=>⟨c,h⟩,fun _ _ _=>rfl,fun _ _ h=>h,ab4 _,fun _ _ _=>rfl,fun n c _ h hk=>.inr ⟨n,c,h,hk⟩,rfl,rfl,rfl,ab4 _⟩
theorem lj.trans {L:Nat} {ρ ρ₁ ρ₂:Nm} {H H₁ H₂:Hp AV} {w w₁ w₂:World} (h:lj N L ρ H w ρ₁ H₁ w₁) (k:lj N L ρ₁ H₁ w₁ ρ₂ H₂ w₂):lj N L ρ H w ρ₂ H₂ w₂ where
 dC n c hc:=let ⟨c',oU⟩:=h.dC n c hc;k.dC n c' oU
 kF n c hc:=let ⟨c',oU⟩:=h.dC n c hc;(k.kF n c' oU).trans (h.kF n c hc)
 H6 n hn hc:=k.H6 n hn (h.H6 n hn hc)
 len:=abz h.len k.len
 mW i hi hn:=by
  rw [k.mW i (Nat.lt_of_lt_of_le hi h.size) ?_,h.mW i hi hn];intro n c hc hk;rcases h.new n c i hc hk with h1 | ⟨m,d,hd,eh⟩
  ·omega
  ·exact hn m d hd eh
 new n c i hc hk:=by
  rcases k.new n c i hc hk with h1 | ⟨m,d,hd,eh⟩
  ·exact .inl (abz h.size h1)
  ·exact h.new m d i hd eh
 os:=k.os.trans h.os
 tape:=k.tape.trans h.tape
 output:=k.output.trans h.output
 size:=abz h.size k.size
theorem lj.drew {L:Nat} {ρ ρ':Nm} {H H':Hp AV} {w w':World} (h:lj N L ρ H w.drew ρ' H' w'):lj N L ρ H w ρ' H' w' :=
 ⟨h.dC,h.kF,h.H6,h.len,h.mW,h.new,h.os,h.tape,h.output,h.size⟩
theorem lj.apG {L:Nat} {ρ ρ':Nm} {H H':Hp AV} {w w':World} (h:lj N L ρ H w ρ' H' w'):lj N L ρ H w ρ' H' w'.drew :=
 ⟨h.dC,h.kF,h.H6,h.len,h.mW,h.new,h.os,h.tape,h.output,h.size⟩
theorem gF.drew {ρ:Nm} {H:Hp AV} {w:World} (h:gF N ρ H w):gF N ρ H w.drew where
 q n c hc:=by
   have:=h.q n c hc;cases c with
   | cells l ty=>exact this
   | oB l es ty=>exact AA this (fun _ _=>rfl)
   | kN=>trivial
   | bN a=>exact N.F.loc a (ρ.L n) (ρ.S n) w w.drew (fun _ _=>rfl) this
 qR:=h.qR
 rU:=h.rU
 ro:=h.ro
theorem gF.xC {L:Nat} {ρ ρ':Nm} {H H':Hp AV} {w w':World} (hO:gF N ρ H w) (h:aaH N ρ' H' w') (hE:lj N L ρ H w ρ' H' w'):gF N ρ' H' w':=by
 have lt:∀k o,N.F.R k=some o->k < w.heap.size:=fun k o h=>(ada.1 (hO.ro.1 k o h)).1;refine⟨h,fun k o hk=>?_,fun n c k hc hk=>?_⟩
 ·rw [hE.mW k (lt k o hk) fun n c hc hf=>(by rw [hO.ro.2 n c k hc hf] at hk;cases hk)];exact hO.ro.1 k o hk
 ·rcases hE.new n c k hc hk with h1 | ⟨m,d,hd,eh⟩
  ·cases hr:N.F.R k with
   | none=>rfl
   | some o=>have:=lt k o hr;omega
  ·exact hO.ro.2 m d k hd eh
theorem gF.up2 {L:Nat} {ρ ρ':Nm} {H H':Hp AV} {w w':World} (hO:gF N ρ H w) (h:aaH N ρ' H' w' /\ lj N L ρ H w ρ' H' w'):gF N ρ' H' w' /\ lj N L ρ H w ρ' H' w':=⟨hO.xC h.1 h.2,h.2⟩
theorem gF.up3 {L:Nat} {ρ ρ':Nm} {H H':Hp AV} {w w':World} {X:Prop} (hO:gF N ρ H w) (h:aaH N ρ' H' w' /\ lj N L ρ H w ρ' H' w' /\ X):gF N ρ' H' w' /\ lj N L ρ H w ρ' H' w' /\ X:=⟨hO.xC h.1 h.2.1,h.2⟩
theorem gF.sub {ρ ρ':Nm} {H H':Hp AV} {w:World} (hO:gF N ρ H w) (h:aaH N ρ' H' w) (hf:∀n c k,af H' n=some c->c.fp ρ' n k->∃m d,af H m=some d /\ d.fp ρ m k):gF N ρ' H' w :=
 ⟨h,hO.ro.1,fun n c k hc hk=>let ⟨m,d,hd,eh⟩:=hf n c k hc hk;hO.ro.2 m d k hd eh⟩
theorem ad6 {H:Hp AV} {c:Cell}:clC H c=true↔ClC H c:=by
 unfold clC ClC;cases hn:c.name with
 | none=>simp
 | some n =>
   cases hh:af H n with
   | none=>simp [cL,hh]
   | some x=>simp [cL,hh]
theorem N9 {H:Hp AV}:∀{l:List Nat},Z3 H l=true↔∀n∈l,∃c,af H n=some c
 | []=>by simp [Z3]
 | n::r=>by
   have:=@N9 H r;simp only [Z3,List.forall_mem_cons];cases hh:af H n with
   | none=>simp [cL]
   | some x=>simp [cL,this]
theorem yo {n:Nat}:∀{l:List Cell},n∈eR l↔∃c∈l,c.name=some n
 | []=>by simp [eR]
 | c::r=>by
   have:=@yo n r;cases hc:c.name with
   | none=>simp [eR,hc,this]
   | some m =>
     simp only [eR,hc,aaO,this,exists_eq_or_imp,aaf];constructor
     ·rintro (rfl | h)
      ·exact .inl rfl
      ·exact .inr h
     ·rintro (rfl | h)
      ·exact .inl rfl
      ·exact .inr h
theorem DG {H:Hp AV} {l:List Cell}:clL H l=true↔oy H l:=by
 unfold clL;rw [N9];unfold oy ClC;constructor
 ·intro h c hc n hn;exact h n (yo.2 ⟨c,hc,hn⟩)
 ·intro h n hn;obtain⟨c,hc,hcn⟩:=yo.1 hn;exact h c hc n hcn
theorem N8 {H:Hp AV} {x:V1}:US H x=true↔jY H x:=by
 cases x with
 | c x=>simp [US,jY,V1.cells,oy,ad6]
 | agg l=>simp [US,jY,V1.cells,DG]
theorem Jf {H:Hp AV}:∀{l:List V1},N7 H l=true↔∀x∈l,jY H x
 | []=>by simp [N7]
 | c::r=>by have:=@Jf H r;have hc:=@N8 AV H c;simp only [N7,List.forall_mem_cons];cases h:US H c<;>simp_all
theorem xh {H:Hp AV} {v:SV}:SD H v=true↔gf H v:=by
 cases v with
 | v x=>simp [SD,gf,N8]
 | iW l=>simp [SD,gf,Jf]
 | lU=>simp [SD,gf]
 | xz f l=>simp [SD,gf,DG]
theorem qx {H:Hp AV}:∀{l:List SV},BP H l=true↔∀x∈l,gf H x
 | []=>by simp [BP]
 | c::r=>by have:=@qx H r;have hc:=@xh AV H c;simp only [BP,List.forall_mem_cons];cases h:SD H c<;>simp_all
theorem Oa {H:Hp AV} {c:aK AV}:Z4 H c=true↔oy H c.cellsOf:=by
 cases c with
 | cells l t=>exact DG
 | oB l e t=>exact DG
 | kN=>simp [Z4,aK.cellsOf,oy]
 | bN a=>simp [Z4,aK.cellsOf,oy]
theorem jH {H:Hp AV}:∀{l:Hp AV},qy H l=true↔∀n x,af l n=some x->oy H x.cellsOf
 | []=>by simp [qy,af]
 | none::r=>by
   rw [qy,jH];constructor
   ·intro h n x hc;cases n with
    | zero=>simp [af] at hc
    | succ n=>exact h n x hc
   ·intro h n x hc;exact h (n+1) x hc
 | some c::r=>by
   have ih:=@jH H r;simp only [qy];cases hl:Z4 H c with
   | false =>simp only [Bool.false_eq_true,false_iff];intro h;have:=Oa.2 (h 0 c rfl);rw [hl] at this;cases this
   | true =>
     simp only;rw [ih];constructor
     ·intro h n x hc;cases n with
      | zero=>simp only [af,aaf] at hc;subst hc;exact Oa.1 hl
      | succ n=>exact h n x hc
     ·intro h n x hc;exact h (n+1) x hc
theorem eV {ρ ρ':Nm} {H:Hp AV} {l:List Cell} (hc:oy H l) (ha:∀n c,af H n=some c->ρ'.L n=ρ.L n):aF ρ' l=aF ρ l:=by unfold aF;apply adb;intro c hm;exact cg c fun n hn=>let ⟨x,hx⟩:=hc c hm n hn;ha n x hx
theorem V1.cg {ρ ρ':Nm} {H:Hp AV} {x:V1} (hc:jY H x) (ha:∀n c,af H n=some c->ρ'.L n=ρ.L n):x.ay ρ'=x.ay ρ:=by
 cases x with
 | c x =>have:=Sx.eV (l:=[x]) hc ha;simpa [aF,V1.ay] using this
 | agg l=>simp only [V1.ay];rw [Sx.eV (l:=l) hc ha]
theorem SV.cg {ρ ρ':Nm} {H:Hp AV} {v:SV} (hc:gf H v) (ha:∀n c,af H n=some c->ρ'.L n=ρ.L n):v.ay ρ'=v.ay ρ:=by
 cases v with
 | v x=>exact V1.cg hc ha
 | iW l =>simp only [SV.ay];congr 2;apply adb;intro x hx;exact V1.cg (hc x hx) ha
 | lU=>rfl
 | xz f l=>simp only [SV.ay];rw [Sx.eV (l:=l) hc ha]
theorem oy.mono {H H':Hp AV} {l:List Cell} (h:oy H l) (hp:∀n c,af H n=some c->∃c',af H' n=some c'):oy H' l :=
 fun c hc n hn=>let ⟨x,hx⟩:=h c hc n hn;hp n x hx
theorem jY.mono {H H':Hp AV} {x:V1} (h:jY H x) (hp:∀n c,af H n=some c->∃c',af H' n=some c'):jY H' x:=oy.mono h hp
theorem gf.mono {H H':Hp AV} {v:SV} (h:gf H v) (hp:∀n c,af H n=some c->∃c',af H' n=some c'):gf H' v:=by
 cases v with
 | v x=>exact jY.mono h hp
 | iW l=>exact fun x hx=>jY.mono (h x hx) hp
 | lU=>trivial
 | xz f l=>exact oy.mono h hp
end acq
end
section
section arA
def Tr.All {α:Type} (q:Nat->α->Prop):Tr α->(Nat->Nat)->Prop
 | .lf,_=>True
 | .nd x l r,f=>(∀a,x=some a->q (f 0) a) /\ Tr.All q l (fun n=>f (2 * n+1)) /\ Tr.All q r (fun n=>f (2 * n+2))
theorem Tr.Gv {α:Type} {q:Nat->α->Prop}:∀{t:Tr α} {f:Nat->Nat},Tr.All q t f->∀n a,t.get n=some a->q (f n) a
 | .lf,_,_,n,a,h=>by simp [Tr.get] at h
 | .nd x l r,f,CT,n,a,h=>by
   simp only [Tr.get] at h;split at h
   ·rename_i h0;obtain rfl:=(Nat.eq_of_beq_eq_true h0);exact CT.1 a h
   ·rename_i h0;have hn:n≠0:=fun e=>by subst e;simp at h0
    split at h
    ·rename_i h1;have h1:=Nat.eq_of_beq_eq_true h1;have:=Tr.Gv CT.2.1 _ a h;rw [show 2 * (n / 2)+1=n from by omega] at this;exact this
    ·rename_i h1;have h1:n % 2≠1:=fun e=>by rw [e] at h1;simp at h1
     have:=Tr.Gv CT.2.2 _ a h;rw [show 2 * ((n - 1) / 2)+2=n from by omega] at this;exact this
theorem Tr.KR {α:Type} {q:Nat->α->Prop} {t:Tr α} (h:Tr.All q t (fun n=>n)) (n:Nat) (a:α) (hg:t.get n=some a):q n a:=Tr.Gv h n a hg
end arA
section tables
variable {AV:Type}
structure fN (P:Program) (N:eI AV):Prop where
 ty:∀t i,N.tt.get t=some i->T4 P t=some i
 fn:∀f g,N.ft.get f=some g->P.funcs[f]?=some g /\ g.body.isSome=true /\ (g.name == "runtime.NumGoroutine")=false
 mix:P.follows .mixedOrders=true
 sl:∀t si,N.sl.get t=some si->zy P t=some si
 mt:∀t m g,N.mt t m=some g->∀(v:Value) (w:World),(Go.method (P.types.size+Made.depth) t v m).run P w=.ok (g,v) w
theorem tC {P:Program} {t:TypeId} {i:TI} (h:T4 P t=some i):∃inf,P.info? t=some inf /\ Bp P t=some i.kd /\ i.size=inf.size /\
 i.zero=(match inf.zero with | some v=>mN v.cells.toList | none=>none) /\
 i.apd=(match P.eqGuardType P.depth t with | true=>none | false=>pw P 12 t):=by
 unfold T4 at h;split at h
 ·rename_i inf k h1 h2;cases h;exact⟨inf,h1,h2,rfl,rfl,rfl⟩
 ·cases h
theorem Bn {P:Program} {t:TypeId} {fs:List cO} (h:Bp P t=some (.struct fs)):∃a,P.underlying t=some (.struct a) /\ KB P a.toList=some fs:=by
 unfold Bp at h;cases hu:P.underlying t with
 | none=>simp [hu] at h
 | some d=>cases d<;>simp only [hu] at h<;>(first | (cases h;done) | skip)<;>(split at h<;>(first | (cases h;done) | skip))<;>(cases h;exact⟨_,rfl,by assumption⟩)
theorem acP {P:Program} {t:TypeId} {k:Kd} (h:Bp P t=some k):∃d,P.underlying t=some d:=by
 unfold Bp at h;cases hu:P.underlying t with
 | none=>rw [hu] at h;cases h
 | some d=>exact⟨d,rfl⟩
theorem aiy {P:Program} {t:TypeId} {k:IntKind} (h:Bp P t=some (.int k)):P.underlying t=some (.int k):=by unfold Bp at h;split at h<;>(try split at h)<;>simp_all
theorem Ft {P:Program} {t:TypeId} (h:Bp P t=some .OW):P.underlying t=some .string:=by unfold Bp at h;split at h<;>(try split at h)<;>simp_all
theorem oO {P:Program} {t:TypeId} {n:Nat} (h:Bp P t=some (.slice n)):∃e,P.underlying t=some (.slice e) /\ oD P e=some n:=by
 unfold Bp at h;cases hu:P.underlying t with
 | none=>simp [hu] at h
 | some d=>cases d<;>simp only [hu] at h<;>(first | (cases h;done) | skip)<;>(split at h<;>(first | (cases h;done) | skip))<;>(cases h;exact⟨_,rfl,by assumption⟩)
theorem Bo {P:Program} {t:TypeId} {len n:Nat} {ag:Bool} (h:Bp P t=some (.gb len n ag)):∃e,P.underlying t=some (.array len e) /\ oD P e=some n /\ fI P e=some ag:=by
 unfold Bp at h;cases hu:P.underlying t with
 | none=>simp [hu] at h
 | some d=>cases d<;>simp only [hu] at h<;>(first | (cases h;done) | skip)<;>(split at h<;>(first | (cases h;done) | skip))<;>(cases h;exact⟨_,rfl,by assumption,by assumption⟩)
theorem acQ {P:Program} {t:TypeId} (h:Bp P t=some .bool):P.underlying t=some .bool:=by
 unfold Bp at h;cases hu:P.underlying t with
 | none=>simp [hu] at h
 | some d=>cases d<;>simp only [hu] at h<;>(first | rfl | (cases h;done) | (split at h<;>cases h))
theorem aix {P:Program} {t:TypeId} (h:Bp P t=some .ptr):∃e,P.underlying t=some (.pointer e):=by
 unfold Bp at h;cases hu:P.underlying t with
 | none=>simp [hu] at h
 | some d=>cases d<;>simp only [hu] at h<;>(first | exact⟨_,rfl⟩ | (cases h;done) | (split at h<;>cases h))
theorem YD {P:Program} {t:TypeId} (h:Bp P t=some .iface):∃e,P.underlying t=some (.interface e):=by
 unfold Bp at h;cases hu:P.underlying t with
 | none=>simp [hu] at h
 | some d=>cases d<;>simp only [hu] at h<;>(first | exact⟨_,rfl⟩ | (cases h;done) | (split at h<;>cases h))
theorem Ki {P:Program} {t:TypeId} {k:Kd} (h:Bp P t=some k) (hk:k≠.iface):∃d,P.underlying t=some d /\ ∀ms,d≠.interface ms:=by
 unfold Bp at h;cases hu:P.underlying t with
 | none=>simp [hu] at h
 | some d =>refine⟨d,rfl,fun ms he=>?_⟩;subst he;simp only [hu] at h;cases h;exact hk rfl
theorem Ui {P:Program} {t:TypeId} {k:Kd} (h:Bp P t=some k) (w:World):(isAgg t).run P w=.ok (vA k) w:=by
 unfold Bp at h;unfold isAgg;cases hu:P.underlying t with
 | none=>simp [hu] at h
 | some d=>cases d<;>simp only [hu] at h<;>(first | (cases h;simp [underlying,program,Sem.run,hu,vA];done) | (split at h<;>(first | (cases h;done) | (cases h;simp [underlying,program,Sem.run,hu,vA]))))
theorem dJ {P:Program} {t:TypeId} {n:Nat} (h:oD P t=some n) (w:World):(sizeOf t).run P w=.ok n w:=by unfold oD at h;split at h<;>simp_all [sizeOf,typeInfo,program,Sem.run]
theorem bP {P:Program} {t:TypeId} {d:TypeDesc} (h:P.underlying t=some d) (w:World):(underlying t).run P w=.ok d w:=by simp [underlying,program,Sem.run,h]
theorem WK {P:Program} {t:TypeId} {inf:TypeInfo} (h:P.info? t=some inf):oD P t=some inf.size:=by simp [oD,h]
theorem On {P:Program} {t:TypeId} {b:Bool} (h:fI P t=some b) (w:World):(isAgg t).run P w=.ok b w:=by
 unfold fI at h;unfold isAgg;cases hu:P.underlying t with
 | none=>simp [hu] at h
 | some d=>cases d<;>simp only [hu] at h<;>(cases h;simp [underlying,program,Sem.run,hu])
end tables
section sub
theorem ltake_eq:∀{l:List Cell} {n:Nat} {r:List Cell},oM l n=some r->r=l.take n /\ n<=l.length
 | _,0,r,h=>by simp [oM] at h;simp [<- h]
 | [],_+1,_,h=>by simp [oM] at h
 | x::l,n+1,r,h=>by
   simp only [oM] at h;cases hl:oM l n with
   | none=>simp [hl] at h
   | some q =>simp only [hl,aaf] at h;have:=ltake_eq hl;subst h;simp [this.1,this.2]
theorem lsub_eq:∀{l:List Cell} {k n:Nat} {r:List Cell},qg l k n=some r->r=(l.drop k).take n /\ k+n<=l.length
 | l,0,n,r,h=>by cases l<;>simp only [qg] at h<;>(have:=ltake_eq h;simpa using this)
 | [],_+1,_,_,h=>by simp [qg] at h
 | _::l,k+1,n,r,h=>by simp only [qg] at h;have:=lsub_eq h;simp;exact⟨this.1,by omega⟩
theorem lput_eq:∀{l:List Cell} {k:Nat} {ys r:List Cell},mB l k ys=some r->r=l.take k++ys++l.drop (k+ys.length) /\ k+ys.length<=l.length
 | l,0,[],r,h=>by cases l<;>simp [mB] at h<;>simp [<- h]
 | [],0,_::_,_,h=>by simp [mB] at h
 | x::l,0,y::ys,r,h=>by
   simp only [mB] at h;cases hl:mB l 0 ys with
   | none=>simp [hl] at h
   | some q =>simp only [hl,aaf] at h;have:=lput_eq hl;subst h;simp at this ⊢;exact⟨this.1,this.2⟩
 | [],_+1,ys,_,h=>by cases ys<;>simp [mB] at h
 | x::l,n+1,ys,r,h=>by
   cases hl:mB l n ys with
   | none=>cases ys<;>simp [mB,hl] at h
   | some q =>
     have h':x::q=r:=by cases ys<;>simpa [mB,hl] using h
     have:=lput_eq hl;subst h';refine⟨?_,by simp;omega⟩;rw [this.1];simp [Nat.succ_add]
theorem eC (ρ:Nm) (l:List Cell):(aF ρ l).length=l.length:=by simp [aF]
end sub
section evs
variable {AV:Type}
structure Hf (ρ:Nm) (H:Hp AV) (ev:Operand->Option SV) (e:Operand->Value):Prop where
 ay:∀x v,ev x=some v->e x=v.ay ρ
 cl:∀x v,ev x=some v->gf H v
theorem Jc {ρ:Nm} {H:Hp AV} {c:Value} {v:SV} (h:Qk c=some v):c=v.ay ρ /\ gf H v:=by
 unfold Qk at h;split at h
 ·rename_i cs;cases hl:mN cs.toList with
  | none=>simp [hl] at h
  | some l =>simp only [hl,aaf] at h;subst h;have:=mM ρ hl;refine⟨by simp [SV.ay,V1.ay,this.1],fun c hc n hn=>?_⟩;rw [this.2 c hc] at hn;cases hn
 ·cases hc:Cell.ofValue c with
  | none=>simp [hc] at h
  | some x =>simp only [hc,aaf] at h;subst h;have:=Cg ρ hc;refine⟨by simp [SV.ay,V1.ay,this.1],fun c hc n hn=>?_⟩;simp [V1.cells] at hc;subst hc;rw [this.2] at hn;cases hn
theorem iT {H:Hp AV} {l:List Cell} (h:∀c∈l,c.name=none):oy H l:=fun c hc n hn=>by rw [h c hc] at hn;cases hn
theorem gq {H:Hp AV} {c:Cell} (h:c.name=none):gf H (.v (.c c)):=iT (by simp [V1.cells,h])
theorem yF {N:eI AV} {s:St AV} (hc:bO N s) {x:Operand} {v:SV} (h:rP N.G s.H s.E x=some v):gf s.H v:=by
 cases x with
 | tmp t =>
   simp only [rP] at h;have:=hc.E t;split at h
   ·cases h
   ·cases h;exact this
 | const c=>exact(Jc (ρ:=Nm.id) (H:=s.H) h).2
 | global g =>
   simp only [rP] at h;split at h
   ·rename_i c _ hg;cases h;intro c' oU n hn;simp [V1.cells] at oU;subst oU;simp [Cell.name] at hn;subst hn;exact⟨c,hg⟩
   ·cases h
 | func f=>simp only [rP,aaf] at h;subst h;exact gq rfl
theorem jx {N:eI AV} {ρ:Nm} {nt:Nat} {s:St AV} {a:Act} (hE:EM ρ nt s.E a) (hc:bO N s) (hg:∀g,g < N.G->ρ g=g):Hf ρ s.H (rP N.G s.H s.E) a.eval where
 ay x v h:=by
  cases x with
  | tmp t =>
    simp only [rP] at h;split at h
    ·cases h
    ·rename_i dE;cases h;exact hE.get t (fun e=>dE e)
  | const c=>exact(Jc (ρ:=ρ) (H:=s.H) h).1
  | global g =>
    simp only [rP] at h;split at h
    ·rename_i hlt _;cases h;simp [Act.eval,SV.ay,V1.ay,Cell.ay,hg g ((fT _ _).1 hlt)]
    ·cases h
  | func f=>simp only [rP,aaf] at h;subst h;rfl
 cl x v h:=yF hc h
theorem tD (ρ:Nm) (b k:Bool):(RG b k).ay ρ=.bool b:=by cases k<;>rfl
theorem zz (ρ:Nm) (q:IntKind) (n:Int) (k:Bool):(K4 q n k).ay ρ=.int q n:=by cases k<;>rfl
theorem Bh {H:Hp AV} (b k:Bool):jY H (RG b k):=by cases k<;>exact gq rfl
theorem Kc {H:Hp AV} (q:IntKind) (n:Int) (k:Bool):jY H (K4 q n k):=by cases k<;>exact gq rfl
theorem ZV {H:Hp AV} (k:IntKind) (c:Cell) (n:Int) (lit:Bool):jY H (N2 k c n lit):=by
 unfold N2
 repeat' split
 all_goals exact gq rfl
theorem fC (ρ:Nm) {c:Cell} {b k:Bool} (h:lQ c=some (b,k)):c.ay ρ=.bool b:=by unfold lQ at h;split at h<;>cases h<;>rfl
theorem uN (ρ:Nm) {c:Cell} {s:ByteArray} {k:Bool} (h:LL c=some (s,k)):c.ay ρ=.string s:=by unfold LL at h;split at h<;>cases h<;>rfl
theorem bsEq_eq:∀a b:List UInt8,ad9 a b=(a==b)
 | [],[]=>rfl
 | [],_::_=>rfl
 | _::_,[]=>rfl
 | x::a,y::b=>by
   simp only [ad9,List.cons_beq_cons];cases h:Nat.beq x.toNat y.toNat with
   | true=>rw [UInt8.toNat_inj.1 (Nat.eq_of_beq_eq_true h)];simp [bsEq_eq a b]
   | false =>
     have:¬x=y:=fun e=>by subst e;simp at h
     simp [this]
theorem Ti (a b:ByteArray):D3 a b=(a==b):=by rw [D3,bsEq_eq,Array.beq_toList];rfl
theorem aco (ρ:Nm) (s:ByteArray) (k:Bool):(mkS s k).ay ρ=.string s:=by cases k<;>rfl
theorem ah4 {H:Hp AV} (s:ByteArray) (k:Bool):jY H (mkS s k):=by cases k<;>exact gq rfl
theorem fJ (ρ:Nm) {c:Cell} {q:IntKind} {n:Int} {k:Bool} (h:oQ c=some (q,n,k)):c.ay ρ=.int q n:=by unfold oQ at h;split at h<;>cases h<;>rfl
theorem UQ (ρ:Nm) {c:Cell} {q k:IntKind} {n:Int} {lit:Bool} (h:oQ c=some (q,n,lit)):(N2 k c n lit).ay ρ=.int k (k.wrap n):=by
 unfold N2
 repeat' split
 all_goals first
  | rfl
  | (rename_i hd;simp only [oQ,aaf,aaB] at h;obtain⟨rfl,rfl,_⟩:=h;have hd:=aaF hd;simp only [V1.ay,Cell.ay];rw [QG (by omega)])
end evs
end
section
section parts
variable {AV:Type}
theorem EI {α:Type} {l:List α} {n:Nat} {x:α} (h:yQ l n=some x):l[n]?=some x:=by rwa [nth_eq] at h
theorem vd {agg:Bool} {n:Nat} {l:List Cell} {off:Nat} {x:V1} (h:vf agg n l off=some x) :
 (agg=true->off+n<=l.length /\ x=.agg ((l.drop off).take n)) /\ (agg=false->∃c,l[off]?=some c /\ x=.c c):=by
 unfold vf at h;cases agg with
 | true =>
   simp only at h;cases hl:qg l off n with
   | none=>simp [hl] at h
   | some r =>simp only [hl,aaf] at h;subst h;have:=lsub_eq hl;exact⟨fun _=>⟨this.2,by rw [this.1]⟩,(fun h=>by cases h)⟩
 | false =>
   simp only at h;cases hl:yQ l off with
   | none=>simp [hl] at h
   | some r =>simp only [hl,aaf] at h;subst h;exact⟨(fun h=>by cases h),fun _=>⟨r,EI hl,rfl⟩⟩
theorem Ez {H:Hp AV} {agg:Bool} {n:Nat} {l:List Cell} {off:Nat} {x:V1} (h:vf agg n l off=some x) (hc:oy H l):jY H x:=by
 obtain⟨h1,h2⟩:=vd h;cases agg with
 | true =>obtain⟨_,rfl⟩:=h1 rfl;exact fun c hm=>hc c (List.mem_of_mem_drop (List.mem_of_mem_take hm))
 | false =>obtain⟨c,hl,rfl⟩:=h2 rfl;intro d hd;simp [V1.cells] at hd;subst hd;exact hc d (aca hl)
theorem NR (ρ:Nm) (l:List Cell) (off n:Nat):((aF ρ l).toArray).extract off (off+n)=(aF ρ ((l.drop off).take n)).toArray:=by simp [aF,List.map_take,List.map_drop,List.extract_eq_take_drop]
theorem zr {P:Program} {ρ:Nm} {t:TypeId} {agg:Bool} {n:Nat} {l:List Cell} {off:Nat} {x:V1} (ha:fI P t=some agg) (hs:oD P t=some n)
 (h:vf agg n l off=some x) (w:World):(part t (aF ρ l).toArray off).run P w=.ok (x.ay ρ) w:=by
 obtain⟨h1,h2⟩:=vd h;unfold part;cases agg with
 | true =>obtain⟨_,rfl⟩:=h1 rfl;simp only [aaY,On ha w,aaX,if_true,dJ hs w,aa0,V1.ay,NR]
 | false =>obtain⟨c,hl,rfl⟩:=h2 rfl;simp [On ha w,V1.ay,aF,hl]
theorem Dy {P:Program}:∀{fs:List Field} {l:List cO} {i:Nat} {f:cO},KB P fs=some l->yQ l i=some f ->
 ∃g,fs[i]?=some g /\ f.off=g.offset /\ oD P g.type=some f.size /\ fI P g.type=some f.agg
 | [],l,i,f,h,hn=>by cases h;simp [yQ] at hn
 | g::r,l,i,f,h,hn=>by
   simp only [KB] at h;split at h
   ·rename_i n a l' h1 h2 h3;cases h;cases i with
    | zero=>simp only [yQ,aaf] at hn;subst hn;exact⟨g,rfl,rfl,h1,h2⟩
    | succ i=>simp only [yQ] at hn;exact Dy (fs:=r) h3 hn
   ·cases h
theorem Uj {P:Program} {t:TypeId} {k:Kd} (h:Bp P t=some k):fI P t=some (vA k):=by
 unfold Bp at h;unfold fI;cases hu:P.underlying t with
 | none=>simp [hu] at h
 | some d=>cases d<;>simp only [hu] at h<;>(first | (cases h;rfl) | (split at h<;>(first | (cases h;done) | (cases h;rfl))))
theorem DV {P:Program} {N:eI AV} (hT:fN P N) {t:TypeId} {i:TI} (h:N.tt.get t=some i):oD P t=some i.size:=by obtain⟨inf,h1,_,h2,_⟩:=tC (hT.ty t i h);rw [WK h1,h2]
theorem eN {P:Program} {N:eI AV} (hT:fN P N) {t:TypeId} {i:TI} (h:N.tt.get t=some i):Bp P t=some i.kd:=by obtain⟨inf,_,h1,_⟩:=tC (hT.ty t i h);exact h1
theorem y4 {P:Program} {N:eI AV} (hT:fN P N) {t:TypeId} {i:TI} {z:List Cell} (h:N.tt.get t=some i) (hz:i.zero=some z) (ρ:Nm) :
 ∃v,(∀w,(zeroValue t).run P w=.ok v w) /\ v.cells.toList=aF ρ z /\ ∀c∈z,c.name=none:=by
 obtain⟨inf,h1,_,_,h2,_⟩:=tC (hT.ty t i h);rw [h2] at hz;cases hv:inf.zero with
 | none=>simp [hv] at hz
 | some v =>simp only [hv] at hz;have:=mM ρ hz;exact⟨v,fun w=>by simp [zeroValue,typeInfo,program,Sem.run,h1,hv],this.1.symm,this.2⟩
end parts
section build
theorem tU (off:Nat):∀(vs:List Value) (k:Nat) (cur:Array Value),off+k+vs.length<=cur.size ->
 (vs.zipIdx k).foldl (fun cs (p:Value×Nat)=>cs.setIfInBounds (off+p.2) p.1) cur=(cur.toList.take (off+k)++vs++cur.toList.drop (off+k+vs.length)).toArray
 | [],k,cur,_=>by simp
 | v::nK,k,cur,h=>by simp only [List.zipIdx_cons,List.foldl_cons];rw [tU off nK (k+1) _ (by simp at h ⊢;omega)];have e:=list_seg_step cur.toList (off+k) v nK (by simp at h ⊢;omega);simp only [Array.toList_setIfInBounds];simpa [adr,Nat.add_comm 1] using e
variable {AV:Type}
theorem NI {P:Program} {ρ:Nm} {H:Hp AV} {fs:List Field} {l:List cO} (hf:KB P fs=some l) (pl:Nat->Option (Nat×Nat))
 (Nl:∀(i:Nat) (f:cO),yQ l i=some f->pl i=some (f.off,f.size)) :
 ∀(ps:List (Nat×V1)) (z r:List Cell),IJ l z ps=some r->oy H z->(∀p∈ps,jY H p.2) ->
   Instr.fill pl (aF ρ z).toArray (ps.map fun p=>(p.1,p.2.ay ρ))=some (aF ρ r).toArray /\ oy H r
 | [],z,r,h,hz,_=>by simp only [IJ,aaf] at h;subst h;exact⟨rfl,hz⟩
 | (i,x)::ps,z,r,h,hz,hp=>by
   simp only [IJ] at h;cases hn:yQ l i with
   | none=>simp [hn] at h
   | some f =>
     simp only [hn] at h;cases hb:Nat.beq f.size x.cells.length with
     | false=>simp [hb] at h
     | true =>
       simp only [hb] at h;cases hl:mB z f.off x.cells with
       | none=>simp [hl] at h
       | some z' =>
         simp only [hl] at h;have tP:f.size=x.cells.length:=(aG _ _).1 hb;obtain⟨e1,e2⟩:=lput_eq hl;have hx:=hp (i,x) (by simp);have hz':oy H z':=by
          intro c hc;rw [e1] at hc;rcases adg.1 hc with hc | hc
          ·rcases adg.1 hc with hc | hc
           ·exact hz c (List.mem_of_mem_take hc)
           ·exact hx c hc
          ·exact hz c (List.mem_of_mem_drop hc)
         obtain⟨ih1,ih2⟩:=NI hf pl Nl ps z' r h hz' (fun p hm=>hp p (by simp [hm]));refine⟨?_,ih2⟩;have hcl:(x.ay ρ).cells.toList=aF ρ x.cells:=V1.nY ρ x;have hcs:(x.ay ρ).cells.size=x.cells.length:=by rw [<- afI,hcl,eC]
         simp only [aaU,Instr.fill,Nl i f hn];rw [if_neg (by simp [hcs,tP,eC];omega)];rw [<- ih1];congr 1;have:=tU f.off (aF ρ x.cells) 0 (aF ρ z).toArray (by simp [eC];omega);rw [<- hcl] at this;rw [<- Array.foldl_toList,Array.toList_zipIdx];refine this.trans ?_;rw [hcl,e1];simp [aF,adA,List.map_take,List.map_drop]
theorem BC {ρ:Nm} {H:Hp AV} (Hc:Nat) :
 ∀(ps:List (Nat×V1)) (z r:List Cell),xU Hc z ps=some r->oy H z->(∀p∈ps,jY H p.2) ->
   Instr.fill (fun i=>some (i * Hc,Hc)) (aF ρ z).toArray (ps.map fun p=>(p.1,p.2.ay ρ))=some (aF ρ r).toArray /\ oy H r
 | [],z,r,h,hz,_=>by simp only [xU,aaf] at h;subst h;exact⟨rfl,hz⟩
 | (i,x)::ps,z,r,h,hz,hp=>by
   simp only [xU] at h;cases hb:Nat.beq Hc x.cells.length with
   | false=>simp [hb] at h
   | true =>
     simp only [hb] at h;cases hl:mB z (i * Hc) x.cells with
     | none=>simp [hl] at h
     | some z' =>
       simp only [hl] at h;have tP:Hc=x.cells.length:=(aG _ _).1 hb;obtain⟨e1,e2⟩:=lput_eq hl;have hx:=hp (i,x) (by simp);have hz':oy H z':=by
        intro c hc;rw [e1] at hc;rcases adg.1 hc with hc | hc
        ·rcases adg.1 hc with hc | hc
         ·exact hz c (List.mem_of_mem_take hc)
         ·exact hx c hc
        ·exact hz c (List.mem_of_mem_drop hc)
       obtain⟨ih1,ih2⟩:=BC Hc ps z' r h hz' (fun p hm=>hp p (by simp [hm]));refine⟨?_,ih2⟩;have hcl:(x.ay ρ).cells.toList=aF ρ x.cells:=V1.nY ρ x;have hcs:(x.ay ρ).cells.size=x.cells.length:=by rw [<- afI,hcl,eC]
       simp only [aaU,Instr.fill];rw [if_neg (by simp [hcs,tP,eC];rw [<- tP];omega)];rw [<- ih1];congr 1;have:=tU (i * Hc) (aF ρ x.cells) 0 (aF ρ z).toArray (by simp [eC];omega);rw [<- hcl] at this;rw [<- Array.foldl_toList,Array.toList_zipIdx];refine this.trans ?_;rw [hcl,e1];simp [aF,adA,List.map_take,List.map_drop]
end build
end
section
def vEq:Value->Value->Bool
 | .bool a,.bool b=>a==b
 | .string a,.string b=>a==b
 | .int _ a,.int _ b=>a==b
 | _,_=>false
def lg:List Value->List Value->Bool
 | [],[]=>true
 | x::xs,y::ys=>vEq x y&&lg xs ys
 | _,_=>false
theorem adB (ρ:Nm) {x y:Cell} {b k:Bool} (h:eqC x y=some (b,k)):b=vEq (x.ay ρ) (y.ay ρ):=by
 unfold eqC at h;split at h
 ·rename_i a ka b' kb h1 h2;cases h;rw [fC ρ h1,fC ρ h2];rfl
 ·split at h
  ·rename_i _ a ka _ b' kb h1 h2;cases h;rw [fJ ρ h1,fJ ρ h2];rfl
  ·split at h
   ·rename_i a ka b' kb h1 h2;cases h;rw [uN ρ h1,uN ρ h2];exact Ti _ _
   ·cases h
theorem Sk (ρ:Nm):∀{xs ys:List Cell} {b k:Bool},eqL xs ys=some (b,k)->b=lg (aF ρ xs) (aF ρ ys)
 | [],[],b,k,h=>by cases h;rfl
 | [],_::_,_,_,h=>by simp [eqL] at h
 | _::_,[],_,_,h=>by simp [eqL] at h
 | x::xs,y::ys,b,k,h=>by
   simp only [eqL] at h;cases h1:eqC x y with
   | none=>simp [h1] at h
   | some p =>
     obtain⟨b1,k1⟩:=p;cases h2:eqL xs ys with
     | none=>simp [h1,h2] at h
     | some q =>
       obtain⟨b2,k2⟩:=q;have e1:=adB ρ h1;have e2:=Sk ρ h2;have e:lg (aF ρ (x::xs)) (aF ρ (y::ys))=(b1&&b2):=by simp [aF,lg,e1,e2]
       rw [e];simp only [h1,h2] at h;cases k1<;>cases b1<;>cases k2<;>cases b2<;>simp at h<;>simp [<- h.1]
theorem lM:∀{ks:List FK} {l:List Cell},fY ks l=true->l.length=ks.length
 | [],[],_=>rfl
 | [],_::_,h=>by simp [fY] at h
 | _::_,[],h=>by simp [fY] at h
 | k::ks,c::cs,h=>by
   simp only [fY] at h;split at h
   ·split at h
    ·simp [lM h]
    ·cases h
   ·cases h
theorem rL:∀{ks ks':List FK} {l:List Cell},fY (ks++ks') l=true->fY ks (l.take ks.length)=true /\ fY ks' (l.drop ks.length)=true
 | [],_,l,h=>by simpa [fY] using h
 | k::ks,ks',[],h=>by simp [fY] at h
 | k::ks,ks',c::cs,h=>by
   simp only [acY,fY] at h;simp only [aaQ,List.take_succ_cons,List.drop_succ_cons,fY];split at h
   ·rename_i k' hk;split at h
    ·rename_i hd;exact rL h
    ·cases h
   ·cases h
theorem Am:∀(a b c d:List Value),a.length=c.length->lg (a++b) (c++d)=(lg a c&&lg b d)
 | [],_,[],_,_=>by simp [lg]
 | [],_,_::_,_,h=>by simp at h
 | _::_,_,[],_,h=>by simp at h
 | x::a,b,y::c,d,h=>by simp [lg,Am a b c d (by simpa using h),Bool.and_assoc]
def wg (P:Program) (t:TypeId) (x:V1):Prop:=(fI P t=some true /\ ∃l,x=.agg l) \/ (fI P t=some false /\ ∃c,x=.c c)
theorem NH {P:Program} {d:Nat} {t:TypeId} {ks:List FK} (h:pw P d t=some ks):∃b,fI P t=some b:=by
 cases d with
 | zero=>cases h
 | succ d =>
   unfold pw at h;unfold fI;cases hu:P.underlying t with
   | none=>simp [hu] at h
   | some u=>cases u<;>exact⟨_,rfl⟩
theorem Zn {P:Program} {d:Nat} {t:TypeId} {ks:List FK} (h:pw P d t=some ks) (ha:fI P t=some false):ks.length=1:=by
 cases d with
 | zero=>cases h
 | succ d =>
   unfold pw at h;unfold fI at ha;cases hu:P.underlying t with
   | none=>simp [hu] at h
   | some u=>cases u<;>simp [hu] at h ha<;>simp [<- h]
theorem E9 {P:Program} {ρ:Nm} {d D:Nat} (xs ys:List Cell) (w:World)
 (ih:∀(t:TypeId) (ks:List FK) (x y:V1),pw P d t=some ks->wg P t x->wg P t y->fY ks x.cells=true->fY ks y.cells=true ->
   (Op.equalIn D t (x.ay ρ) (y.ay ρ)).run P w=.ok (lg (aF ρ x.cells) (aF ρ y.cells)) w) :
 ∀(r:List Field) (off:Nat) (ks:List FK),off<=xs.length->off<=ys.length->tW P (pw P d) r off=some ks->fY ks (xs.drop off)=true->fY ks (ys.drop off)=true ->
   (forIn r ((none,()):Option Bool×Unit) fun f __s =>
     if f.name ≠ "_" then do
      let __do_lift <- part f.type (aF ρ xs).toArray f.offset;let __do_lift_1 <- part f.type (aF ρ ys).toArray f.offset;let __do_lift <- Op.equalIn D f.type __do_lift __do_lift_1
      if (!__do_lift)=true then pure (ForInStep.done (some false,())) else pure (ForInStep.yield (none,()))
     else pure (ForInStep.yield (none,())):Sem (Option Bool×Unit)).run P w =
     .ok (if lg (aF ρ (xs.drop off)) (aF ρ (ys.drop off))=true then(none,()) else(some false,())) w
 | [],off,ks,_,_,h,hx,hy=>by simp only [tW,aaf] at h;subst h;have e1:xs.drop off=[]:=List.eq_nil_of_length_eq_zero (lM hx);have e2:ys.drop off=[]:=List.eq_nil_of_length_eq_zero (lM hy);simp [e1,e2,aF,lg]
 | f::r,off,ks,hox,hoy,h,hx,hy=>by
   simp only [tW] at h;split at h
   ·cases h
   ·rename_i aol;split at h
    ·cases h
    ·rename_i PU;have PU:=(aG _ _).1 PU;split at h
     ·cases h
     ·rename_i k1 hk1;split at h
      ·cases h
      ·rename_i n hn;split at h
       ·cases h
       ·rename_i hlen;have hlen:=(aG _ _).1 hlen;split at h
        ·rename_i k2 hk2;cases h;obtain⟨agg,Zf⟩:=NH hk1;obtain⟨x1,x2⟩:=rL hx;obtain⟨y1,y2⟩:=rL hy;have lx:=lM hx;have ly:=lM hy;simp only [agb,aaP] at lx ly;rw [List.drop_drop,<- hlen] at x2 y2;have ac5:=E9 xs ys w ih r (off+n) k2 (by omega) (by omega) hk2 x2 y2
         have key:∀l:List Cell,fY k1 ((l.drop off).take k1.length)=true->off+n<=l.length ->
          ∃x,vf agg n l off=some x /\ wg P f.type x /\ x.cells=(l.drop off).take n:=by
          intro l hl hle;cases agg with
          | true =>
            refine⟨.agg ((l.drop off).take n),?_,.inl ⟨Zf,_,rfl⟩,rfl⟩;have:∀(l:List Cell) (k m:Nat),k+m<=l.length->qg l k m=some ((l.drop k).take m):=by
             have ht:∀(l:List Cell) (m:Nat),m<=l.length->oM l m=some (l.take m):=by
              intro l;induction l with
              | nil=>intro m hm;simp at hm;subst hm;rfl
              | cons c l ih=>intro m hm;cases m with
                | zero=>rfl
                | succ m=>simp at hm;simp [oM,ih m hm]
             intro l;induction l with
             | nil=>intro k m hm;simp at hm;obtain⟨rfl,rfl⟩:=hm;rfl
             | cons c l ih=>intro k m hm;cases k with
               | zero=>simp only [qg,List.drop_zero];exact ht _ _ (by simpa using hm)
               | succ k=>simp only [qg,List.drop_succ_cons];exact ih k m (by simp at hm;omega)
            simp [vf,this l off n hle]
          | false =>
            have h1:=Zn hk1 Zf;have hn1:n=1:=by omega
            subst hn1;have hlt:off < l.length:=by omega
            refine⟨.c l[off],?_,.inr ⟨Zf,_,rfl⟩,?_⟩
            ·simp [vf,nth_eq,hlt]
            ·simp only [V1.cells];rw [List.drop_eq_getElem_cons hlt];rfl
         obtain⟨px,Un,hsx,hcx⟩:=key xs x1 (by omega);obtain⟨py,hpy,hsy,hcy⟩:=key ys y1 (by omega);have rx:=zr (ρ:=ρ) Zf hn Un w;have ry:=zr (ρ:=ρ) Zf hn hpy w;have uv:f.name ≠ "_" := by simpa using aol
         have e0:=ih f.type k1 px py hk1 hsx hsy (by rw [hcx,hlen];exact x1) (by rw [hcy,hlen];exact y1);have WC:∀l:List Cell,l.drop off=(l.drop off).take n++l.drop (off+n):=by intro l;rw [<- List.drop_drop,af9]
         have auK:lg (aF ρ (xs.drop off)) (aF ρ (ys.drop off))=(lg (aF ρ px.cells) (aF ρ py.cells)&&lg (aF ρ (xs.drop (off+n))) (aF ρ (ys.drop (off+n)))):=by rw [WC xs,WC ys];simp only [aF,adA];rw [Am _ _ _ _ (by simp;omega)];rw [<- hcx,<- hcy]
         rw [List.forIn_cons];simp only [uv,ne_eq,not_false_eq_true,if_true,aaY,PU,rx,ry,e0,aaX];rw [auK];cases hb:lg (aF ρ px.cells) (aF ρ py.cells) with
         | false=>simp
         | true =>simp only [Bool.not_true,Bool.false_eq_true,if_false,aa0,aaX,Bool.true_and];exact ac5
        ·cases h
theorem arrFs_eq (e:TypeId) (n:Nat):∀k i,Jp e n k i=(List.range' i k).map (SM e n)
 | 0,_=>rfl
 | k+1,i=>by simp [Jp,List.range'_succ,arrFs_eq e n k (i+1)]
theorem Is {c:Cell} {k:IntKind} (h:zL c=some (.int k)):∃n,∀ρ:Nm,c.ay ρ=.int k n:=by cases c<;>simp [zL] at h<;>subst h<;>exact⟨_,fun _=>rfl⟩
theorem I0 {P:Program} {ρ:Nm} (w:World):∀(d D:Nat),d<=D->∀(t:TypeId) (ks:List FK) (x y:V1),pw P d t=some ks->wg P t x->wg P t y->fY ks x.cells=true->fY ks y.cells=true ->
 (Op.equalIn D t (x.ay ρ) (y.ay ρ)).run P w=.ok (lg (aF ρ x.cells) (aF ρ y.cells)) w
 | 0,_,_,_,_,_,_,h,_,_,_,_=>by cases h
 | d+1,0,hle,_,_,_,_,_,_,_,_,_=>by omega
 | d+1,D+1,hle,t,ks,x,y,h,sx,sy,kx,ky=>by
   have ih:=I0 (ρ:=ρ) (P:=P) w d D (by omega);unfold pw at h;have TW:∀{k:FK} {x:V1} (_:fI P t=some false) (_:wg P t x),fY [k] x.cells=true->∃c,x=.c c /\ zL c=some k:=by
    intro k x ha hs hk;rcases hs with⟨h1,_⟩ | ⟨_,c,rfl⟩
    ·rw [ha] at h1;cases h1
    ·refine⟨c,rfl,?_⟩;simp only [V1.cells,fY] at hk;cases h1:zL c with
     | none=>simp [h1] at hk
     | some k' =>
       cases h2:decide (k=k') with
       | false=>simp [h1,h2] at hk
       | true=>exact congrArg some (aaF h2).symm
   cases hu:P.underlying t with
   | none=>simp [hu] at h
   | some u =>
     rw [Op.equalIn];cases u<;>simp only [hu] at h<;>(first | (cases h;done) | skip);case bool =>
      cases h;have ha:fI P t=some false:=by simp [fI,hu]
      obtain⟨c,rfl,hc⟩:=TW ha sx kx;obtain⟨c',rfl,oU⟩:=TW ha sy ky;cases c<;>simp [zL] at hc<;>cases c'<;>simp [zL] at oU<;>simp [bP hu,V1.ay,Cell.ay,V1.cells,aF,lg,vEq]
     case string =>
      cases h;have ha:fI P t=some false:=by simp [fI,hu]
      obtain⟨c,rfl,hc⟩:=TW ha sx kx;obtain⟨c',rfl,oU⟩:=TW ha sy ky;cases c<;>simp [zL] at hc<;>cases c'<;>simp [zL] at oU<;>simp [bP hu,V1.ay,Cell.ay,V1.cells,aF,lg,vEq]
     case int k =>
      cases h;have ha:fI P t=some false:=by simp [fI,hu]
      obtain⟨c,rfl,hc⟩:=TW ha sx kx;obtain⟨c',rfl,oU⟩:=TW ha sy ky;obtain⟨n,e1⟩:=Is hc;obtain⟨n',e2⟩:=Is oU;simp [bP hu,V1.ay,V1.cells,aF,lg,vEq,e1 ρ,e2 ρ]
     case struct fs =>
      have ha:fI P t=some true:=by simp [fI,hu]
      obtain⟨xs,rfl⟩:∃l,x=.agg l:=by
       rcases sx with⟨_,h⟩ | ⟨h1,_⟩
       ·exact h
       ·rw [ha] at h1;cases h1
      obtain⟨ys,rfl⟩:∃l,y=.agg l:=by
       rcases sy with⟨_,h⟩ | ⟨h1,_⟩
       ·exact h
       ·rw [ha] at h1;cases h1
      cases hs:P.stoodInHeld t with
      | true=>simp [hs] at h
      | false =>simp only [hs] at h;have hl:=E9 (ρ:=ρ) xs ys w ih fs.toList 0 ks (acX _) (acX _) h (by simpa [V1.cells] using kx) (by simpa [V1.cells] using ky);simp only [aaY,bP hu,aaX,program,Sem.run,hs,Bool.false_eq_true,if_false,V1.ay];rw [<- Array.forIn_toList,hl];simp only [V1.cells,List.drop_zero,aaX];cases lg (aF ρ xs) (aF ρ ys)<;>simp
     case array len e =>
      have ha:fI P t=some true:=by simp [fI,hu]
      obtain⟨xs,rfl⟩:∃l,x=.agg l:=by
       rcases sx with⟨_,h⟩ | ⟨h1,_⟩
       ·exact h
       ·rw [ha] at h1;cases h1
      obtain⟨ys,rfl⟩:∃l,y=.agg l:=by
       rcases sy with⟨_,h⟩ | ⟨h1,_⟩
       ·exact h
       ·rw [ha] at h1;cases h1
      cases hs:oD P e with
      | none=>simp [hs] at h
      | some n =>
        simp only [hs] at h;have hl:=E9 (ρ:=ρ) xs ys w ih (Jp e n len 0) 0 ks (acX _) (acX _) h (by simpa [V1.cells] using kx) (by simpa [V1.cells] using ky);rw [arrFs_eq,List.forIn_map] at hl;simp only [SM,show ("x" : String) ≠ "_" from by decide,ne_eq,not_false_eq_true,if_true] at hl
        simp only [aaY,bP hu,aaX,dJ hs w,V1.ay];simp only [Std.Legacy.Range.forIn_eq_forIn_range',Std.Legacy.Range.size,Nat.sub_zero,Nat.add_one_sub_one,Nat.div_one];rw [hl];simp only [V1.cells,List.drop_zero,aaX];cases lg (aF ρ xs) (aF ρ ys)<;>simp
