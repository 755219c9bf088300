import Derived.Test.YtadmfaohjnjajaaGreatDoorSxA
set_option linter.unusedVariables false
set_option linter.unusedSimpArgs false
set_option maxHeartbeats 4000000
namespace Go.Sx
section
section lists
variable {AV:Type}
theorem nth_eq {α:Type}:∀(l:List α) (n:Nat),nth l n=l[n]?
 | [],_=>by simp [nth]
 | _::_,0=>by simp [nth]
 | _::r,n+1=>by simp [nth,nth_eq r n]
theorem hget_eq:∀(H:Hp AV) (n:Nat),ab H n=(H[n]?).bind id
 | [],_=>by simp [ab]
 | _::_,0=>by simp [ab]
 | _::r,n+1=>by simp [ab,hget_eq r n]
theorem aX {H:Hp AV} {n:Nat} {c:Chunk AV} (h:ab H n=some c):n < H.length:=by
 rw [hget_eq] at h
 rcases Nat.lt_or_ge n H.length with h' | h'
 ·exact h'
 ·simp [List.getElem?_eq_none h'] at h
theorem lset_eq {α:Type}:∀(l:List α) (n:Nat) (y:α),bC l n y=l.set n y
 | [],_,_=>by simp [bC]
 | _::_,0,_=>by simp [bC]
 | _::r,n+1,y=>by simp [bC,lset_eq r n y]
theorem bn {H:Hp AV} {n:Nat} (c:Chunk AV) (h:n < H.length):ab (bC H n (some c)) n=some c:=by
 simp [hget_eq,lset_eq,h]
theorem aK {H:Hp AV} {n m:Nat} (x:Option (Chunk AV)) (h:n≠m):ab (bC H n x) m=ab H m:=by
 simp [hget_eq,lset_eq,List.getElem?_set_ne h]
theorem bX {α:Type} (l:List α) (n:Nat) (y:α):(bC l n y).length=l.length:=by simp [lset_eq]
theorem zw:∀n,(fY AV n).length=n
 | 0=>rfl
 | n+1=>by simp [fY,zw n]
theorem EY (H:Hp AV) (k n:Nat):ab (H++fY AV k) n=ab H n:=by
 rw [hget_eq,hget_eq]
 rcases Nat.lt_or_ge n H.length with h | h
 ·rw [List.getElem?_append_left h]
 ·rw [List.getElem?_append_right h,List.getElem?_eq_none h]
  have:∀(k m:Nat),((fY AV k)[m]?).bind id=none:=by
   intro k
   induction k with
   | zero=>intro m;simp [fY]
   | succ k ih=>intro m;cases m with
     | zero=>simp [fY]
     | succ m=>simp [fY,ih m]
  rw [this];rfl
theorem ai (a b:Nat):Nat.beq a b=true↔a=b:=⟨Nat.eq_of_beq_eq_true,fun h=>by subst h;exact Nat.beq_refl a⟩
theorem aR (a b:Nat):Nat.beq a b=false↔a≠b:=by
 rw [<- Bool.not_eq_true,ai]
theorem cO (a b:Nat):Nat.blt a b=true↔a < b:=by
 unfold Nat.blt;rw [Nat.ble_eq];omega
theorem fh (a b:Nat):Nat.blt a b=false↔¬a < b:=by
 rw [<- Bool.not_eq_true,cO]
end lists
section den
theorem den_congr {ρ ρ':Nm}:∀(c:Cell),(∀n,c.name=some n->ρ'.L n=ρ.L n)->c.den ρ'=c.den ρ
 | .ptr n _,h=>by simp [Cell.den,Nm.f,h n rfl]
 | .vel n _ _ _,h=>by simp [Cell.den,Nm.f,h n rfl]
 | .sl n _ _ _,h=>by simp [Cell.den,Nm.f,h n rfl]
 | .vs n _ _ _ _,h=>by simp [Cell.den,h n rfl]
 | .sf n _ _ _ _ _,h=>by simp [Cell.den,h n rfl]
 | .ifc t c,h=>by simp only [Cell.den];rw [den_congr c h]
 | .bl _,_=>rfl
 | .bt _,_=>rfl
 | .il _ _,_=>rfl
 | .it _ _,_=>rfl
 | .iv _ _ _ _,_=>rfl
 | .ir _ _ _ _ _,_=>rfl
 | .st _,_=>rfl
 | .sv _,_=>rfl
 | .pnil,_=>rfl
 | .snil,_=>rfl
 | .sx _ _,_=>rfl
 | .inil,_=>rfl
 | .fn _,_=>rfl
 | .nfn,_=>rfl
 | .op _ _,_=>rfl
 | .mp none,_=>rfl
 | .mp (some n),h=>by simp [Cell.den,Nm.f,h n rfl]
theorem sd (ρ:Nm):∀c:Cell,(c.den ρ).oneCell'=true
 | .ptr _ _=>rfl
 | .vel _ _ _ _=>rfl
 | .sl _ _ _ _=>rfl
 | .vs _ _ _ _ _=>by simp only [Cell.den,aW];split<;>rfl
 | .sf _ _ _ _ _ _=>by simp only [Cell.den,aW];split<;>rfl
 | .ifc _ _=>rfl
 | .bl _=>rfl
 | .bt _=>rfl
 | .il _ _=>rfl
 | .it _ _=>rfl
 | .iv _ _ _ _=>rfl
 | .ir _ _ _ _ _=>rfl
 | .st _=>rfl
 | .sv _=>rfl
 | .pnil=>rfl
 | .snil=>rfl
 | .sx _ _=>rfl
 | .inil=>rfl
 | .fn _=>rfl
 | .nfn=>rfl
 | .op _ _=>rfl
 | .mp _=>rfl
theorem den_cells (ρ:Nm) (c:Cell):(c.den ρ).cells=#[c.den ρ]:=by
 cases c with
 | vs _ _ _ _ _=>simp only [Cell.den,aW];split<;>rfl
 | sf _ _ _ _ _ _=>simp only [Cell.den,aW];split<;>rfl
 | _=>rfl
theorem V1.den_cells (ρ:Nm) (x:V1):(x.den ρ).cells.toList=ah ρ x.cells:=by
 cases x with
 | c x=>simp [V1.den,V1.cells,Sx.den_cells,ah]
 | agg l=>simp [V1.den,V1.cells,Value.cells]
theorem uI (ρ:Nm) {v:Value} {c:Cell} (h:Cell.ofValue v=some c):c.den ρ=v /\ c.name=none:=by
 unfold Cell.ofValue at h
 split at h<;>first
  | (cases h;exact⟨rfl,rfl⟩)
  | cases h
theorem ic (ρ:Nm):∀{vs:List Value} {l:List Cell},ie vs=some l->ah ρ l=vs /\ ∀c∈l,c.name=none
 | [],l,h=>by cases h;simp [ah]
 | v::r,l,h=>by
   simp only [ie] at h
   cases hv:Cell.ofValue v with
   | none=>simp [hv] at h
   | some c =>
     cases hr:ie r with
     | none=>simp [hv,hr] at h
     | some l' =>
       simp only [hv,hr,Option.some.injEq] at h
       subst h
       have ih:=ic ρ hr
       have hc:=uI ρ hv
       refine⟨by simp [ah,hc.1];exact ih.1,fun x hx=>?_⟩
       rcases List.mem_cons.1 hx with rfl | hx
       ·exact hc.2
       ·exact ih.2 x hx
end den
section meaning
variable {AV:Type} (N:Env AV)
def Chunk.fp (ρ:Nm) (n:Nat):Chunk AV->Nat->Prop
 | .cells _ _=>fun k=>k=ρ n
 | .vec _ _ _=>ρ.S n
 | .dead=>fun _=>False
 | .abs _=>ρ.S n
def Chunk.q (ρ:Nm) (n:Nat) (w:World):Chunk AV->Prop
 | .cells l ty=>w.heap[ρ n]?=some (.cells (ah ρ l).toArray ty (0,0))
 | .vec l es ty=>iC (ρ.L n) (ρ.S n) (ah ρ l) es ty w
 | .dead=>True
 | .abs a=>N.F.q a (ρ.L n) (ρ.S n) w
def Chunk.cellsOf:Chunk AV->List Cell
 | .cells l _=>l
 | .vec l _ _=>l
 | .dead=>[]
 | .abs _=>[]
theorem sG {l:Loc} {S:Nat->Prop} {cs:List Value} {es:Nat} {ty:TypeId} {w w':World} (h:iC l S cs es ty w) (hk:∀k,S k->w'.heap[k]?=w.heap[k]?):iC l S cs es ty w':=by
 rcases h with h | ⟨h1,h2,row,h3,h4⟩
 ·exact .inl h
 ·exact .inr ⟨h1,h2,row,by rw [hk l.b ((h2 _).2 rfl)];exact h3,h4⟩
def Xz (ρ:Nm) (H:Hp AV) (w:World):Prop:=(∀k o,N.F.R k=some o->w.heap[k]?=some o) /\ ∀n c k,ab H n=some c->c.fp ρ n k->N.F.R k=none
structure OwnC (ρ:Nm) (H:Hp AV) (w:World):Prop where
 q:∀n c,ab H n=some c->c.q N ρ n w
 dis:∀n m c d,n≠m->ab H n=some c->ab H m=some d->∀k,c.fp ρ n k->d.fp ρ m k->False
 glb:∀g,g < N.G->ρ g=g
structure Own (ρ:Nm) (H:Hp AV) (w:World):Prop extends OwnC N ρ H w where
 ro:Xz N ρ H w
def ClC (H:Hp AV) (c:Cell):Prop:=∀n,c.name=some n->∃x,ab H n=some x
def ClL (H:Hp AV) (l:List Cell):Prop:=∀c∈l,ClC H c
def ClV1 (H:Hp AV) (x:V1):Prop:=ClL H x.cells
def ClV (H:Hp AV):SV->Prop
 | .v x=>ClV1 H x
 | .tup l=>∀x∈l,ClV1 H x
 | .unk=>True
 | .clo _ l=>ClL H l
structure Closed (_N:Env AV) (s:St AV):Prop where
 E:∀k,ClV s.H (look s.E k)
 H:∀n x,ab s.H n=some x->ClL s.H x.cellsOf
structure EM (ρ:Nm) (nt:Nat) (E:Ev) (a:Act):Prop where
 size:a.tmps.size=nt
 get:∀k,look E k≠.unk->a.tmps.getD k undef=(look E k).den ρ
structure Evo (_N:Env AV) (L:Nat) (ρ:Nm) (H:Hp AV) (w:World) (ρ':Nm) (H':Hp AV) (w':World):Prop where
 pers:∀n c,ab H n=some c->∃c',ab H' n=some c'
 agree:∀n c,ab H n=some c->ρ'.L n=ρ.L n
 non:∀n,n < L->ab H n=none->ab H' n=none
 len:H.length<=H'.length
 frame:∀k,k < w.heap.size->(∀n c,ab H n=some c->¬c.fp ρ n k)->w'.heap[k]?=w.heap[k]?
 new:∀n c k,ab H' n=some c->c.fp ρ' n k->w.heap.size<=k \/ ∃m d,ab H m=some d /\ d.fp ρ m k
 os:w'.os=w.os
 tape:w'.tape=w.tape
 output:w'.output=w.output
 size:w.heap.size<=w'.heap.size
variable {N}
theorem Evo.refl (L:Nat) (ρ:Nm) (H:Hp AV) (w:World):Evo N L ρ H w ρ H w :=
 ⟨fun _ c h=>⟨c,h⟩,fun _ _ _=>rfl,fun _ _ h=>h,Nat.le_refl _,fun _ _ _=>rfl,fun n c _ h hk=>.inr ⟨n,c,h,hk⟩,rfl,rfl,rfl,Nat.le_refl _⟩
theorem Evo.trans {L:Nat} {ρ ρ₁ ρ₂:Nm} {H H₁ H₂:Hp AV} {w w₁ w₂:World} (h:Evo N L ρ H w ρ₁ H₁ w₁) (k:Evo N L ρ₁ H₁ w₁ ρ₂ H₂ w₂):Evo N L ρ H w ρ₂ H₂ w₂ where
 pers n c hc:=let ⟨c',hc'⟩:=h.pers n c hc;k.pers n c' hc'
 agree n c hc:=let ⟨c',hc'⟩:=h.pers n c hc;(k.agree n c' hc').trans (h.agree n c hc)
 non n hn hc:=k.non n hn (h.non n hn hc)
 len:=Nat.le_trans h.len k.len
 frame i hi hn:=by
  rw [k.frame i (Nat.lt_of_lt_of_le hi h.size) ?_,h.frame i hi hn]
  intro n c hc hk
  rcases h.new n c i hc hk with h1 | ⟨m,d,hd,hk'⟩
  ·omega
  ·exact hn m d hd hk'
 new n c i hc hk:=by
  rcases k.new n c i hc hk with h1 | ⟨m,d,hd,hk'⟩
  ·exact .inl (Nat.le_trans h.size h1)
  ·exact h.new m d i hd hk'
 os:=k.os.trans h.os
 tape:=k.tape.trans h.tape
 output:=k.output.trans h.output
 size:=Nat.le_trans h.size k.size
theorem Evo.drew {L:Nat} {ρ ρ':Nm} {H H':Hp AV} {w w':World} (h:Evo N L ρ H w.drew ρ' H' w'):Evo N L ρ H w ρ' H' w' :=
 ⟨h.pers,h.agree,h.non,h.len,h.frame,h.new,h.os,h.tape,h.output,h.size⟩
theorem Evo.drew' {L:Nat} {ρ ρ':Nm} {H H':Hp AV} {w w':World} (h:Evo N L ρ H w ρ' H' w'):Evo N L ρ H w ρ' H' w'.drew :=
 ⟨h.pers,h.agree,h.non,h.len,h.frame,h.new,h.os,h.tape,h.output,h.size⟩
theorem Own.drew {ρ:Nm} {H:Hp AV} {w:World} (h:Own N ρ H w):Own N ρ H w.drew where
 q n c hc:=by
   have:=h.q n c hc
   cases c with
   | cells l ty=>exact this
   | vec l es ty=>exact sG this (fun _ _=>rfl)
   | dead=>trivial
   | abs a=>exact N.F.loc a (ρ.L n) (ρ.S n) w w.drew (fun _ _=>rfl) this
 dis:=h.dis
 glb:=h.glb
 ro:=h.ro
theorem Own.upd {L:Nat} {ρ ρ':Nm} {H H':Hp AV} {w w':World} (hO:Own N ρ H w) (h:OwnC N ρ' H' w') (hE:Evo N L ρ H w ρ' H' w'):Own N ρ' H' w':=by
 have lt:∀k o,N.F.R k=some o->k < w.heap.size:=fun k o h=>(Array.getElem?_eq_some_iff.1 (hO.ro.1 k o h)).1
 refine⟨h,fun k o hk=>?_,fun n c k hc hk=>?_⟩
 ·rw [hE.frame k (lt k o hk) fun n c hc hf=>(by rw [hO.ro.2 n c k hc hf] at hk;cases hk)]
  exact hO.ro.1 k o hk
 ·rcases hE.new n c k hc hk with h1 | ⟨m,d,hd,hk'⟩
  ·cases hr:N.F.R k with
   | none=>rfl
   | some o=>have:=lt k o hr;omega
  ·exact hO.ro.2 m d k hd hk'
theorem Own.up2 {L:Nat} {ρ ρ':Nm} {H H':Hp AV} {w w':World} (hO:Own N ρ H w) (h:OwnC N ρ' H' w' /\ Evo N L ρ H w ρ' H' w'):Own N ρ' H' w' /\ Evo N L ρ H w ρ' H' w':=⟨hO.upd h.1 h.2,h.2⟩
theorem Own.up3 {L:Nat} {ρ ρ':Nm} {H H':Hp AV} {w w':World} {X:Prop} (hO:Own N ρ H w) (h:OwnC N ρ' H' w' /\ Evo N L ρ H w ρ' H' w' /\ X):Own N ρ' H' w' /\ Evo N L ρ H w ρ' H' w' /\ X:=⟨hO.upd h.1 h.2.1,h.2⟩
theorem Own.sub {ρ ρ':Nm} {H H':Hp AV} {w:World} (hO:Own N ρ H w) (h:OwnC N ρ' H' w) (hf:∀n c k,ab H' n=some c->c.fp ρ' n k->∃m d,ab H m=some d /\ d.fp ρ m k):Own N ρ' H' w :=
 ⟨h,hO.ro.1,fun n c k hc hk=>let ⟨m,d,hd,hk'⟩:=hf n c k hc hk;hO.ro.2 m d k hd hk'⟩
theorem Ql {H:Hp AV} {c:Cell}:clC H c=true↔ClC H c:=by
 unfold clC ClC
 cases hn:c.name with
 | none=>simp
 | some n =>
   cases hh:ab H n with
   | none=>simp [isS,hh]
   | some x=>simp [isS,hh]
theorem Dy {H:Hp AV}:∀{l:List Nat},Nl H l=true↔∀n∈l,∃c,ab H n=some c
 | []=>by simp [Nl]
 | n::r=>by
   have:=@Dy H r
   simp only [Nl,List.forall_mem_cons]
   cases hh:ab H n with
   | none=>simp [isS]
   | some x=>simp [isS,this]
theorem qo {n:Nat}:∀{l:List Cell},n∈cg l↔∃c∈l,c.name=some n
 | []=>by simp [cg]
 | c::r=>by
   have:=@qo n r
   cases hc:c.name with
   | none=>simp [cg,hc,this]
   | some m =>
     simp only [cg,hc,List.mem_cons,this,exists_eq_or_imp,Option.some.injEq]
     constructor
     ·rintro (rfl | h)
      ·exact .inl rfl
      ·exact .inr h
     ·rintro (rfl | h)
      ·exact .inl rfl
      ·exact .inr h
theorem vH {H:Hp AV} {l:List Cell}:clL H l=true↔ClL H l:=by
 unfold clL
 rw [Dy]
 unfold ClL ClC
 constructor
 ·intro h c hc n hn
  exact h n (qo.2 ⟨c,hc,hn⟩)
 ·intro h n hn
  obtain⟨c,hc,hcn⟩:=qo.1 hn
  exact h c hc n hcn
theorem Dx {H:Hp AV} {x:V1}:I7 H x=true↔ClV1 H x:=by
 cases x with
 | c x=>simp [I7,ClV1,V1.cells,ClL,Ql]
 | agg l=>simp [I7,ClV1,V1.cells,vH]
theorem Av {H:Hp AV}:∀{l:List V1},Dw H l=true↔∀x∈l,ClV1 H x
 | []=>by simp [Dw]
 | c::r=>by
   have:=@Av H r
   have hc:=@Dx AV H c
   simp only [Dw,List.forall_mem_cons]
   cases h:I7 H c<;>simp_all
theorem pB {H:Hp AV} {v:SV}:clV H v=true↔ClV H v:=by
 cases v with
 | v x=>simp [clV,ClV,Dx]
 | tup l=>simp [clV,ClV,Av]
 | unk=>simp [clV,ClV]
 | clo f l=>simp [clV,ClV,vH]
theorem kR {H:Hp AV}:∀{l:List SV},clVs H l=true↔∀x∈l,ClV H x
 | []=>by simp [clVs]
 | c::r=>by
   have:=@kR H r
   have hc:=@pB AV H c
   simp only [clVs,List.forall_mem_cons]
   cases h:clV H c<;>simp_all
theorem Dz {H:Hp AV} {c:Chunk AV}:Nn H c=true↔ClL H c.cellsOf:=by
 cases c with
 | cells l t=>exact vH
 | vec l e t=>exact vH
 | dead=>simp [Nn,Chunk.cellsOf,ClL]
 | abs a=>simp [Nn,Chunk.cellsOf,ClL]
theorem eY {H:Hp AV}:∀{l:Hp AV},clHs H l=true↔∀n x,ab l n=some x->ClL H x.cellsOf
 | []=>by simp [clHs,ab]
 | none::r=>by
   rw [clHs,eY]
   constructor
   ·intro h n x hc
    cases n with
    | zero=>simp [ab] at hc
    | succ n=>exact h n x hc
   ·intro h n x hc
    exact h (n+1) x hc
 | some c::r=>by
   have ih:=@eY H r
   simp only [clHs]
   cases hl:Nn H c with
   | false =>
     simp only [Bool.false_eq_true,false_iff]
     intro h
     have:=Dz.2 (h 0 c rfl)
     rw [hl] at this;cases this
   | true =>
     simp only
     rw [ih]
     constructor
     ·intro h n x hc
      cases n with
      | zero=>simp only [ab,Option.some.injEq] at hc;subst hc;exact Dz.1 hl
      | succ n=>exact h n x hc
     ·intro h n x hc
      exact h (n+1) x hc
theorem denL_congr {ρ ρ':Nm} {H:Hp AV} {l:List Cell} (hc:ClL H l) (ha:∀n c,ab H n=some c->ρ'.L n=ρ.L n):ah ρ' l=ah ρ l:=by
 unfold ah
 apply List.map_congr_left
 intro c hm
 exact den_congr c fun n hn=>let ⟨x,hx⟩:=hc c hm n hn;ha n x hx
theorem V1.den_congr {ρ ρ':Nm} {H:Hp AV} {x:V1} (hc:ClV1 H x) (ha:∀n c,ab H n=some c->ρ'.L n=ρ.L n):x.den ρ'=x.den ρ:=by
 cases x with
 | c x =>
   have:=Sx.denL_congr (l:=[x]) hc ha
   simpa [ah,V1.den] using this
 | agg l=>simp only [V1.den];rw [Sx.denL_congr (l:=l) hc ha]
theorem SV.den_congr {ρ ρ':Nm} {H:Hp AV} {v:SV} (hc:ClV H v) (ha:∀n c,ab H n=some c->ρ'.L n=ρ.L n):v.den ρ'=v.den ρ:=by
 cases v with
 | v x=>exact V1.den_congr hc ha
 | tup l =>
   simp only [SV.den]
   congr 2
   apply List.map_congr_left
   intro x hx
   exact V1.den_congr (hc x hx) ha
 | unk=>rfl
 | clo f l=>simp only [SV.den];rw [Sx.denL_congr (l:=l) hc ha]
theorem ClL.mono {H H':Hp AV} {l:List Cell} (h:ClL H l) (hp:∀n c,ab H n=some c->∃c',ab H' n=some c'):ClL H' l :=
 fun c hc n hn=>let ⟨x,hx⟩:=h c hc n hn;hp n x hx
theorem ClV1.mono {H H':Hp AV} {x:V1} (h:ClV1 H x) (hp:∀n c,ab H n=some c->∃c',ab H' n=some c'):ClV1 H' x:=ClL.mono h hp
theorem ClV.mono {H H':Hp AV} {v:SV} (h:ClV H v) (hp:∀n c,ab H n=some c->∃c',ab H' n=some c'):ClV H' v:=by
 cases v with
 | v x=>exact ClV1.mono h hp
 | tup l=>exact fun x hx=>ClV1.mono (h x hx) hp
 | unk=>trivial
 | clo f l=>exact ClL.mono h hp
end meaning
end
section
section trie
def Tr.All {α:Type} (q:Nat->α->Prop):Tr α->(Nat->Nat)->Prop
 | .lf,_=>True
 | .nd x l r,f=>(∀a,x=some a->q (f 0) a) /\ Tr.All q l (fun n=>f (2 * n+1)) /\ Tr.All q r (fun n=>f (2 * n+2))
theorem Tr.all_get' {α:Type} {q:Nat->α->Prop}:∀{t:Tr α} {f:Nat->Nat},Tr.All q t f->∀n a,t.get n=some a->q (f n) a
 | .lf,_,_,n,a,h=>by simp [Tr.get] at h
 | .nd x l r,f,hall,n,a,h=>by
   simp only [Tr.get] at h
   split at h
   ·rename_i h0
    obtain rfl:=(Nat.eq_of_beq_eq_true h0)
    exact hall.1 a h
   ·rename_i h0
    have hn:n≠0:=fun e=>by subst e;simp at h0
    split at h
    ·rename_i h1
     have h1:=Nat.eq_of_beq_eq_true h1
     have:=Tr.all_get' hall.2.1 _ a h
     rw [show 2 * (n / 2)+1=n from by omega] at this
     exact this
    ·rename_i h1
     have h1:n % 2≠1:=fun e=>by rw [e] at h1;simp at h1
     have:=Tr.all_get' hall.2.2 _ a h
     rw [show 2 * ((n - 1) / 2)+2=n from by omega] at this
     exact this
theorem Tr.all_get {α:Type} {q:Nat->α->Prop} {t:Tr α} (h:Tr.All q t (fun n=>n)) (n:Nat) (a:α) (hg:t.get n=some a):q n a:=Tr.all_get' h n a hg
end trie
section tables
variable {AV:Type}
structure TblOk (P:Program) (N:Env AV):Prop where
 ty:∀t i,N.tt.get t=some i->Iu P t=some i
 fn:∀f g,N.ft.get f=some g->P.funcs[f]?=some g /\ g.body.isSome=true /\ (g.name == "runtime.NumGoroutine")=false
 mix:P.follows .mixedOrders=true
 sl:∀t si,N.sl.get t=some si->rI P t=some si
 mt:∀t m g,N.mt t m=some g->∀(v:Value) (w:World),(Go.method (P.types.size+Made.depth) t v m).run P w=.ok (g,v) w
theorem mQ {P:Program} {t:TypeId} {i:TI} (h:Iu P t=some i):∃inf,P.info? t=some inf /\ kdT P t=some i.kd /\ i.size=inf.size /\
 i.zero=(match inf.zero with | some v=>ie v.cells.toList | none=>none) /\
 i.flat=(match P.eqGuardType P.depth t with | true=>none | false=>jU P 12 t):=by
 unfold Iu at h
 split at h
 ·rename_i inf k h1 h2
  cases h
  exact⟨inf,h1,h2,rfl,rfl,rfl⟩
 ·cases h
theorem tH {P:Program} {t:TypeId} {fs:List FdI} (h:kdT P t=some (.struct fs)):∃a,P.underlying t=some (.struct a) /\ BG P a.toList=some fs:=by
 unfold kdT at h
 cases hu:P.underlying t with
 | none=>simp [hu] at h
 | some d=>cases d<;>simp only [hu] at h<;>(first | (cases h;done) | skip)<;>(split at h<;>(first | (cases h;done) | skip))<;>(cases h;exact⟨_,rfl,by assumption⟩)
theorem PF {P:Program} {t:TypeId} {k:Kd} (h:kdT P t=some k):∃d,P.underlying t=some d:=by
 unfold kdT at h
 cases hu:P.underlying t with
 | none=>rw [hu] at h;cases h
 | some d=>exact⟨d,rfl⟩
theorem Tq {P:Program} {t:TypeId} {k:IntKind} (h:kdT P t=some (.int k)):P.underlying t=some (.int k):=by
 unfold kdT at h
 split at h<;>(try split at h)<;>simp_all
theorem xN {P:Program} {t:TypeId} (h:kdT P t=some .str):P.underlying t=some .string:=by
 unfold kdT at h
 split at h<;>(try split at h)<;>simp_all
theorem jB {P:Program} {t:TypeId} {n:Nat} (h:kdT P t=some (.slice n)):∃e,P.underlying t=some (.slice e) /\ jo P e=some n:=by
 unfold kdT at h
 cases hu:P.underlying t with
 | none=>simp [hu] at h
 | some d=>cases d<;>simp only [hu] at h<;>(first | (cases h;done) | skip)<;>(split at h<;>(first | (cases h;done) | skip))<;>(cases h;exact⟨_,rfl,by assumption⟩)
theorem tK {P:Program} {t:TypeId} {len n:Nat} {ag:Bool} (h:kdT P t=some (.arr len n ag)):∃e,P.underlying t=some (.array len e) /\ jo P e=some n /\ cQ P e=some ag:=by
 unfold kdT at h
 cases hu:P.underlying t with
 | none=>simp [hu] at h
 | some d=>cases d<;>simp only [hu] at h<;>(first | (cases h;done) | skip)<;>(split at h<;>(first | (cases h;done) | skip))<;>(cases h;exact⟨_,rfl,by assumption,by assumption⟩)
theorem PG {P:Program} {t:TypeId} (h:kdT P t=some .bool):P.underlying t=some .bool:=by
 unfold kdT at h
 cases hu:P.underlying t with
 | none=>simp [hu] at h
 | some d=>cases d<;>simp only [hu] at h<;>(first | rfl | (cases h;done) | (split at h<;>cases h))
theorem Tp {P:Program} {t:TypeId} (h:kdT P t=some .ptr):∃e,P.underlying t=some (.pointer e):=by
 unfold kdT at h
 cases hu:P.underlying t with
 | none=>simp [hu] at h
 | some d=>cases d<;>simp only [hu] at h<;>(first | exact⟨_,rfl⟩ | (cases h;done) | (split at h<;>cases h))
theorem Mt {P:Program} {t:TypeId} (h:kdT P t=some .iface):∃e,P.underlying t=some (.interface e):=by
 unfold kdT at h
 cases hu:P.underlying t with
 | none=>simp [hu] at h
 | some d=>cases d<;>simp only [hu] at h<;>(first | exact⟨_,rfl⟩ | (cases h;done) | (split at h<;>cases h))
theorem Bx {P:Program} {t:TypeId} {k:Kd} (h:kdT P t=some k) (hk:k≠.iface):∃d,P.underlying t=some d /\ ∀ms,d≠.interface ms:=by
 unfold kdT at h
 cases hu:P.underlying t with
 | none=>simp [hu] at h
 | some d =>
   refine⟨d,rfl,fun ms he=>?_⟩
   subst he
   simp only [hu] at h
   cases h
   exact hk rfl
theorem ID {P:Program} {t:TypeId} {k:Kd} (h:kdT P t=some k) (w:World):(isAgg t).run P w=.ok (oy k) w:=by
 unfold kdT at h
 unfold isAgg
 cases hu:P.underlying t with
 | none=>simp [hu] at h
 | some d=>cases d<;>simp only [hu] at h<;>(first | (cases h;simp [underlying,program,Sem.run,hu,oy];done) | (split at h<;>(first | (cases h;done) | (cases h;simp [underlying,program,Sem.run,hu,oy]))))
theorem bM {P:Program} {t:TypeId} {n:Nat} (h:jo P t=some n) (w:World):(sizeOf t).run P w=.ok n w:=by
 unfold jo at h
 split at h<;>simp_all [sizeOf,typeInfo,program,Sem.run]
theorem aU {P:Program} {t:TypeId} {d:TypeDesc} (h:P.underlying t=some d) (w:World):(underlying t).run P w=.ok d w:=by
 simp [underlying,program,Sem.run,h]
theorem Kr {P:Program} {t:TypeId} {inf:TypeInfo} (h:P.info? t=some inf):jo P t=some inf.size:=by simp [jo,h]
theorem DK {P:Program} {t:TypeId} {b:Bool} (h:cQ P t=some b) (w:World):(isAgg t).run P w=.ok b w:=by
 unfold cQ at h
 unfold isAgg
 cases hu:P.underlying t with
 | none=>simp [hu] at h
 | some d=>cases d<;>simp only [hu] at h<;>(cases h;simp [underlying,program,Sem.run,hu])
end tables
section sub
theorem ltake_eq:∀{l:List Cell} {n:Nat} {r:List Cell},jz l n=some r->r=l.take n /\ n<=l.length
 | _,0,r,h=>by simp [jz] at h;simp [<- h]
 | [],_+1,_,h=>by simp [jz] at h
 | x::l,n+1,r,h=>by
   simp only [jz] at h
   cases hl:jz l n with
   | none=>simp [hl] at h
   | some q =>
     simp only [hl,Option.some.injEq] at h
     have:=ltake_eq hl
     subst h
     simp [this.1,this.2]
theorem lsub_eq:∀{l:List Cell} {k n:Nat} {r:List Cell},kJ l k n=some r->r=(l.drop k).take n /\ k+n<=l.length
 | l,0,n,r,h=>by
   cases l<;>simp only [kJ] at h<;>(have:=ltake_eq h;simpa using this)
 | [],_+1,_,_,h=>by simp [kJ] at h
 | _::l,k+1,n,r,h=>by
   simp only [kJ] at h
   have:=lsub_eq h
   simp;exact⟨this.1,by omega⟩
theorem lput_eq:∀{l:List Cell} {k:Nat} {ys r:List Cell},gZ l k ys=some r->r=l.take k++ys++l.drop (k+ys.length) /\ k+ys.length<=l.length
 | l,0,[],r,h=>by cases l<;>simp [gZ] at h<;>simp [<- h]
 | [],0,_::_,_,h=>by simp [gZ] at h
 | x::l,0,y::ys,r,h=>by
   simp only [gZ] at h
   cases hl:gZ l 0 ys with
   | none=>simp [hl] at h
   | some q =>
     simp only [hl,Option.some.injEq] at h
     have:=lput_eq hl
     subst h
     simp at this ⊢
     exact⟨this.1,this.2⟩
 | [],_+1,ys,_,h=>by cases ys<;>simp [gZ] at h
 | x::l,n+1,ys,r,h=>by
   cases hl:gZ l n ys with
   | none=>cases ys<;>simp [gZ,hl] at h
   | some q =>
     have h':x::q=r:=by cases ys<;>simpa [gZ,hl] using h
     have:=lput_eq hl
     subst h'
     refine⟨?_,by simp;omega⟩
     rw [this.1]
     simp [Nat.succ_add]
theorem bY (ρ:Nm) (l:List Cell):(ah ρ l).length=l.length:=by simp [ah]
end sub
section evs
variable {AV:Type}
structure EvOk (ρ:Nm) (H:Hp AV) (ev:Operand->Option SV) (e:Operand->Value):Prop where
 den:∀x v,ev x=some v->e x=v.den ρ
 cl:∀x v,ev x=some v->ClV H v
theorem As {ρ:Nm} {H:Hp AV} {c:Value} {v:SV} (h:Fh c=some v):c=v.den ρ /\ ClV H v:=by
 unfold Fh at h
 split at h
 ·rename_i cs
  cases hl:ie cs.toList with
  | none=>simp [hl] at h
  | some l =>
    simp only [hl,Option.some.injEq] at h
    subst h
    have:=ic ρ hl
    refine⟨by simp [SV.den,V1.den,this.1],fun c hc n hn=>?_⟩
    rw [this.2 c hc] at hn;cases hn
 ·cases hc:Cell.ofValue c with
  | none=>simp [hc] at h
  | some x =>
    simp only [hc,Option.some.injEq] at h
    subst h
    have:=uI ρ hc
    refine⟨by simp [SV.den,V1.den,this.1],fun c hc n hn=>?_⟩
    simp [V1.cells] at hc
    subst hc
    rw [this.2] at hn;cases hn
theorem eh {H:Hp AV} {l:List Cell} (h:∀c∈l,c.name=none):ClL H l:=fun c hc n hn=>by rw [h c hc] at hn;cases hn
theorem dm {H:Hp AV} {c:Cell} (h:c.name=none):ClV H (.v (.c c)):=eh (by simp [V1.cells,h])
theorem qE {N:Env AV} {s:St AV} (hc:Closed N s) {x:Operand} {v:SV} (h:evl N.G s.H s.E x=some v):ClV s.H v:=by
 cases x with
 | tmp t =>
   simp only [evl] at h
   have:=hc.E t
   split at h
   ·cases h
   ·cases h;exact this
 | const c=>exact(As (ρ:=Nm.id) (H:=s.H) h).2
 | global g =>
   simp only [evl] at h
   split at h
   ·rename_i c _ hg
    cases h
    intro c' hc' n hn
    simp [V1.cells] at hc'
    subst hc'
    simp [Cell.name] at hn
    subst hn
    exact⟨c,hg⟩
   ·cases h
 | func f=>simp only [evl,Option.some.injEq] at h;subst h;exact dm rfl
theorem eQ {N:Env AV} {ρ:Nm} {nt:Nat} {s:St AV} {a:Act} (hE:EM ρ nt s.E a) (hc:Closed N s) (hg:∀g,g < N.G->ρ g=g):EvOk ρ s.H (evl N.G s.H s.E) a.eval where
 den x v h:=by
  cases x with
  | tmp t =>
    simp only [evl] at h
    split at h
    ·cases h
    ·rename_i hne
     cases h
     exact hE.get t (fun e=>hne e)
  | const c=>exact(As (ρ:=ρ) (H:=s.H) h).1
  | global g =>
    simp only [evl] at h
    split at h
    ·rename_i hlt _
     cases h
     simp [Act.eval,SV.den,V1.den,Cell.den,hg g ((cO _ _).1 hlt)]
    ·cases h
  | func f=>simp only [evl,Option.some.injEq] at h;subst h;rfl
 cl x v h:=qE hc h
theorem mS (ρ:Nm) (b k:Bool):(mkB b k).den ρ=.bool b:=by cases k<;>rfl
theorem rJ (ρ:Nm) (q:IntKind) (n:Int) (k:Bool):(mkI q n k).den ρ=.int q n:=by cases k<;>rfl
theorem tz {H:Hp AV} (b k:Bool):ClV1 H (mkB b k):=by cases k<;>exact dm rfl
theorem Bs {H:Hp AV} (q:IntKind) (n:Int) (k:Bool):ClV1 H (mkI q n k):=by cases k<;>exact dm rfl
theorem Nf {H:Hp AV} (k:IntKind) (c:Cell) (n:Int) (lit:Bool):ClV1 H (Ds k c n lit):=by
 unfold Ds
 repeat' split
 all_goals exact dm rfl
theorem cK (ρ:Nm) {c:Cell} {b k:Bool} (h:gq c=some (b,k)):c.den ρ=.bool b:=by
 unfold gq at h;split at h<;>cases h<;>rfl
theorem nL (ρ:Nm) {c:Cell} {s:ByteArray} {k:Bool} (h:Ci c=some (s,k)):c.den ρ=.string s:=by
 unfold Ci at h;split at h<;>cases h<;>rfl
theorem bsEq_eq:∀a b:List UInt8,Qo a b=(a==b)
 | [],[]=>rfl
 | [],_::_=>rfl
 | _::_,[]=>rfl
 | x::a,y::b=>by
   simp only [Qo,List.cons_beq_cons]
   cases h:Nat.beq x.toNat y.toNat with
   | true=>rw [UInt8.toNat_inj.1 (Nat.eq_of_beq_eq_true h)];simp [bsEq_eq a b]
   | false =>
     have:¬x=y:=fun e=>by subst e;simp at h
     simp [this]
theorem HF (a b:ByteArray):wu a b=(a==b):=by
 rw [wu,bsEq_eq,Array.beq_toList]
 rfl
theorem Po (ρ:Nm) (s:ByteArray) (k:Bool):(mkS s k).den ρ=.string s:=by cases k<;>rfl
theorem S5 {H:Hp AV} (s:ByteArray) (k:Bool):ClV1 H (mkS s k):=by cases k<;>exact dm rfl
theorem cR (ρ:Nm) {c:Cell} {q:IntKind} {n:Int} {k:Bool} (h:jD c=some (q,n,k)):c.den ρ=.int q n:=by
 unfold jD at h;split at h<;>cases h<;>rfl
theorem I2 (ρ:Nm) {c:Cell} {q k:IntKind} {n:Int} {lit:Bool} (h:jD c=some (q,n,lit)):(Ds k c n lit).den ρ=.int k (k.wrap n):=by
 unfold Ds
 repeat' split
 all_goals first
  | rfl
  | (rename_i hd
     simp only [jD,Option.some.injEq,Prod.mk.injEq] at h
     obtain⟨rfl,rfl,_⟩:=h
     have hd:=of_decide_eq_true hd
     simp only [V1.den,Cell.den]
     rw [FH (by omega)])
end evs
end
section
section parts
variable {AV:Type}
theorem xa {α:Type} {l:List α} {n:Nat} {x:α} (h:nth l n=some x):l[n]?=some x:=by rwa [nth_eq] at h
theorem n5 {agg:Bool} {n:Nat} {l:List Cell} {off:Nat} {x:V1} (h:n6 agg n l off=some x) :
 (agg=true->off+n<=l.length /\ x=.agg ((l.drop off).take n)) /\ (agg=false->∃c,l[off]?=some c /\ x=.c c):=by
 unfold n6 at h
 cases agg with
 | true =>
   simp only at h
   cases hl:kJ l off n with
   | none=>simp [hl] at h
   | some r =>
     simp only [hl,Option.some.injEq] at h
     subst h
     have:=lsub_eq hl
     exact⟨fun _=>⟨this.2,by rw [this.1]⟩,(fun h=>by cases h)⟩
 | false =>
   simp only at h
   cases hl:nth l off with
   | none=>simp [hl] at h
   | some r =>
     simp only [hl,Option.some.injEq] at h
     subst h
     exact⟨(fun h=>by cases h),fun _=>⟨r,xa hl,rfl⟩⟩
theorem wV {H:Hp AV} {agg:Bool} {n:Nat} {l:List Cell} {off:Nat} {x:V1} (h:n6 agg n l off=some x) (hc:ClL H l):ClV1 H x:=by
 obtain⟨h1,h2⟩:=n5 h
 cases agg with
 | true =>
   obtain⟨_,rfl⟩:=h1 rfl
   exact fun c hm=>hc c (List.mem_of_mem_drop (List.mem_of_mem_take hm))
 | false =>
   obtain⟨c,hl,rfl⟩:=h2 rfl
   intro d hd
   simp [V1.cells] at hd
   subst hd
   exact hc d (List.mem_of_getElem? hl)
theorem Dn (ρ:Nm) (l:List Cell) (off n:Nat):((ah ρ l).toArray).extract off (off+n)=(ah ρ ((l.drop off).take n)).toArray:=by
 simp [ah,List.map_take,List.map_drop,List.extract_eq_take_drop]
theorem rB {P:Program} {ρ:Nm} {t:TypeId} {agg:Bool} {n:Nat} {l:List Cell} {off:Nat} {x:V1} (ha:cQ P t=some agg) (hs:jo P t=some n)
 (h:n6 agg n l off=some x) (w:World):(part t (ah ρ l).toArray off).run P w=.ok (x.den ρ) w:=by
 obtain⟨h1,h2⟩:=n5 h
 unfold part
 cases agg with
 | true =>
   obtain⟨_,rfl⟩:=h1 rfl
   simp only [Sem.run_bind,DK ha w,Result.andThen_ok,if_true,bM hs w,Sem.run_pure,V1.den,Dn]
 | false =>
   obtain⟨c,hl,rfl⟩:=h2 rfl
   simp [DK ha w,V1.den,ah,hl]
theorem vB {P:Program}:∀{fs:List Field} {l:List FdI} {i:Nat} {f:FdI},BG P fs=some l->nth l i=some f ->
 ∃g,fs[i]?=some g /\ f.off=g.offset /\ jo P g.type=some f.size /\ cQ P g.type=some f.agg
 | [],l,i,f,h,hn=>by cases h;simp [nth] at hn
 | g::r,l,i,f,h,hn=>by
   simp only [BG] at h
   split at h
   ·rename_i n a l' h1 h2 h3
    cases h
    cases i with
    | zero=>simp only [nth,Option.some.injEq] at hn;subst hn;exact⟨g,rfl,rfl,h1,h2⟩
    | succ i=>simp only [nth] at hn;exact vB (fs:=r) h3 hn
   ·cases h
theorem IE {P:Program} {t:TypeId} {k:Kd} (h:kdT P t=some k):cQ P t=some (oy k):=by
 unfold kdT at h
 unfold cQ
 cases hu:P.underlying t with
 | none=>simp [hu] at h
 | some d=>cases d<;>simp only [hu] at h<;>(first | (cases h;rfl) | (split at h<;>(first | (cases h;done) | (cases h;rfl))))
theorem v8 {P:Program} {N:Env AV} (hT:TblOk P N) {t:TypeId} {i:TI} (h:N.tt.get t=some i):jo P t=some i.size:=by
 obtain⟨inf,h1,_,h2,_⟩:=mQ (hT.ty t i h)
 rw [Kr h1,h2]
theorem b7 {P:Program} {N:Env AV} (hT:TblOk P N) {t:TypeId} {i:TI} (h:N.tt.get t=some i):kdT P t=some i.kd:=by
 obtain⟨inf,_,h1,_⟩:=mQ (hT.ty t i h)
 exact h1
theorem qV {P:Program} {N:Env AV} (hT:TblOk P N) {t:TypeId} {i:TI} {z:List Cell} (h:N.tt.get t=some i) (hz:i.zero=some z) (ρ:Nm) :
 ∃v,(∀w,(zeroValue t).run P w=.ok v w) /\ v.cells.toList=ah ρ z /\ ∀c∈z,c.name=none:=by
 obtain⟨inf,h1,_,_,h2,_⟩:=mQ (hT.ty t i h)
 rw [h2] at hz
 cases hv:inf.zero with
 | none=>simp [hv] at hz
 | some v =>
   simp only [hv] at hz
   have:=ic ρ hz
   exact⟨v,fun w=>by simp [zeroValue,typeInfo,program,Sem.run,h1,hv],this.1.symm,this.2⟩
end parts
section build
theorem mX (off:Nat):∀(vs:List Value) (k:Nat) (cur:Array Value),off+k+vs.length<=cur.size ->
 (vs.zipIdx k).foldl (fun cs (p:Value×Nat)=>cs.setIfInBounds (off+p.2) p.1) cur=(cur.toList.take (off+k)++vs++cur.toList.drop (off+k+vs.length)).toArray
 | [],k,cur,_=>by simp
 | v::rest,k,cur,h=>by
   simp only [List.zipIdx_cons,List.foldl_cons]
   rw [mX off rest (k+1) _ (by simp at h ⊢;omega)]
   have e:=list_seg_step cur.toList (off+k) v rest (by simp at h ⊢;omega)
   simp only [Array.toList_setIfInBounds]
   simpa [Nat.add_assoc,Nat.add_comm 1] using e
variable {AV:Type}
theorem Dg {P:Program} {ρ:Nm} {H:Hp AV} {fs:List Field} {l:List FdI} (hf:BG P fs=some l) (pl:Nat->Option (Nat×Nat))
 (hpl:∀(i:Nat) (f:FdI),nth l i=some f->pl i=some (f.off,f.size)) :
 ∀(ps:List (Nat×V1)) (z r:List Cell),zW l z ps=some r->ClL H z->(∀p∈ps,ClV1 H p.2) ->
   Instr.fill pl (ah ρ z).toArray (ps.map fun p=>(p.1,p.2.den ρ))=some (ah ρ r).toArray /\ ClL H r
 | [],z,r,h,hz,_=>by
   simp only [zW,Option.some.injEq] at h
   subst h
   exact⟨rfl,hz⟩
 | (i,x)::ps,z,r,h,hz,hp=>by
   simp only [zW] at h
   cases hn:nth l i with
   | none=>simp [hn] at h
   | some f =>
     simp only [hn] at h
     cases hb:Nat.beq f.size x.cells.length with
     | false=>simp [hb] at h
     | true =>
       simp only [hb] at h
       cases hl:gZ z f.off x.cells with
       | none=>simp [hl] at h
       | some z' =>
         simp only [hl] at h
         have hsz:f.size=x.cells.length:=(ai _ _).1 hb
         obtain⟨e1,e2⟩:=lput_eq hl
         have hx:=hp (i,x) (by simp)
         have hz':ClL H z':=by
          intro c hc
          rw [e1] at hc
          rcases List.mem_append.1 hc with hc | hc
          ·rcases List.mem_append.1 hc with hc | hc
           ·exact hz c (List.mem_of_mem_take hc)
           ·exact hx c hc
          ·exact hz c (List.mem_of_mem_drop hc)
         obtain⟨ih1,ih2⟩:=Dg hf pl hpl ps z' r h hz' (fun p hm=>hp p (by simp [hm]))
         refine⟨?_,ih2⟩
         have hcl:(x.den ρ).cells.toList=ah ρ x.cells:=V1.den_cells ρ x
         have hcs:(x.den ρ).cells.size=x.cells.length:=by rw [<- Array.length_toList,hcl,bY]
         simp only [List.map_cons,Instr.fill,hpl i f hn]
         rw [if_neg (by simp [hcs,hsz,bY];omega)]
         rw [<- ih1]
         congr 1
         have:=mX f.off (ah ρ x.cells) 0 (ah ρ z).toArray (by simp [bY];omega)
         rw [<- hcl] at this
         rw [<- Array.foldl_toList,Array.toList_zipIdx]
         refine this.trans ?_
         rw [hcl,e1]
         simp [ah,List.map_append,List.map_take,List.map_drop]
theorem tX {ρ:Nm} {H:Hp AV} (esz:Nat) :
 ∀(ps:List (Nat×V1)) (z r:List Cell),p8 esz z ps=some r->ClL H z->(∀p∈ps,ClV1 H p.2) ->
   Instr.fill (fun i=>some (i * esz,esz)) (ah ρ z).toArray (ps.map fun p=>(p.1,p.2.den ρ))=some (ah ρ r).toArray /\ ClL H r
 | [],z,r,h,hz,_=>by
   simp only [p8,Option.some.injEq] at h
   subst h
   exact⟨rfl,hz⟩
 | (i,x)::ps,z,r,h,hz,hp=>by
   simp only [p8] at h
   cases hb:Nat.beq esz x.cells.length with
   | false=>simp [hb] at h
   | true =>
     simp only [hb] at h
     cases hl:gZ z (i * esz) x.cells with
     | none=>simp [hl] at h
     | some z' =>
       simp only [hl] at h
       have hsz:esz=x.cells.length:=(ai _ _).1 hb
       obtain⟨e1,e2⟩:=lput_eq hl
       have hx:=hp (i,x) (by simp)
       have hz':ClL H z':=by
        intro c hc
        rw [e1] at hc
        rcases List.mem_append.1 hc with hc | hc
        ·rcases List.mem_append.1 hc with hc | hc
         ·exact hz c (List.mem_of_mem_take hc)
         ·exact hx c hc
        ·exact hz c (List.mem_of_mem_drop hc)
       obtain⟨ih1,ih2⟩:=tX esz ps z' r h hz' (fun p hm=>hp p (by simp [hm]))
       refine⟨?_,ih2⟩
       have hcl:(x.den ρ).cells.toList=ah ρ x.cells:=V1.den_cells ρ x
       have hcs:(x.den ρ).cells.size=x.cells.length:=by rw [<- Array.length_toList,hcl,bY]
       simp only [List.map_cons,Instr.fill]
       rw [if_neg (by simp [hcs,hsz,bY];rw [<- hsz];omega)]
       rw [<- ih1]
       congr 1
       have:=mX (i * esz) (ah ρ x.cells) 0 (ah ρ z).toArray (by simp [bY];omega)
       rw [<- hcl] at this
       rw [<- Array.foldl_toList,Array.toList_zipIdx]
       refine this.trans ?_
       rw [hcl,e1]
       simp [ah,List.map_append,List.map_take,List.map_drop]
end build
end
section
def vEq:Value->Value->Bool
 | .bool a,.bool b=>a==b
 | .string a,.string b=>a==b
 | .int _ a,.int _ b=>a==b
 | _,_=>false
def ga:List Value->List Value->Bool
 | [],[]=>true
 | x::xs,y::ys=>vEq x y&&ga xs ys
 | _,_=>false
theorem P1 (ρ:Nm) {x y:Cell} {b k:Bool} (h:eqC x y=some (b,k)):b=vEq (x.den ρ) (y.den ρ):=by
 unfold eqC at h
 split at h
 ·rename_i a ka b' kb h1 h2
  cases h
  rw [cK ρ h1,cK ρ h2]
  rfl
 ·split at h
  ·rename_i _ a ka _ b' kb h1 h2
   cases h
   rw [cR ρ h1,cR ρ h2]
   rfl
  ·split at h
   ·rename_i a ka b' kb h1 h2
    cases h
    rw [nL ρ h1,nL ρ h2]
    exact HF _ _
   ·cases h
theorem G3 (ρ:Nm):∀{xs ys:List Cell} {b k:Bool},eqL xs ys=some (b,k)->b=ga (ah ρ xs) (ah ρ ys)
 | [],[],b,k,h=>by cases h;rfl
 | [],_::_,_,_,h=>by simp [eqL] at h
 | _::_,[],_,_,h=>by simp [eqL] at h
 | x::xs,y::ys,b,k,h=>by
   simp only [eqL] at h
   cases h1:eqC x y with
   | none=>simp [h1] at h
   | some p =>
     obtain⟨b1,k1⟩:=p
     cases h2:eqL xs ys with
     | none=>simp [h1,h2] at h
     | some q =>
       obtain⟨b2,k2⟩:=q
       have e1:=P1 ρ h1
       have e2:=G3 ρ h2
       have e:ga (ah ρ (x::xs)) (ah ρ (y::ys))=(b1&&b2):=by simp [ah,ga,e1,e2]
       rw [e]
       simp only [h1,h2] at h
       cases k1<;>cases b1<;>cases k2<;>cases b2<;>simp at h<;>simp [<- h.1]
theorem gj:∀{ks:List FK} {l:List Cell},cY ks l=true->l.length=ks.length
 | [],[],_=>rfl
 | [],_::_,h=>by simp [cY] at h
 | _::_,[],h=>by simp [cY] at h
 | k::ks,c::cs,h=>by
   simp only [cY] at h
   split at h
   ·split at h
    ·simp [gj h]
    ·cases h
   ·cases h
theorem lL:∀{ks ks':List FK} {l:List Cell},cY (ks++ks') l=true->cY ks (l.take ks.length)=true /\ cY ks' (l.drop ks.length)=true
 | [],_,l,h=>by simpa [cY] using h
 | k::ks,ks',[],h=>by simp [cY] at h
 | k::ks,ks',c::cs,h=>by
   simp only [List.cons_append,cY] at h
   simp only [List.length_cons,List.take_succ_cons,List.drop_succ_cons,cY]
   split at h
   ·rename_i k' hk
    split at h
    ·rename_i hd
     exact lL h
    ·cases h
   ·cases h
theorem sC:∀(a b c d:List Value),a.length=c.length->ga (a++b) (c++d)=(ga a c&&ga b d)
 | [],_,[],_,_=>by simp [ga]
 | [],_,_::_,_,h=>by simp at h
 | _::_,_,[],_,h=>by simp at h
 | x::a,b,y::c,d,h=>by simp [ga,sC a b c d (by simpa using h),Bool.and_assoc]
def oN (P:Program) (t:TypeId) (x:V1):Prop:=(cQ P t=some true /\ ∃l,x=.agg l) \/ (cQ P t=some false /\ ∃c,x=.c c)
theorem Df {P:Program} {d:Nat} {t:TypeId} {ks:List FK} (h:jU P d t=some ks):∃b,cQ P t=some b:=by
 cases d with
 | zero=>cases h
 | succ d =>
   unfold jU at h
   unfold cQ
   cases hu:P.underlying t with
   | none=>simp [hu] at h
   | some u=>cases u<;>exact⟨_,rfl⟩
theorem MS {P:Program} {d:Nat} {t:TypeId} {ks:List FK} (h:jU P d t=some ks) (ha:cQ P t=some false):ks.length=1:=by
 cases d with
 | zero=>cases h
 | succ d =>
   unfold jU at h
   unfold cQ at ha
   cases hu:P.underlying t with
   | none=>simp [hu] at h
   | some u=>cases u<;>simp [hu] at h ha<;>simp [<- h]
theorem xx {P:Program} {ρ:Nm} {d D:Nat} (xs ys:List Cell) (w:World)
 (ih:∀(t:TypeId) (ks:List FK) (x y:V1),jU P d t=some ks->oN P t x->oN P t y->cY ks x.cells=true->cY ks y.cells=true ->
   (Op.equalIn D t (x.den ρ) (y.den ρ)).run P w=.ok (ga (ah ρ x.cells) (ah ρ y.cells)) w) :
 ∀(r:List Field) (off:Nat) (ks:List FK),off<=xs.length->off<=ys.length->mY P (jU P d) r off=some ks->cY ks (xs.drop off)=true->cY ks (ys.drop off)=true ->
   (forIn r ((none,()):Option Bool×Unit) fun f __s =>
     if f.name ≠ "_" then do
      let __do_lift <- part f.type (ah ρ xs).toArray f.offset
      let __do_lift_1 <- part f.type (ah ρ ys).toArray f.offset
      let __do_lift <- Op.equalIn D f.type __do_lift __do_lift_1
      if (!__do_lift)=true then pure (ForInStep.done (some false,())) else pure (ForInStep.yield (none,()))
     else pure (ForInStep.yield (none,())):Sem (Option Bool×Unit)).run P w =
     .ok (if ga (ah ρ (xs.drop off)) (ah ρ (ys.drop off))=true then(none,()) else(some false,())) w
 | [],off,ks,_,_,h,hx,hy=>by
   simp only [mY,Option.some.injEq] at h
   subst h
   have e1:xs.drop off=[]:=List.eq_nil_of_length_eq_zero (gj hx)
   have e2:ys.drop off=[]:=List.eq_nil_of_length_eq_zero (gj hy)
   simp [e1,e2,ah,ga]
 | f::r,off,ks,hox,hoy,h,hx,hy=>by
   simp only [mY] at h
   split at h
   ·cases h
   ·rename_i hname
    split at h
    ·cases h
    ·rename_i hoff
     have hoff:=(ai _ _).1 hoff
     split at h
     ·cases h
     ·rename_i k1 hk1
      split at h
      ·cases h
      ·rename_i n hn
       split at h
       ·cases h
       ·rename_i hlen
        have hlen:=(ai _ _).1 hlen
        split at h
        ·rename_i k2 hk2
         cases h
         obtain⟨agg,hagg⟩:=Df hk1
         obtain⟨x1,x2⟩:=lL hx
         obtain⟨y1,y2⟩:=lL hy
         have lx:=gj hx
         have ly:=gj hy
         simp only [List.length_drop,List.length_append] at lx ly
         rw [List.drop_drop,<- hlen] at x2 y2
         have hrec:=xx xs ys w ih r (off+n) k2 (by omega) (by omega) hk2 x2 y2
         have key:∀l:List Cell,cY k1 ((l.drop off).take k1.length)=true->off+n<=l.length ->
          ∃x,n6 agg n l off=some x /\ oN P f.type x /\ x.cells=(l.drop off).take n:=by
          intro l hl hle
          cases agg with
          | true =>
            refine⟨.agg ((l.drop off).take n),?_,.inl ⟨hagg,_,rfl⟩,rfl⟩
            have:∀(l:List Cell) (k m:Nat),k+m<=l.length->kJ l k m=some ((l.drop k).take m):=by
             have ht:∀(l:List Cell) (m:Nat),m<=l.length->jz l m=some (l.take m):=by
              intro l
              induction l with
              | nil=>intro m hm;simp at hm;subst hm;rfl
              | cons c l ih=>intro m hm;cases m with
                | zero=>rfl
                | succ m=>simp at hm;simp [jz,ih m hm]
             intro l
             induction l with
             | nil=>intro k m hm;simp at hm;obtain⟨rfl,rfl⟩:=hm;rfl
             | cons c l ih=>intro k m hm;cases k with
               | zero=>simp only [kJ,List.drop_zero];exact ht _ _ (by simpa using hm)
               | succ k=>simp only [kJ,List.drop_succ_cons];exact ih k m (by simp at hm;omega)
            simp [n6,this l off n hle]
          | false =>
            have h1:=MS hk1 hagg
            have hn1:n=1:=by omega
            subst hn1
            have hlt:off < l.length:=by omega
            refine⟨.c l[off],?_,.inr ⟨hagg,_,rfl⟩,?_⟩
            ·simp [n6,nth_eq,hlt]
            ·simp only [V1.cells];rw [List.drop_eq_getElem_cons hlt];rfl
         obtain⟨px,hpx,hsx,hcx⟩:=key xs x1 (by omega)
         obtain⟨py,hpy,hsy,hcy⟩:=key ys y1 (by omega)
         have rx:=rB (ρ:=ρ) hagg hn hpx w
         have ry:=rB (ρ:=ρ) hagg hn hpy w
         have hnm:f.name ≠ "_" := by simpa using hname
         have e0:=ih f.type k1 px py hk1 hsx hsy (by rw [hcx,hlen];exact x1) (by rw [hcy,hlen];exact y1)
         have split2:∀l:List Cell,l.drop off=(l.drop off).take n++l.drop (off+n):=by
          intro l
          rw [<- List.drop_drop,List.take_append_drop]
         have eall:ga (ah ρ (xs.drop off)) (ah ρ (ys.drop off))=(ga (ah ρ px.cells) (ah ρ py.cells)&&ga (ah ρ (xs.drop (off+n))) (ah ρ (ys.drop (off+n)))):=by
          rw [split2 xs,split2 ys]
          simp only [ah,List.map_append]
          rw [sC _ _ _ _ (by simp;omega)]
          rw [<- hcx,<- hcy]
         rw [List.forIn_cons]
         simp only [hnm,ne_eq,not_false_eq_true,if_true,Sem.run_bind,hoff,rx,ry,e0,Result.andThen_ok]
         rw [eall]
         cases hb:ga (ah ρ px.cells) (ah ρ py.cells) with
         | false=>simp
         | true =>
           simp only [Bool.not_true,Bool.false_eq_true,if_false,Sem.run_pure,Result.andThen_ok,Bool.true_and]
           exact hrec
        ·cases h
theorem arrFs_eq (e:TypeId) (n:Nat):∀k i,AE e n k i=(List.range' i k).map (Hf e n)
 | 0,_=>rfl
 | k+1,i=>by simp [AE,List.range'_succ,arrFs_eq e n k (i+1)]
theorem zL {c:Cell} {k:IntKind} (h:rU c=some (.int k)):∃n,∀ρ:Nm,c.den ρ=.int k n:=by
 cases c<;>simp [rU] at h<;>subst h<;>exact⟨_,fun _=>rfl⟩
theorem Ag {P:Program} {ρ:Nm} (w:World):∀(d D:Nat),d<=D->∀(t:TypeId) (ks:List FK) (x y:V1),jU P d t=some ks->oN P t x->oN P t y->cY ks x.cells=true->cY ks y.cells=true ->
 (Op.equalIn D t (x.den ρ) (y.den ρ)).run P w=.ok (ga (ah ρ x.cells) (ah ρ y.cells)) w
 | 0,_,_,_,_,_,_,h,_,_,_,_=>by cases h
 | d+1,0,hle,_,_,_,_,_,_,_,_,_=>by omega
 | d+1,D+1,hle,t,ks,x,y,h,sx,sy,kx,ky=>by
   have ih:=Ag (ρ:=ρ) (P:=P) w d D (by omega)
   unfold jU at h
   have oneK:∀{k:FK} {x:V1} (_:cQ P t=some false) (_:oN P t x),cY [k] x.cells=true->∃c,x=.c c /\ rU c=some k:=by
    intro k x ha hs hk
    rcases hs with⟨h1,_⟩ | ⟨_,c,rfl⟩
    ·rw [ha] at h1;cases h1
    ·refine⟨c,rfl,?_⟩
     simp only [V1.cells,cY] at hk
     cases h1:rU c with
     | none=>simp [h1] at hk
     | some k' =>
       cases h2:decide (k=k') with
       | false=>simp [h1,h2] at hk
       | true=>exact congrArg some (of_decide_eq_true h2).symm
   cases hu:P.underlying t with
   | none=>simp [hu] at h
   | some u =>
     rw [Op.equalIn]
     cases u<;>simp only [hu] at h<;>(first | (cases h;done) | skip)
     case bool =>
      cases h
      have ha:cQ P t=some false:=by simp [cQ,hu]
      obtain⟨c,rfl,hc⟩:=oneK ha sx kx
      obtain⟨c',rfl,hc'⟩:=oneK ha sy ky
      cases c<;>simp [rU] at hc<;>cases c'<;>simp [rU] at hc'<;>simp [aU hu,V1.den,Cell.den,V1.cells,ah,ga,vEq]
     case string =>
      cases h
      have ha:cQ P t=some false:=by simp [cQ,hu]
      obtain⟨c,rfl,hc⟩:=oneK ha sx kx
      obtain⟨c',rfl,hc'⟩:=oneK ha sy ky
      cases c<;>simp [rU] at hc<;>cases c'<;>simp [rU] at hc'<;>simp [aU hu,V1.den,Cell.den,V1.cells,ah,ga,vEq]
     case int k =>
      cases h
      have ha:cQ P t=some false:=by simp [cQ,hu]
      obtain⟨c,rfl,hc⟩:=oneK ha sx kx
      obtain⟨c',rfl,hc'⟩:=oneK ha sy ky
      obtain⟨n,e1⟩:=zL hc
      obtain⟨n',e2⟩:=zL hc'
      simp [aU hu,V1.den,V1.cells,ah,ga,vEq,e1 ρ,e2 ρ]
     case struct fs =>
      have ha:cQ P t=some true:=by simp [cQ,hu]
      obtain⟨xs,rfl⟩:∃l,x=.agg l:=by
       rcases sx with⟨_,h⟩ | ⟨h1,_⟩
       ·exact h
       ·rw [ha] at h1;cases h1
      obtain⟨ys,rfl⟩:∃l,y=.agg l:=by
       rcases sy with⟨_,h⟩ | ⟨h1,_⟩
       ·exact h
       ·rw [ha] at h1;cases h1
      cases hs:P.stoodInHeld t with
      | true=>simp [hs] at h
      | false =>
        simp only [hs] at h
        have hl:=xx (ρ:=ρ) xs ys w ih fs.toList 0 ks (Nat.zero_le _) (Nat.zero_le _) h (by simpa [V1.cells] using kx) (by simpa [V1.cells] using ky)
        simp only [Sem.run_bind,aU hu,Result.andThen_ok,program,Sem.run,hs,Bool.false_eq_true,if_false,V1.den]
        rw [<- Array.forIn_toList,hl]
        simp only [V1.cells,List.drop_zero,Result.andThen_ok]
        cases ga (ah ρ xs) (ah ρ ys)<;>simp
     case array len e =>
      have ha:cQ P t=some true:=by simp [cQ,hu]
      obtain⟨xs,rfl⟩:∃l,x=.agg l:=by
       rcases sx with⟨_,h⟩ | ⟨h1,_⟩
       ·exact h
       ·rw [ha] at h1;cases h1
      obtain⟨ys,rfl⟩:∃l,y=.agg l:=by
       rcases sy with⟨_,h⟩ | ⟨h1,_⟩
       ·exact h
       ·rw [ha] at h1;cases h1
      cases hs:jo P e with
      | none=>simp [hs] at h
      | some n =>
        simp only [hs] at h
        have hl:=xx (ρ:=ρ) xs ys w ih (AE e n len 0) 0 ks (Nat.zero_le _) (Nat.zero_le _) h (by simpa [V1.cells] using kx) (by simpa [V1.cells] using ky)
        rw [arrFs_eq,List.forIn_map] at hl
        simp only [Hf,show ("x" : String) ≠ "_" from by decide,ne_eq,not_false_eq_true,if_true] at hl
        simp only [Sem.run_bind,aU hu,Result.andThen_ok,bM hs w,V1.den]
        simp only [Std.Legacy.Range.forIn_eq_forIn_range',Std.Legacy.Range.size,Nat.sub_zero,Nat.add_one_sub_one,Nat.div_one]
        rw [hl]
        simp only [V1.cells,List.drop_zero,Result.andThen_ok]
        cases ga (ah ρ xs) (ah ρ ys)<;>simp
end
end Go.Sx
