import Derived.Test.YtcpdipfepeccgaaGreatDoorSxI
set_option linter.unusedVariables false
set_option linter.unusedSimpArgs false
set_option maxHeartbeats 4000000
namespace Go.Sx
variable {AV:Type} {P:Program} {N:Env AV}
theorem wanted_eq {ρ:Nm} {nt:Nat} {E:Ev} {a:Act} (hE:EM ρ nt E a) (ops:Array Oper) (o:Oper) {b k:Bool} (h:wantedS ops.toList o E=some (b,k)):Region.wanted o (yielded ops a.tmps)=b:=by
 unfold wantedS at h
 unfold Region.wanted
 cases hg:o.guard with
 | none=>simp only [hg,Option.some.injEq,Prod.mk.injEq] at h;exact h.1
 | some p =>
   obtain⟨j,want⟩:=p
   simp only [hg,nth_eq,Array.getElem?_toList] at h
   simp only [yielded]
   cases hj:ops[j]? with
   | none=>simp only [hj,Option.some.injEq,Prod.mk.injEq] at h;simp [<- h.1]
   | some oj =>
     simp only [hj] at h
     simp only [Option.bind_some]
     cases hd:oj.dst with
     | none=>simp only [hd,Option.some.injEq,Prod.mk.injEq] at h;simp [<- h.1]
     | some d =>
       simp only [hd] at h
       simp only [Option.bind_some]
       cases hl:look E d with
       | unk=>simp [hl] at h
       | tup l =>
         have hget:=hE.get d (by rw [hl];simp)
         rw [hl] at hget h
         simp only [Option.some.injEq,Prod.mk.injEq] at h
         cases ht:a.tmps[d]? with
         | none=>simp [<- h.1]
         | some v =>
           have:a.tmps.getD d undef=v:=by simp [ht]
           rw [this] at hget
           subst hget
           simp [SV.den,<- h.1]
       | clo f l =>
         have hget:=hE.get d (by rw [hl];simp)
         rw [hl] at hget h
         simp only [Option.some.injEq,Prod.mk.injEq] at h
         cases ht:a.tmps[d]? with
         | none=>simp [<- h.1]
         | some v =>
           have:a.tmps.getD d undef=v:=by simp [ht]
           rw [this] at hget
           subst hget
           simp [SV.den,<- h.1]
       | v x =>
         have hget:=hE.get d (by rw [hl];simp)
         rw [hl] at hget h
         cases ht:a.tmps[d]? with
         | none =>
           have:a.tmps.getD d undef=undef:=by simp [ht]
           rw [this] at hget
           cases x with
           | agg l=>simp [SV.den,V1.den,undef] at hget
           | c x =>
             cases x with
             | vs n o len es kn =>
               simp only [SV.den,V1.den,Cell.den,undef,aG] at hget
               split at hget<;>cases hget
             | sf n o es z f p =>
               simp only [SV.den,V1.den,Cell.den,undef,aG] at hget
               split at hget<;>cases hget
             | _=>simp [SV.den,V1.den,Cell.den,undef] at hget
         | some v =>
           have:a.tmps.getD d undef=v:=by simp [ht]
           rw [this] at hget
           subst hget
           cases x with
           | agg l=>simp only [Option.some.injEq,Prod.mk.injEq] at h;simp [SV.den,V1.den,<- h.1]
           | c x =>
             cases x with
             | vs n o len es kn =>
               simp [di] at h
               by_cases hz:len=0 /\ (ρ.L n).c=0<;>simp [SV.den,V1.den,Cell.den,aG,hz,<- h.1]
             | sf n o es z f p =>
               simp [di] at h
               by_cases hz:(f.ap (ρ.L n)).c=0<;>simp [SV.den,V1.den,Cell.den,aG,hz,<- h.1]
             | _=>simp [di] at h<;>simp [SV.den,V1.den,Cell.den,<- h.1]
noncomputable def pW (N:Env AV) (cal:Callee AV) (base:Nat) (all:List Oper) (i:Nat) (o:Oper) (s:St AV):Option (St AV×Ent) :=
 match wantedS all o s.E with
 | none=>none
 | some (b,_)=>if b=true then((stepOp N cal (nmOf all base i) o s).val.map fun s'=>(s',entOf N (nmOf all base i) (evl N.G s.H s.E) s.H s'.H o.op)) else some ({s with E:=dv s.E o.dst bc},.pure)
theorem mg {cal:Callee AV} {base:Nat} {all:List Oper} {i:Nat} {o:Oper} {s:St AV}:(gB N cal base all i o s).val=pW N cal base all i o s:=by
 unfold gB pW
 cases wantedS all o s.E with
 | none=>rfl
 | some p =>
   obtain⟨b,k⟩:=p
   cases k<;>cases b<;>simp [T.val,T.val_map]
theorem pd:∀(all:List Oper) (b i:Nat),b<=nmOf all b i
 | [],b,_=>Nat.le_refl _
 | _::_,b,0=>Nat.le_refl _
 | o::r,b,i+1=>by
   simp only [nmOf]
   split
   ·exact Nat.le_trans (Nat.le_succ b) (pd r (b+1) i)
   ·exact pd r b i
theorem oK (hT:TblOk P N) {cal:Callee AV} (hcal:cP P N cal) {nt L base i:Nat} {ops:Array Oper} {o:Oper} {s s':St AV} {en:Ent} (h:(gB N cal base ops.toList i o s).val=some (s',en)) (hcl:Closed N s) (hL:L<=base) (hH:L<=s.H.length) (hd:∀d,o.dst=some d->d < nt) :
 Closed N s' /\
 ∀{ρ:Nm} {a:Act} {w:World},At N nt ρ s a w->∀{K:Act->World->Prop} {Q:Exit->Act->World->Prop},
   (∀a' w',Lands N nt L ρ s w a s' a' w'->K a' w')->if Region.wanted o (yielded ops a.tmps)=true then o.wp P a w K Q else K (a.put o.dst undef) w:=by
 rw [mg] at h
 unfold pW at h
 split at h
 ·cases h
 ·rename_i b k hw
  split at h
  ·rename_i hb
   obtain⟨s1,hs,he⟩:=Option.map_eq_some_iff.1 h
   cases he
   obtain⟨h1,h2⟩:=Eh (P:=P) (nt:=nt) hT hcal hs hcl (Nat.le_trans hL (pd _ _ _)) hH hd
   refine⟨h1,fun {ρ a w} hat K Q hK=>?_⟩
   rw [wanted_eq hat.em ops o hw,if_pos hb]
   exact h2 hat hK
  ·rename_i hb
   cases h
   refine⟨⟨jb hcl.E (fun n c h=>⟨c,h⟩) (fC _),hcl.H⟩,fun {ρ a w} hat K Q hK=>?_⟩
   rw [wanted_eq hat.em ops o hw,if_neg hb]
   exact hK _ _ ⟨⟨ρ,hat.em.put hd hcl.E (fun _ _ _=>rfl) bc,hat.own,Evo.refl _ _ _ _⟩,by cases o.dst<;>rfl⟩
theorem Lands.trans {nt L:Nat} {ρ:Nm} {s s₁ s₂:St AV} {w w₁ w₂:World} {a a₁ a₂:Act} (h:∀ρ₁,EM ρ₁ nt s₁.E a₁->Own N ρ₁ s₁.H w₁->Evo N L ρ s.H w ρ₁ s₁.H w₁->Lands N nt L ρ₁ s₁ w₁ a₁ s₂ a₂ w₂) (h₁:Lands N nt L ρ s w a s₁ a₁ w₁):Lands N nt L ρ s w a s₂ a₂ w₂:=by
 obtain⟨⟨ρ₁,e1,o1,v1⟩,d1⟩:=h₁
 obtain⟨⟨ρ₂,e2,o2,v2⟩,d2⟩:=h ρ₁ e1 o1 v1
 exact⟨⟨ρ₂,e2,o2,v1.trans v2⟩,d2.trans d1⟩
theorem jO {cal:Callee AV} {base:Nat} {all:List Oper} {i:Nat} {o:Oper} {s:St AV} {r:St AV×Ent} (h:(gB N cal base all i o s).val=some r):s.H.length<=r.1.H.length:=by
 rw [mg] at h
 unfold pW at h
 split at h
 ·cases h
 ·split at h
  ·obtain⟨s1,hs,he⟩:=Option.map_eq_some_iff.1 h
   cases he
   exact Bu hs
  ·cases h;exact Nat.le_refl _
theorem sK (hT:TblOk P N) {cal:Callee AV} (hcal:cP P N cal) {nt L base:Nat} (ops:Array Oper) (hL:L<=base) :
 ∀(r:List Oper) (i:Nat) (s s':St AV),(hI N cal base ops.toList i r s).val=some s'->Closed N s->L<=s.H.length->(∀o∈r,∀d,o.dst=some d->d < nt) ->
   Closed N s' /\ ∀{ρ:Nm} {a:Act} {w:World},At N nt ρ s a w->∀{Q:Exit->Act->World->Prop},(∀a' w',Lands N nt L ρ s w a s' a' w'->Q .normal a' w')->wpList P ops Q r a w
 | [],i,s,s',h,hcl,_,_=>by
   simp only [hI,T.val,Option.some.injEq] at h
   subst h
   exact⟨hcl,fun {ρ a w} hat Q hQ=>hQ _ _ ⟨⟨ρ,hat.em,hat.own,Evo.refl _ _ _ _⟩,rfl⟩⟩
 | o::r,i,s,s',h,hcl,hH,hd=>by
   simp only [hI] at h
   obtain⟨⟨s₁,en⟩,h1,h2⟩:=T.bind_some h
   obtain⟨c1,k1⟩:=oK (P:=P) hT hcal h1 hcl hL hH (hd o (by simp))
   have hlen:L<=s₁.H.length:=Nat.le_trans hH (jO h1)
   obtain⟨c2,k2⟩:=sK hT hcal ops hL r (i+1) s₁ s' h2 c1 hlen (fun o' ho=>hd o' (by simp [ho]))
   refine⟨c2,fun {ρ a w} hat Q hQ=>?_⟩
   unfold wpList
   have:=k1 hat (K:=wpList P ops Q r) (Q:=Q) (fun a₁ w₁ h₁=>by
    obtain⟨⟨ρ₁,e1,o1,v1⟩,d1⟩:=h₁
    refine k2 ⟨e1,o1⟩ fun a₂ w₂ h₂=>hQ a₂ w₂ ?_
    obtain⟨⟨ρ₂,e2,o2,v2⟩,d2⟩:=h₂
    exact⟨⟨ρ₂,e2,o2,v1.trans v2⟩,d2.trans d1⟩)
   split
   ·rename_i hw;rw [if_pos hw] at this;exact .inl this
   ·rename_i hw;rw [if_neg hw] at this;exact this
end Go.Sx

namespace Go.Sx
variable {AV:Type} {N:Env AV}
noncomputable def eff (N:Env AV) (cal:Callee AV) (W:Bool) (nm:Nat) (o:Op) (ev:Operand->Option SV) (H:Hp AV):Option (SV×Hp AV×Ent) :=
 match W with
 | false=>some (bc,H,.pure)
 | true=>match callee? N ev o with
   | some (some (g,l))=>(callV cal (gnames N g) g l H).val.map fun r=>(r.1,r.2,entOf N nm ev H r.2 o)
   | some none=>none
   | none=>(light N nm ev H o).val.map fun r=>(r.1,updH H r.2,entOf N nm ev H (updH H r.2) o)
theorem iq {cal:Callee AV} {base:Nat} {all:List Oper} {i:Nat} {o:Oper} {s:St AV} :
 (gB N cal base all i o s).val=(wantedS all o s.E).bind fun p=>(eff N cal p.1 (nmOf all base i) o.op (evl N.G s.H s.E) s.H).map fun r=>({E:=dv s.E o.dst r.1,H:=r.2.1},r.2.2):=by
 rw [mg]
 unfold pW eff stepOp
 cases wantedS all o s.E with
 | none=>rfl
 | some p =>
   obtain⟨b,k⟩:=p
   simp only [Option.bind_some]
   cases b with
   | false=>simp
   | true =>
     simp only [if_true]
     split
     ·rename_i g l h
      simp only [h]
      rw [T.val_bind]
      cases (callV cal (gnames N g) g l s.H).val with
      | none=>rfl
      | some r=>rfl
     ·rename_i h;simp [h,T.val]
     ·rename_i h
      simp only [h]
      rw [T.val_bind]
      cases (light N (nmOf all base i) (evl N.G s.H s.E) s.H o.op).val with
      | none=>rfl
      | some r=>rfl
theorem ux {ev ev':Operand->Option SV}:∀l:List (Nat×Operand),(∀p∈l,ev p.2=ev' p.2)->evlP ev l=evlP ev' l
 | [],_=>rfl
 | (i,x)::l,hl=>by
   simp only [evlP]
   rw [hl (i,x) (by simp),ux l (fun q hq=>hl q (by simp [hq]))]
theorem pr {nm:Nat} {H:Hp AV} {arr:Option Arr} {r:SV×Option (Nat×Chunk AV)} (h:(lightArr N nm H arr).val=some r):hget H nm=none /\ nm < H.length /\ (∃c,r.2=some (nm,c)) /\
 ∀H2:Hp AV,hget H2 nm=none->nm < H2.length->(lightArr N nm H2 arr).val=some r:=by
 unfold lightArr at h
 split at h
 ·split at h
  ·rename_i h2 h3 h4
   simp only [T.val,Option.some.injEq] at h
   subst h
   refine⟨h2,(b4 _ _).1 h3,⟨_,rfl⟩,fun H2 e2 hl=>?_⟩
   have e3:=(b4 _ _).2 hl
   simp only [lightArr,e2,e3,h4,T.val]
  ·simp [T.val] at h
 ·simp [T.val] at h
theorem Af {nm:Nat} {H:Hp AV} {arr:Option Arr} {z:Option (Bool×AV×Nat×Nat)} {r:SV×Option (Nat×Chunk AV)} (h:(lightMk N nm H arr z).val=some r):hget H nm=none /\ nm < H.length /\ (∃c,r.2=some (nm,c)) /\
 ∀H2:Hp AV,hget H2 nm=none->nm < H2.length->(lightMk N nm H2 arr z).val=some r:=by
 unfold lightMk at h ⊢
 split at h
 ·obtain⟨h1,h2,h3,h4⟩:=pr h
  exact⟨h1,h2,h3,h4⟩
 ·unfold lightAbs at h
  split at h
  ·split at h
   ·rename_i h2 h3 h4
    have hb:=h
    obtain⟨rfl,h⟩:=cm h
    simp only [T.val,Option.some.injEq] at h
    subst h
    refine⟨h2,(b4 _ _).1 h3,⟨_,rfl⟩,fun H2 e2 hl=>?_⟩
    have e3:=(b4 _ _).2 hl
    simp only [lightAbs,e2,e3,h4,T.val]
   ·simp [T.val] at h
  ·simp [T.val] at h
theorem iU {ev ev':Operand->Option SV}:∀(l:List Operand),(∀x∈l,ev x=ev' x)->evls ev l=evls ev' l
 | [],_=>rfl
 | x::r,h=>by simp only [evls];rw [h x (by simp),iU r (fun y hy=>h y (by simp [hy]))]
theorem vt {ev ev':Operand->Option SV} (o:Op) (h:∀x∈o.operands,ev x=ev' x):txO ev o=txO ev' o:=by
 cases o<;>try rfl
 rename_i t x lo hi mx
 cases mx with
 | some _=>rfl
 | none=>simp only [txO];rw [h x (by simp [Op.operands])]
theorem xV {ev ev':Operand->Option SV} (o:Op) (h:∀x∈o.operands,ev x=ev' x):pureOp N ev o=pureOp N ev' o:=by
 cases o<;>simp only [pureOp]<;>simp only [Op.operands] at h
 case move x=>rw [h x (by simp)]
 case assign x=>rw [h x (by simp)]
 case pick c a b=>rw [h c (by simp),h a (by simp),h b (by simp)]
 case build t ps =>
  have:∀l:List (Nat×Operand),(∀p∈l,ev p.2=ev' p.2)->evlP ev l=evlP ev' l:=by
   intro l
   induction l with
   | nil=>intro _;rfl
   | cons p l ih =>
     intro hl
     obtain⟨i,x⟩:=p
     simp only [evlP]
     rw [hl (i,x) (by simp),ih (fun q hq=>hl q (by simp [hq]))]
  rw [this ps.toList (fun p hp=>h p.2 (by simp;exact⟨p.1,Array.mem_toList_iff.1 hp⟩))]
 case nilCheck x=>rw [h x (by simp)]
 case fieldAddr t x i=>rw [h x (by simp)]
 case field t x i=>rw [h x (by simp)]
 case binOp op t x y t'=>rw [h x (by simp),h y (by simp)]
 case unOp op t x=>cases op<;>simp only []<;>rw [h x (by simp)]
 case slice t x lo hi mx =>
  have e1:txO ev (.slice t x lo hi mx)=txO ev' (.slice t x lo hi mx):=vt _ (by simpa [Op.operands] using h)
  rw [e1]
  split
  ·unfold cutO
   rw [h x (by simp)]
   have b1:∀d,rF ev d lo=rF ev' d lo:=fun d=>by
    cases lo with
    | none=>rfl
    | some y=>simp only [rF];rw [h y (by simp)]
   have b2:∀d,rF ev d hi=rF ev' d hi:=fun d=>by
    cases hi with
    | none=>rfl
    | some y=>simp only [rF];rw [h y (by simp)]
   simp only [b1,b2]
  ·rfl
 case extract x i=>rw [h x (by simp)]
 case makeFunc fn first captured=>rw [iU captured.toList (fun x hx=>h x (by simp only [Array.mem_append];exact .inr (Array.mem_toList_iff.1 hx)))]
 case makeInterface t x=>rw [h x (by simp)]
 case indexAddr t x i=>rw [h x (by simp),h i (by simp)]
 case index t x i=>rw [h x (by simp),h i (by simp)]
 case convert a b x=>rw [h x (by simp)]
 case call c =>
  split
  ·split
   ·rename_i x t hx ht
    rw [h x (by simp only [Call.operands,Array.mem_append];exact .inr (by rw [<- Array.mem_toList_iff,hx];simp))]
   ·rfl
  ·rfl
theorem lE {ev ev':Operand->Option SV} (o:Op) (h:∀x∈o.operands,ev x=ev' x):kT ev o=kT ev' o:=by
 cases o<;>try rfl
 rename_i t x lo hi mx
 have hx:ev x=ev' x:=h x (by simp [Op.operands])
 have hb:∀(y:Option Operand) (d:Nat),(∀z,y=some z->ev z=ev' z)->rG ev d y=rG ev' d y:=fun y d hy=>by
  cases y with
  | none=>rfl
  | some z=>simp only [rG];rw [hy z rfl]
 simp only [kT]
 rw [hx]
 split
 ·rfl
 ·split
  ·rw [hb lo 0 (fun z hz=>h z (by simp [Op.operands,hz])),hb hi _ (fun z hz=>h z (by simp [Op.operands,hz]))]
  ·rfl
theorem yt {ev ev':Operand->Option SV} (o:Op) (h:∀x∈o.operands,ev x=ev' x):heavyE ev o=heavyE ev' o:=by
 unfold heavyE
 split
 ·rw [lE o h,vt o h]
 ·rename_i hh
  clear hh
  cases o<;>simp only []
  case convert a b x=>simp only [Op.operands] at h;rw [h x (by simp)]
  case call c =>
   simp only [Op.operands,Call.operands] at h
   split
   ·split
    ·rename_i x hx
     rw [h x (by simp only [Array.mem_append];exact .inr (by rw [<- Array.mem_toList_iff,hx];simp))]
    ·rfl
   ·rfl
theorem pF {ev ev':Operand->Option SV} (o:Op) (h:∀x∈o.operands,ev x=ev' x):callee? N ev o=callee? N ev' o:=by
 unfold callee?
 rw [yt o h]
 split
 ·rw [iU o.operands.toList (fun x hx=>h x (Array.mem_toList_iff.1 hx))]
 ·rename_i hh
  clear hh
  cases o<;>simp only []
  case call c =>
   simp only [Op.operands,Call.operands] at h
   split
   ·rename_i f hf
    rw [h f (by rw [hf];simp),iU c.args.toList (fun x hx=>h x (by simp only [Array.mem_append];exact .inr (Array.mem_toList_iff.1 hx)))]
   ·rename_i f m hf
    rw [h f (by rw [hf];simp),iU c.args.toList (fun x hx=>h x (by simp only [Array.mem_append];exact .inr (Array.mem_toList_iff.1 hx)))]
   ·rfl
theorem Ae {ev ev':Operand->Option SV} (nm:Nat) (H:Hp AV) (o:Op) (h:∀x∈o.operands,ev x=ev' x):light N nm ev H o=light N nm ev' H o:=by
 unfold light
 rw [xV o h]
 split
 ·rfl
 ·rename_i hpo
  clear hpo
  have hps:=lE o h
  cases o<;>simp only []<;>simp only [Op.operands] at h
  case slice t x lo hi mx=>rw [hps]
  case box t x=>rw [h x (by simp)]
  case load t x=>rw [h x (by simp)]
  case store t x y=>rw [h x (by simp),h y (by simp)]
  case makeSlice t x y=>rw [h x (by simp),h y (by simp)]
  case buildSlice t len parts=>rw [ux parts.toList (fun p hp=>h p.2 (by simp;exact⟨p.1,Array.mem_toList_iff.1 hp⟩))]
theorem Fj {ev ev':Operand->Option SV} (nm:Nat) (H H':Hp AV) (o:Op) (h:∀x∈o.operands,ev x=ev' x):entOf N nm ev H H' o=entOf N nm ev' H H' o:=by
 unfold entOf
 rw [pF o h]
 split
 ·rfl
 ·rfl
 ·rename_i hpo
  clear hpo
  have hps:=lE o h
  cases o<;>simp only []<;>simp only [Op.operands] at h
  case slice t x lo hi mx=>rw [hps]
  case load t x=>rw [h x (by simp)]
  case store t x y=>rw [h x (by simp)]
theorem xd {cal:Callee AV} {W:Bool} {nm:Nat} {o:Op} {ev ev':Operand->Option SV} {H:Hp AV} (h:∀x∈o.operands,ev x=ev' x):eff N cal W nm o ev H=eff N cal W nm o ev' H:=by
 unfold eff
 rw [pF o h,Ae nm H o h]
 simp only [Fj nm H _ o h]
def n5:Ent->Bool
 | .call _ _=>true
 | _=>false
theorem kg {cal:Callee AV} {W:Bool} {nm:Nat} {o:Op} {ev:Operand->Option SV} {H H':Hp AV} {v:SV} {en:Ent} (h:eff N cal W nm o ev H=some (v,H',en)) (hn:n5 en=false) :
 ∃u,H'=updH H u /\ (u=none \/ ∃n c,u=some (n,c) /\ en=.wr n /\ n < H.length) /\
   (∀n,en=.wr n->n < H.length /\ (lP o=true) /\ n=nm \/ ∃c,hget H n=some c) /\
   ∀H2:Hp AV,(∀n,(en=.rd n \/ en=.wr n)->hget H2 n=hget H n)->((lP o=true)->nm < H2.length)->eff N cal W nm o ev H2=some (v,updH H2 u,en):=by
 unfold eff at h
 cases W with
 | false =>
   simp only [Option.some.injEq,Prod.mk.injEq] at h
   obtain⟨rfl,rfl,rfl⟩:=h
   exact⟨none,rfl,.inl rfl,(fun n h=>by cases h),fun H2 _ _=>rfl⟩
 | true =>
   simp only at h
   split at h
   ·rename_i g l hc
    obtain⟨r,_,hr⟩:=Option.map_eq_some_iff.1 h
    cases hr
    simp [entOf,hc,n5] at hn
   ·cases h
   ·rename_i hc
    obtain⟨⟨v',u⟩,hl,hr⟩:=Option.map_eq_some_iff.1 h
    simp only [Prod.mk.injEq] at hr
    obtain⟨rfl,rfl,hen⟩:=hr
    have hent:∀H2 H3:Hp AV,entOf N nm ev H2 H3 o=en:=fun H2 H3=>by rw [<- hen];simp only [entOf,hc]
    have done:∀H2:Hp AV,(light N nm ev H2 o).val=some (v',u)->eff N cal true nm o ev H2=some (v',updH H2 u,en):=fun H2 h2=>by
     unfold eff
     simp only [hc,h2,Option.map_some,hent H2]
    refine⟨u,rfl,?_⟩
    unfold light at hl
    split at hl
    ·-- looks at no memory
     rename_i t ht
     rw [T.val_map] at hl
     obtain⟨v0,hv0,he⟩:=Option.map_eq_some_iff.1 hl
     cases he
     have hno:∀n,en≠.wr n:=by
      intro n hw
      rw [<- hen] at hw
      simp only [entOf,hc] at hw
      cases o<;>simp [pureOp] at ht hw
      all_goals (split at hw<;>cases hw)
     refine⟨.inl rfl,(fun n h=>absurd h (hno n)),fun H2 _ _=>done H2 ?_⟩
     unfold light
     simp only [ht,T.val_map,hv0,Option.map_some]
    ·rename_i hpo
     split at hl
     ·-- alloc
      rename_i t
      split at hl
      ·rename_i kd sz z fl h1 h2 h3 h4
       simp only [T.val,Option.some.injEq,Prod.mk.injEq] at hl
       obtain⟨rfl,rfl⟩:=hl
       have hwr:en=.wr nm:=by rw [<- hen];simp only [entOf,hc]
       have hlt:=(b4 _ _).1 h3
       refine⟨.inr ⟨_,_,rfl,hwr,hlt⟩,(fun n h=>.inl ?_),fun H2 hH2 hlen=>done H2 ?_⟩
       ·rw [hwr] at h;cases h;exact⟨hlt,rfl,rfl⟩
       ·have e2:=hH2 nm (.inr hwr)
        rw [h2] at e2
        have e3:=(b4 _ _).2 (hlen rfl)
        unfold light
        simp only [hpo,h1,e2,e3,h4,T.val]
      ·simp [T.val] at hl
     ·-- box
      rename_i t x
      split at hl
      ·rename_i b h1 h2 h3 h4
       simp only [T.val,Option.some.injEq,Prod.mk.injEq] at hl
       obtain⟨rfl,rfl⟩:=hl
       have hwr:en=.wr nm:=by rw [<- hen];simp only [entOf,hc]
       have hlt:=(b4 _ _).1 h3
       refine⟨.inr ⟨_,_,rfl,hwr,hlt⟩,(fun n h=>.inl ?_),fun H2 hH2 hlen=>done H2 ?_⟩
       ·rw [hwr] at h;cases h;exact⟨hlt,rfl,rfl⟩
       ·have e2:=hH2 nm (.inr hwr)
        rw [h2] at e2
        have e3:=(b4 _ _).2 (hlen rfl)
        unfold light
        simp only [hpo,h1,e2,e3,h4,T.val]
      ·simp [T.val] at hl
     ·-- load
      rename_i t x
      split at hl
      ·rename_i p hp
       rw [T.val_map] at hl
       obtain⟨v0,hv0,he⟩:=Option.map_eq_some_iff.1 hl
       cases he
       have hno:∀n,en≠.wr n:=by
        intro n hw
        rw [<- hen] at hw
        simp only [entOf,hc,hp] at hw
        split at hw<;>cases hw
       refine⟨.inl rfl,(fun n h=>absurd h (hno n)),fun H2 hH2 _=>done H2 ?_⟩
       have e2:loadV N t H2 p=loadV N t H p:=by
        unfold loadV
        split
        ·rename_i n off
         have:en=.rd n:=by rw [<- hen];simp only [entOf,hc,hp]
         rw [hH2 n (.inl this)]
        ·rename_i n idx es off
         have:en=.rd n:=by rw [<- hen];simp only [entOf,hc,hp]
         rw [hH2 n (.inl this)]
        ·rfl
       unfold light
       simp only [hpo,hp,T.val_map,e2,hv0,Option.map_some]
      ·simp [T.val] at hl
     ·-- store
      rename_i t x y
      split at hl
      ·rename_i n off b hx hy
       split at hl
       ·rename_i l ty i h3 h4
        split at hl
        ·rename_i h5
         split at hl
         ·rename_i l' h6
          simp only [T.val,Option.some.injEq,Prod.mk.injEq] at hl
          obtain⟨rfl,rfl⟩:=hl
          have hwr:en=.wr n:=by rw [<- hen];simp only [entOf,hc,hx]
          refine⟨.inr ⟨_,_,rfl,hwr,aH h3⟩,(fun m h=>.inr ?_),fun H2 hH2 _=>done H2 ?_⟩
          ·rw [hwr] at h;cases h;exact⟨_,h3⟩
          ·have e2:=hH2 n (.inr hwr)
           rw [h3] at e2
           unfold light
           simp only [hpo,hx,hy,e2,h4,h5,h6,T.val]
         ·simp [T.val] at hl
        ·simp [T.val] at hl
       ·simp [T.val] at hl
      ·rename_i n idx es off b hx hy
       have hwr:en=.wr n:=by rw [<- hen];simp only [entOf,hc,hx]
       split at hl
       ·rename_i l ve ty i h3 h4
        split at hl
        ·rename_i h5
         split at hl
         ·simp [T.val] at hl
         rename_i h50
         split at hl
         ·rename_i l' h6
          simp only [T.val,Option.some.injEq,Prod.mk.injEq] at hl
          obtain⟨rfl,rfl⟩:=hl
          refine⟨.inr ⟨_,_,rfl,hwr,aH h3⟩,(fun m h=>.inr ?_),fun H2 hH2 _=>done H2 ?_⟩
          ·rw [hwr] at h;cases h;exact⟨_,h3⟩
          ·have e2:=hH2 n (.inr hwr)
           rw [h3] at e2
           unfold light
           simp only [hpo,hx,hy,e2,h4,h5,h50,h6,T.val]
         ·simp [T.val] at hl
        ·simp [T.val] at hl
       ·rename_i a i h3 h4
        split at hl
        ·rename_i h5
         split at hl
         ·rename_i bb a' h6
          obtain⟨rfl,hl⟩:=cm hl
          simp only [T.val,Option.some.injEq,Prod.mk.injEq] at hl
          obtain⟨rfl,rfl⟩:=hl
          refine⟨.inr ⟨_,_,rfl,hwr,aH h3⟩,(fun m h=>.inr ?_),fun H2 hH2 _=>done H2 ?_⟩
          ·rw [hwr] at h;cases h;exact⟨_,h3⟩
          ·have e2:=hH2 n (.inr hwr)
           rw [h3] at e2
           unfold light
           simp only [hpo,hx,hy,e2,h4,h5,h6,T.val]
         ·simp [T.val] at hl
        ·simp [T.val] at hl
       ·simp [T.val] at hl
      ·simp [T.val] at hl
     ·-- make
      rename_i t x y
      obtain⟨h2,hlt,⟨c,hu⟩,hall⟩:=Af hl
      simp only at hu
      subst hu
      have hwr:en=.wr nm:=by rw [<- hen];simp only [entOf,hc]
      refine⟨.inr ⟨_,_,rfl,hwr,hlt⟩,(fun n h=>.inl ?_),fun H2 hH2 hlen=>done H2 ?_⟩
      ·rw [hwr] at h;cases h;exact⟨hlt,rfl,rfl⟩
      ·have e2:=hH2 nm (.inr hwr)
       rw [h2] at e2
       unfold light
       simp only [hpo]
       exact hall H2 e2 (hlen rfl)
     ·-- the building of a slice
      rename_i t len parts
      obtain⟨h2,hlt,⟨c,hu⟩,hall⟩:=pr hl
      simp only at hu
      subst hu
      have hwr:en=.wr nm:=by rw [<- hen];simp only [entOf,hc]
      refine⟨.inr ⟨_,_,rfl,hwr,hlt⟩,(fun n h=>.inl ?_),fun H2 hH2 hlen=>done H2 ?_⟩
      ·rw [hwr] at h;cases h;exact⟨hlt,rfl,rfl⟩
      ·have e2:=hH2 nm (.inr hwr)
       rw [h2] at e2
       unfold light
       simp only [hpo]
       exact hall H2 e2 (hlen rfl)
     ·-- a part of a slice
      rename_i t x lo hi mx
      split at hl
      ·rename_i p hp
       obtain⟨he,si,lst,ty,hs,hn,hes,hfit⟩:=pq hl
       simp only [Prod.mk.injEq] at he
       obtain⟨rfl,rfl⟩:=he
       have hrd:en=.rd p.n:=by rw [<- hen];simp only [entOf,hc,hp]
       refine⟨.inl rfl,(fun n h=>by rw [hrd] at h;cases h),fun H2 hH2 _=>done H2 ?_⟩
       have e2:=hH2 p.n (.inl hrd)
       unfold light
       simp only [hpo,hp]
       unfold lightSl at hl ⊢
       rw [e2]
       exact hl
      ·simp [T.val] at hl
     ·simp [T.val] at hl
theorem E4 {R:List Nat} {H K:Hp AV} {n:Nat} (h:(keptU N R H K n).ok=true):hget H n=hget K n:=by
 unfold keptU at h
 split at h
 ·unfold IP at h
  split at h
  ·rename_i a b e1 e2
   split at h
   ·rename_i hs
    rw [e1,e2,N.F.same_ok a b hs]
   ·cases h
  ·rename_i l t l' t' e1 e2
   have h:gb l t l' t'=true:=h
   unfold gb at h
   obtain⟨rfl,rfl⟩:=@of_decide_eq_true _ (Classical.propDecidable _) h
   rw [e1,e2]
  ·cases h
 ·cases h
theorem E5 {R:List Nat} {H H2 B:Hp AV} (hl:H.length<=B.length) (h:maskH R 0 H2=maskH R 0 H):keptU N R H2 (mergeH R 0 H2 B)=keptU N R H (mergeH R 0 H B):=by
 have hlen:H2.length=H.length:=by have h1:=congrArg List.length h;rw [iN,iN] at h1;exact h1
 funext n
 unfold keptU
 cases hs:sees R n with
 | false=>rfl
 | true =>
   have e:hget H2 n=hget H n:=by
    have h1:hget (maskH R 0 H2) n=hget H2 n:=by rw [j7,Nat.zero_add,if_pos hs]
    have h2:hget (maskH R 0 H) n=hget H n:=by rw [j7,Nat.zero_add,if_pos hs]
    rw [<- h1,<- h2,h]
   simp only
   rw [ff _ _ _ _ _ hl,ff _ _ _ _ _ (by omega),hlen,e]
theorem pC {cal:Callee AV} {W:Bool} {nm:Nat} {o:Op} {ev:Operand->Option SV} {H H':Hp AV} {v:SV} {R:List Nat} {U:Nat->Tri} (h:eff N cal W nm o ev H=some (v,H',.call R U)) :
 ∃(nl:List Nat) (B:Hp AV),R=reach H 400 nl [] /\ H.length<=B.length /\ H'=mergeH R 0 H B /\ (∀n,n < H.length->(hget H' n).isSome=(hget H n).isSome) /\ (∀n,(U n).ok=true->hget H' n=hget H n) /\
   ∀H2:Hp AV,reach H2 400 nl []=R->maskH R 0 H2=maskH R 0 H->eff N cal W nm o ev H2=some (v,mergeH R 0 H2 B,.call R U):=by
 unfold eff at h
 cases W with
 | false=>simp at h
 | true =>
   simp only at h
   split at h
   ·rename_i g l hc
    obtain⟨⟨v',K⟩,hr,he⟩:=Option.map_eq_some_iff.1 h
    simp only [Prod.mk.injEq] at he
    obtain⟨rfl,rfl,hen⟩:=he
    have hR:reach H 400 (namesVs l++gnames N g) []=R:=by
     simp only [entOf,hc,Ent.call.injEq] at hen
     exact hen.1
    have hU:keptU N R H K=U:=by
     simp only [entOf,hc,Ent.call.injEq] at hen
     rw [<- hR]
     exact hen.2
    have hr0:=hr
    unfold callV at hr
    rw [hR] at hr
    simp only at hr
    split at hr
    ·simp [T.val] at hr
    ·rename_i hargs
     split at hr
     ·simp [T.val] at hr
     ·rename_i hheap
      obtain⟨⟨v0,B⟩,hb,hr⟩:=T.bind_some hr
      simp only at hr
      split at hr
      ·simp [T.val] at hr
      ·rename_i hpers
       simp only [T.val,Option.some.injEq,Prod.mk.injEq] at hr
       obtain⟨rfl,rfl⟩:=hr
       have hlen:=(iu hpers).1
       rw [iN] at hlen
       refine⟨_,B,hR.symm,hlen,rfl,fun n hn=>?_,fun n hn=>?_,fun H2 h2 h3=>?_⟩
       ·rw [ff _ _ _ _ _ hlen,if_pos hn,Nat.zero_add]
        cases hx:hget H n with
        | none=>rfl
        | some x =>
          simp only
          split
          ·rename_i hs
           obtain⟨c',hc'⟩:=(iu hpers).2.1 n x (by rw [j7,Nat.zero_add,if_pos hs];exact hx)
           rw [hc'];rfl
          ·rfl
       ·rw [<- hU] at hn
        exact(E4 hn).symm
       unfold eff
       simp only [hc]
       have:(callV cal (gnames N g) g l H2).val=some (v0,mergeH R 0 H2 B):=by
        unfold callV
        rw [h2,h3]
        simp only [hargs,hheap,T.val_bind,hb,Option.bind_some,hpers,T.val]
       rw [this]
       simp only [Option.map_some,entOf,hc,h2]
       rw [<- hU,E5 hlen h3]
   ·cases h
   ·rename_i hc
    obtain⟨r,_,he⟩:=Option.map_eq_some_iff.1 h
    simp only [Prod.mk.injEq] at he
    obtain⟨_,_,hen⟩:=he
    simp only [entOf,hc] at hen
    cases o<;>simp at hen
    all_goals (split at hen<;>cases hen)
theorem DP {cal:Callee AV} {W:Bool} {nm:Nat} {o:Op} {ev:Operand->Option SV} {H H':Hp AV} {v:SV} {en:Ent} (h:eff N cal W nm o ev H=some (v,H',en)) (hnm:N.G<=nm) (hH:N.G<=H.length) (g:Nat) (hg:g < N.G) :
 (hget H' g).isSome=(hget H g).isSome:=by
 cases hi:n5 en with
 | false =>
   obtain⟨u,rfl,hu,hw,_⟩:=kg h hi
   rcases hu with rfl | ⟨n,c,rfl,hen,hlt⟩
   ·rfl
   ·by_cases e:n=g
    ·subst e
     simp only [updH]
     rw [aO _ hlt]
     rcases hw n hen with⟨_,_,rfl⟩ | ⟨c',hc'⟩
     ·omega
     ·rw [hc'];rfl
    ·simp only [updH]
     rw [ay _ e]
 | true =>
   cases en with
   | pure=>cases hi
   | rd _=>cases hi
   | wr _=>cases hi
   | call R U =>
     obtain⟨_,_,_,_,_,k,_⟩:=pC h
     exact k g (by omega)
end Go.Sx

namespace Go.Sx
variable {AV:Type} {N:Env AV}
theorem cF:∀(l:List Nat) (n:Nat),hasN l n=true↔n∈l
 | [],n=>by simp [hasN]
 | x::r,n=>by
   simp only [hasN]
   split
   ·rename_i h;simp [(af _ _).1 h]
   ·rename_i h
    have:=(aD _ _).1 h
    rw [cF r n]
    simp [Ne.symm this]
theorem gd (H:Hp AV):∀(f:Nat) (todo acc:List Nat) (n:Nat),n∈acc->n∈reach H f todo acc
 | 0,_,_,_,h=>by simpa [reach] using h
 | _+1,[],_,_,h=>by simpa [reach] using h
 | f+1,m::r,acc,n,h=>by
   simp only [reach]
   split
   ·exact gd H f r acc n h
   ·split
    ·exact gd H f _ _ n (List.mem_cons_of_mem _ h)
    ·exact gd H f _ _ n (List.mem_cons_of_mem _ h)
    ·exact gd H f _ _ n (List.mem_cons_of_mem _ h)
theorem ec {H H2:Hp AV} {m:Nat} (hd:∀n,n≠m->hget H2 n=hget H n):∀(f:Nat) (todo acc:List Nat),m ∉ reach H f todo acc->reach H2 f todo acc=reach H f todo acc
 | 0,_,_,_=>rfl
 | _+1,[],_,_=>rfl
 | f+1,n::r,acc,h=>by
   simp only [reach] at h ⊢
   cases ha:hasN acc n with
   | true=>simp only [ha] at h ⊢;exact ec hd f r acc h
   | false =>
     simp only [ha] at h ⊢
     have hn:n≠m:=by
      intro e
      subst e
      split at h
      ·exact h (gd H f _ _ n (by simp))
      ·exact h (gd H f _ _ n (by simp))
      ·exact h (gd H f _ _ n (by simp))
     rw [hd n hn]
     cases hl:hget H n with
     | none=>simp only [hl] at h ⊢;exact ec hd f _ _ h
     | some c =>
       cases c with
       | cells l ty=>simp only [hl] at h ⊢;exact ec hd f _ _ h
       | vec l es ty=>simp only [hl] at h ⊢;exact ec hd f _ _ h
       | dead=>simp only [hl] at h ⊢;exact ec hd f _ _ h
       | abs a=>simp only [hl] at h ⊢;exact ec hd f _ _ h
theorem zl (R:List Nat) (n:Nat):sees R n=(bitsOf R).testBit n:=by
 have e:Nat.land (Nat.shiftRight (bitsOf R) n) 1=(1 &&& bitsOf R >>> n):=Nat.and_comm _ _
 unfold sees
 rw [e,Nat.testBit]
 split
 ·rename_i h;rw [h];rfl
 ·rename_i m h;rw [h];rfl
theorem uO:∀{R:List Nat} {n:Nat},n∈R->(bitsOf R).testBit n=true
 | [],n,h=>by cases h
 | m::r,n,h=>by
   have e:bitsOf (m::r)=(1 <<< m ||| bitsOf r):=rfl
   rw [e,Nat.testBit_or]
   rcases List.mem_cons.1 h with rfl | h
   ·simp [Nat.testBit_shiftLeft]
   ·rw [uO h];simp
theorem zL {R:List Nat} {n:Nat} (h:sees R n=false):n ∉ R:=by
 intro hm;rw [zl,uO hm] at h;cases h
theorem qj {R:List Nat} {n:Nat} (h:sees R n=false) (x:Option (Chunk AV)):∀(H:Hp AV) (i k:Nat),i+k=n->maskH R i (lset H k x)=maskH R i H
 | [],_,_,_=>by simp [lset]
 | y::r,i,0,e=>by
   simp only [lset,maskH]
   have:i=n:=by omega
   rw [this,h]
 | y::r,i,k+1,e=>by
   simp only [lset,maskH]
   rw [qj h x r (i+1) k (by omega)]
theorem nQ {R:List Nat} {n:Nat} (h:sees R n=false) (c:Chunk AV):∀(H B:Hp AV) (i k:Nat),i+k=n->k < H.length->H.length<=B.length->mergeH R i (lset H k (some c)) B=lset (mergeH R i H B) k (some c)
 | [],_,_,_,_,hk,_=>by simp at hk
 | y::r,[],i,k,_,_,hl=>by simp at hl
 | y::r,b::q,i,0,e,_,_=>by
   have:i=n:=by omega
   cases y<;>simp [lset,mergeH,this,h]
 | y::r,b::q,i,k+1,e,hk,hl=>by
   have ih:=nQ h c r q (i+1) k (by omega) (by simpa using hk) (by simpa using hl)
   cases y<;>simp [lset,mergeH,ih]
theorem tQ {R:List Nat} {H B:Hp AV} {n:Nat} (h:sees R n=false) (hn:n < H.length) (hl:H.length<=B.length):hget (mergeH R 0 H B) n=hget H n:=by
 rw [ff _ _ _ _ _ hl,if_pos hn,Nat.zero_add,h]
 cases hget H n<;>simp
theorem E2 {α:Type} (l:List α) {n m:Nat} (x y:α) (h:n≠m):lset (lset l n x) m y=lset (lset l m y) n x:=by
 simp only [lset_eq];exact List.set_comm _ _ h
theorem AO {a b:Ent} (h:compatE a b=true):compatE b a=true:=by
 cases a<;>cases b<;>simp_all [compatE]<;>exact(aD _ _).2 (Ne.symm ((aD _ _).1 h))
structure Fits (N:Env AV) (o:Op) (nm:Nat) (ev:Operand->Option SV) (H:Hp AV):Prop where
 cl:∀x∈o.operands,∀v,ev x=some v->ClV H v
 room:(lP o=true)->nm < H.length
theorem CT (H:Hp AV) (u:Option (Nat×Chunk AV)):(updH H u).length=H.length:=by
 cases u with
 | none=>rfl
 | some p=>simp [updH,bn]
theorem Cv {cal:Callee AV} {W:Bool} {nm:Nat} {o:Op} {ev:Operand->Option SV} {H H0 H':Hp AV} {v:SV} {en:Ent} (hf:Fits N o nm ev H0) (h:eff N cal W nm o ev H=some (v,H',en)) (n:Nat) (hn:en=.rd n \/ en=.wr n):n < H0.length:=by
 unfold eff at h
 cases W with
 | false =>
   simp only [Option.some.injEq,Prod.mk.injEq] at h
   obtain⟨_,_,rfl⟩:=h
   rcases hn with hn | hn<;>cases hn
 | true =>
   simp only at h
   have hen:∃H3,entOf N nm ev H H3 o=en:=by
    split at h
    ·obtain⟨r,_,he⟩:=Option.map_eq_some_iff.1 h;cases he;exact⟨_,rfl⟩
    ·cases h
    ·obtain⟨r,_,he⟩:=Option.map_eq_some_iff.1 h;cases he;exact⟨_,rfl⟩
   obtain⟨H3,hen⟩:=hen
   rw [<- hen] at hn
   unfold entOf at hn
   split at hn
   ·rcases hn with hn | hn<;>cases hn
   ·rcases hn with hn | hn<;>cases hn
   ·have ptrIn:∀x∈o.operands,∀c m,ev x=some (.v (.c c))->c.name=some m->m < H0.length:=by
     intro x hx c m hev hm
     obtain⟨y,hy⟩:=hf.cl x hx _ hev c (by simp [V1.cells]) m hm
     exact aH hy
    rename_i hcc
    clear h hen hcc
    cases o<;>simp only [] at hn<;>(try (rcases hn with hn | hn<;>cases hn;done))
    case alloc t =>
     rcases hn with hn | hn<;>cases hn
     exact hf.room rfl
    case box t x =>
     rcases hn with hn | hn<;>cases hn
     exact hf.room rfl
    case makeSlice t x y =>
     rcases hn with hn | hn<;>cases hn
     exact hf.room rfl
    case buildSlice t len parts =>
     rcases hn with hn | hn<;>cases hn
     exact hf.room rfl
    case slice t x lo hi mx =>
     split at hn
     ·rename_i p hp
      obtain⟨rfl,_,hx,_⟩:=tg hp
      rcases hn with hn | hn<;>cases hn
      exact ptrIn x (by simp [Op.operands]) _ _ hx rfl
     ·rcases hn with hn | hn<;>cases hn
    case load t x =>
     split at hn
     ·rename_i m off hx
      rcases hn with hn | hn<;>cases hn
      exact ptrIn x (by simp [Op.operands]) _ _ hx rfl
     ·rename_i hx
      rcases hn with hn | hn<;>cases hn
      exact ptrIn x (by simp [Op.operands]) _ _ hx rfl
     ·rcases hn with hn | hn<;>cases hn
    case store t x y =>
     split at hn
     ·rename_i m off hx
      rcases hn with hn | hn<;>cases hn
      exact ptrIn x (by simp [Op.operands]) _ _ hx rfl
     ·rename_i hx
      rcases hn with hn | hn<;>cases hn
      exact ptrIn x (by simp [Op.operands]) _ _ hx rfl
     ·rcases hn with hn | hn<;>cases hn
theorem sR {R:List Nat} {n:Nat} (h:(!sees R n)=true):sees R n=false:=by
 cases hs:sees R n<;>simp_all
theorem Jm {cal:Callee AV} {Wi Wj:Bool} {ni nj:Nat} {oi oj:Op} {evi evj:Operand->Option SV} {H Hi Hij:Hp AV} {vi vj:SV} {ei ej:Ent}
 (fi:Fits N oi ni evi H) (fj:Fits N oj nj evj H)
 (h1:eff N cal Wi ni oi evi H=some (vi,Hi,ei)) (h2:eff N cal Wj nj oj evj Hi=some (vj,Hij,ej)) (hc:compatE ei ej=true) :
 ∃Hj,eff N cal Wj nj oj evj H=some (vj,Hj,ej) /\ eff N cal Wi ni oi evi Hj=some (vi,Hij,ei):=by
 cases hi:n5 ei with
 | false =>
   obtain⟨ui,rfl,hui,_,ki⟩:=kg h1 hi
   have leni:(updH H ui).length=H.length:=CT H ui
   cases hj:n5 ej with
   | false =>
     obtain⟨uj,rfl,huj,_,kj⟩:=kg h2 hj
     have nj_in:=Cv fj h2
     have e1:eff N cal Wj nj oj evj H=some (vj,updH H uj,ej):=by
      refine kj H (fun n hn=>?_) (fun hm=>fj.room hm)
      rcases hui with rfl | ⟨m,c,rfl,hwr,hlt⟩
      ·rfl
      ·have hne:m≠n:=by
        intro e
        subst e
        subst hwr
        rcases hn with rfl | rfl<;>simp [compatE,Nat.beq_refl] at hc
       simp only [updH]
       rw [ay _ hne]
     refine⟨_,e1,?_⟩
     have e2:eff N cal Wi ni oi evi (updH H uj)=some (vi,updH (updH H uj) ui,ei):=by
      refine ki _ (fun n hn=>?_) (fun hm=>by rw [CT];exact fi.room hm)
      rcases huj with rfl | ⟨m,c,rfl,hwr,hlt⟩
      ·rfl
      ·have hne:m≠n:=by
        intro e
        subst e
        subst hwr
        rcases hn with rfl | rfl<;>simp [compatE,Nat.beq_refl] at hc
       simp only [updH]
       rw [ay _ hne]
     rw [e2]
     congr 3
     rcases hui with rfl | ⟨m,c,rfl,hwr,hlt⟩
     ·rfl
     ·rcases huj with rfl | ⟨m',c',rfl,hwr',hlt'⟩
      ·rfl
      ·subst hwr hwr'
       have hne:m≠m':=by
        intro e;subst e;simp [compatE,Nat.beq_refl] at hc
       simp only [updH]
       exact(E2 H _ _ hne).symm
   | true =>
     cases ej with
     | pure=>cases hj
     | rd _=>cases hj
     | wr _=>cases hj
     | call R U =>
       obtain⟨l,B,hR,hlen,rfl,_,hU,kj⟩:=pC h2
       rw [leni] at hlen
       have ni_in:=Cv fi h1
       have hns:∀n,ei=.wr n->sees R n=false:=by
        intro n hn
        subst hn
        exact sR hc
       have hkp:∀n,(ei=.rd n \/ ei=.wr n)->hget (mergeH R 0 H B) n=hget H n:=by
        intro n hn
        cases hs:sees R n with
        | false=>exact tQ hs (ni_in n hn) hlen
        | true =>
          rcases hn with rfl | rfl
          ·rcases hui with rfl | ⟨m,c,rfl,hwr,hlt⟩
           ·refine hU n ?_
            simpa [compatE,hs] using hc
           ·cases hwr
          ·rw [hns n rfl] at hs;cases hs
       have e1:eff N cal Wj nj oj evj H=some (vj,mergeH R 0 H B,.call R U):=by
        rcases hui with rfl | ⟨m,c,rfl,hwr,hlt⟩
        ·exact kj H hR.symm rfl
        ·have hm:=hns m hwr
         refine kj H ?_ ?_
         ·rw [hR] at hm ⊢
          refine ec (m:=m) (fun n hn=>?_) _ _ _ (zL hm)
          simp only [updH];rw [ay _ (Ne.symm hn)]
         ·simp only [updH];exact(qj hm _ H 0 m (by omega)).symm
       refine⟨_,e1,?_⟩
       have e2:eff N cal Wi ni oi evi (mergeH R 0 H B)=some (vi,updH (mergeH R 0 H B) ui,ei):=by
        refine ki _ (fun n hn=>hkp n hn) (fun hm=>?_)
        rw [iw _ _ _ _ hlen]
        exact Nat.lt_of_lt_of_le (fi.room hm) hlen
       rw [e2]
       congr 3
       rcases hui with rfl | ⟨m,c,rfl,hwr,hlt⟩
       ·rfl
       ·simp only [updH]
        exact(nQ (hns m hwr) c H B 0 m (by omega) hlt hlen).symm
 | true =>
   cases ei with
   | pure=>cases hi
   | rd _=>cases hi
   | wr _=>cases hi
   | call R U =>
     obtain⟨l,B,hR,hlen,rfl,_,hU,ki⟩:=pC h1
     cases hj:n5 ej with
     | true =>
       cases ej with
       | call R' U'=>simp [compatE] at hc
       | pure=>cases hj
       | rd _=>cases hj
       | wr _=>cases hj
     | false =>
       obtain⟨uj,rfl,huj,_,kj⟩:=kg h2 hj
       have nj_in:=Cv fj h2
       have hns:∀n,ej=.wr n->sees R n=false:=by
        intro n hn
        subst hn
        exact sR hc
       have hkp:∀n,(ej=.rd n \/ ej=.wr n)->hget H n=hget (mergeH R 0 H B) n:=by
        intro n hn
        cases hs:sees R n with
        | false=>exact(tQ hs (nj_in n hn) hlen).symm
        | true =>
          rcases hn with rfl | rfl
          ·refine(hU n ?_).symm
           simpa [compatE,hs] using hc
          ·rw [hns n rfl] at hs;cases hs
       have e1:eff N cal Wj nj oj evj H=some (vj,updH H uj,ej) :=
        kj H (fun n hn=>hkp n hn) (fun hm=>fj.room hm)
       refine⟨_,e1,?_⟩
       have e2:eff N cal Wi ni oi evi (updH H uj)=some (vi,mergeH R 0 (updH H uj) B,.call R U):=by
        rcases huj with rfl | ⟨m,c,rfl,hwr,hlt⟩
        ·exact ki H hR.symm rfl
        ·have hm:=hns m hwr
         refine ki _ ?_ ?_
         ·rw [hR] at hm ⊢
          refine ec (m:=m) (fun n hn=>?_) _ _ _ (zL hm)
          simp only [updH];rw [ay _ (Ne.symm hn)]
         ·simp only [updH];exact qj hm _ H 0 m (by omega)
       rw [e2]
       congr 3
       rcases huj with rfl | ⟨m,c,rfl,hwr,hlt⟩
       ·rfl
       ·simp only [updH]
        exact nQ (hns m hwr) c H B 0 m (by omega) (nj_in m (.inr hwr)) hlen
end Go.Sx
