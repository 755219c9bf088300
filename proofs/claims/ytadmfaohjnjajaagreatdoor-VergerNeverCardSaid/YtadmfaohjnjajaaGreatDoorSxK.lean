import Derived.Test.YtadmfaohjnjajaaGreatDoorSxI
set_option linter.unusedVariables false
set_option linter.unusedSimpArgs false
set_option maxHeartbeats 4000000
namespace Go.Sx
section
variable {AV:Type} {P:Program} {N:Env AV}
theorem wanted_eq {ρ:Nm} {nt:Nat} {E:Ev} {a:Act} (hE:EM ρ nt E a) (ops:Array Oper) (o:Oper) {b k:Bool} (h:ec ops.toList o E=some (b,k)):Region.wanted o (yielded ops a.tmps)=b:=by
 unfold ec at h
 unfold Region.wanted
 cases hg:o.guard with
 | none=>simp only [hg,Option.some.injEq,Prod.mk.injEq] at h;exact h.1
 | some p =>
   obtain⟨j,want⟩:=p
   simp only [hg,nth_eq,Array.getElem?_toList] at h
   simp only [yielded]
   cases hj:ops[j]? with
   | none=>simp only [hj,Option.some.injEq,Prod.mk.injEq] at h;simp [<- h.1]
   | some oj =>
     simp only [hj] at h
     simp only [Option.bind_some]
     cases hd:oj.dst with
     | none=>simp only [hd,Option.some.injEq,Prod.mk.injEq] at h;simp [<- h.1]
     | some d =>
       simp only [hd] at h
       simp only [Option.bind_some]
       cases hl:look E d with
       | unk=>simp [hl] at h
       | tup l =>
         have ab:=hE.get d (by rw [hl];simp)
         rw [hl] at ab h
         simp only [Option.some.injEq,Prod.mk.injEq] at h
         cases ht:a.tmps[d]? with
         | none=>simp [<- h.1]
         | some v =>
           have:a.tmps.getD d undef=v:=by simp [ht]
           rw [this] at ab
           subst ab
           simp [SV.den,<- h.1]
       | clo f l =>
         have ab:=hE.get d (by rw [hl];simp)
         rw [hl] at ab h
         simp only [Option.some.injEq,Prod.mk.injEq] at h
         cases ht:a.tmps[d]? with
         | none=>simp [<- h.1]
         | some v =>
           have:a.tmps.getD d undef=v:=by simp [ht]
           rw [this] at ab
           subst ab
           simp [SV.den,<- h.1]
       | v x =>
         have ab:=hE.get d (by rw [hl];simp)
         rw [hl] at ab h
         cases ht:a.tmps[d]? with
         | none =>
           have:a.tmps.getD d undef=undef:=by simp [ht]
           rw [this] at ab
           cases x with
           | agg l=>simp [SV.den,V1.den,undef] at ab
           | c x =>
             cases x with
             | vs n o len es kn =>
               simp only [SV.den,V1.den,Cell.den,undef,aW] at ab
               split at ab<;>cases ab
             | sf n o es z f p =>
               simp only [SV.den,V1.den,Cell.den,undef,aW] at ab
               split at ab<;>cases ab
             | _=>simp [SV.den,V1.den,Cell.den,undef] at ab
         | some v =>
           have:a.tmps.getD d undef=v:=by simp [ht]
           rw [this] at ab
           subst ab
           cases x with
           | agg l=>simp only [Option.some.injEq,Prod.mk.injEq] at h;simp [SV.den,V1.den,<- h.1]
           | c x =>
             cases x with
             | vs n o len es kn =>
               simp [gq] at h
               by_cases hz:len=0 /\ (ρ.L n).c=0<;>simp [SV.den,V1.den,Cell.den,aW,hz,<- h.1]
             | sf n o es z f p =>
               simp [gq] at h
               by_cases hz:(f.ap (ρ.L n)).c=0<;>simp [SV.den,V1.den,Cell.den,aW,hz,<- h.1]
             | _=>simp [gq] at h<;>simp [SV.den,V1.den,Cell.den,<- h.1]
noncomputable def sP (N:Env AV) (cal:Callee AV) (base:Nat) (all:List Oper) (i:Nat) (o:Oper) (s:St AV):Option (St AV×Ent) :=
 match ec all o s.E with
 | none=>none
 | some (b,_)=>if b=true then((iL N cal (jL all base i) o s).val.map fun s'=>(s',dp N (jL all base i) (evl N.G s.H s.E) s.H s'.H o.op)) else some ({s with E:=fS s.E o.dst bV},.pure)
theorem oV {cal:Callee AV} {base:Nat} {all:List Oper} {i:Nat} {o:Oper} {s:St AV}:(hZ N cal base all i o s).val=sP N cal base all i o s:=by
 unfold hZ sP
 cases ec all o s.E with
 | none=>rfl
 | some p =>
   obtain⟨b,k⟩:=p
   cases k<;>cases b<;>simp [T.val,T.val_map]
theorem rG:∀(all:List Oper) (b i:Nat),b<=jL all b i
 | [],b,_=>Nat.le_refl _
 | _::_,b,0=>Nat.le_refl _
 | o::r,b,i+1=>by
   simp only [jL]
   split
   ·exact Nat.le_trans (Nat.le_succ b) (rG r (b+1) i)
   ·exact rG r b i
theorem q9 (hT:TblOk P N) {cal:Callee AV} (hcal:dM P N cal) {nt L base i:Nat} {ops:Array Oper} {o:Oper} {s s':St AV} {en:Ent} (h:(hZ N cal base ops.toList i o s).val=some (s',en)) (hcl:Closed N s) (hL:L<=base) (hH:L<=s.H.length) (hd:∀d,o.dst=some d->d < nt) :
 Closed N s' /\
 ∀{ρ:Nm} {a:Act} {w:World},At N nt ρ s a w->∀{K:Act->World->Prop} {Q:Exit->Act->World->Prop},
   (∀a' w',Lands N nt L ρ s w a s' a' w'->K a' w')->if Region.wanted o (yielded ops a.tmps)=true then o.wp P a w K Q else K (a.put o.dst undef) w:=by
 rw [oV] at h
 unfold sP at h
 split at h
 ·cases h
 ·rename_i b k hw
  split at h
  ·rename_i hb
   obtain⟨s1,hs,he⟩:=Option.map_eq_some_iff.1 h
   cases he
   obtain⟨h1,h2⟩:=HI (P:=P) (nt:=nt) hT hcal hs hcl (Nat.le_trans hL (rG _ _ _)) hH hd
   refine⟨h1,fun {ρ a w} hat K Q hK=>?_⟩
   rw [wanted_eq hat.em ops o hw,if_pos hb]
   exact h2 hat hK
  ·rename_i hb
   cases h
   refine⟨⟨kQ hcl.E (fun n c h=>⟨c,h⟩) (hD _),hcl.H⟩,fun {ρ a w} hat K Q hK=>?_⟩
   rw [wanted_eq hat.em ops o hw,if_neg hb]
   exact hK _ _ ⟨⟨ρ,hat.em.put hd hcl.E (fun _ _ _=>rfl) bV,hat.own,Evo.refl _ _ _ _⟩,by cases o.dst<;>rfl⟩
theorem Lands.trans {nt L:Nat} {ρ:Nm} {s s₁ s₂:St AV} {w w₁ w₂:World} {a a₁ a₂:Act} (h:∀ρ₁,EM ρ₁ nt s₁.E a₁->Own N ρ₁ s₁.H w₁->Evo N L ρ s.H w ρ₁ s₁.H w₁->Lands N nt L ρ₁ s₁ w₁ a₁ s₂ a₂ w₂) (h₁:Lands N nt L ρ s w a s₁ a₁ w₁):Lands N nt L ρ s w a s₂ a₂ w₂:=by
 obtain⟨⟨ρ₁,e1,o1,v1⟩,d1⟩:=h₁
 obtain⟨⟨ρ₂,e2,o2,v2⟩,d2⟩:=h ρ₁ e1 o1 v1
 exact⟨⟨ρ₂,e2,o2,v1.trans v2⟩,d2.trans d1⟩
theorem l6 {cal:Callee AV} {base:Nat} {all:List Oper} {i:Nat} {o:Oper} {s:St AV} {r:St AV×Ent} (h:(hZ N cal base all i o s).val=some r):s.H.length<=r.1.H.length:=by
 rw [oV] at h
 unfold sP at h
 split at h
 ·cases h
 ·split at h
  ·obtain⟨s1,hs,he⟩:=Option.map_eq_some_iff.1 h
   cases he
   exact Eb hs
  ·cases h;exact Nat.le_refl _
theorem wv (hT:TblOk P N) {cal:Callee AV} (hcal:dM P N cal) {nt L base:Nat} (ops:Array Oper) (hL:L<=base) :
 ∀(r:List Oper) (i:Nat) (s s':St AV),(jW N cal base ops.toList i r s).val=some s'->Closed N s->L<=s.H.length->(∀o∈r,∀d,o.dst=some d->d < nt) ->
   Closed N s' /\ ∀{ρ:Nm} {a:Act} {w:World},At N nt ρ s a w->∀{Q:Exit->Act->World->Prop},(∀a' w',Lands N nt L ρ s w a s' a' w'->Q .normal a' w')->wpList P ops Q r a w
 | [],i,s,s',h,hcl,_,_=>by
   simp only [jW,T.val,Option.some.injEq] at h
   subst h
   exact⟨hcl,fun {ρ a w} hat Q hQ=>hQ _ _ ⟨⟨ρ,hat.em,hat.own,Evo.refl _ _ _ _⟩,rfl⟩⟩
 | o::r,i,s,s',h,hcl,hH,hd=>by
   simp only [jW] at h
   obtain⟨⟨s₁,en⟩,h1,h2⟩:=T.bind_some h
   obtain⟨c1,k1⟩:=q9 (P:=P) hT hcal h1 hcl hL hH (hd o (by simp))
   have hlen:L<=s₁.H.length:=Nat.le_trans hH (l6 h1)
   obtain⟨c2,k2⟩:=wv hT hcal ops hL r (i+1) s₁ s' h2 c1 hlen (fun o' ho=>hd o' (by simp [ho]))
   refine⟨c2,fun {ρ a w} hat Q hQ=>?_⟩
   unfold wpList
   have:=k1 hat (K:=wpList P ops Q r) (Q:=Q) (fun a₁ w₁ h₁=>by
    obtain⟨⟨ρ₁,e1,o1,v1⟩,d1⟩:=h₁
    refine k2 ⟨e1,o1⟩ fun a₂ w₂ h₂=>hQ a₂ w₂ ?_
    obtain⟨⟨ρ₂,e2,o2,v2⟩,d2⟩:=h₂
    exact⟨⟨ρ₂,e2,o2,v1.trans v2⟩,d2.trans d1⟩)
   split
   ·rename_i hw;rw [if_pos hw] at this;exact .inl this
   ·rename_i hw;rw [if_neg hw] at this;exact this
end
section
variable {AV:Type} {N:Env AV}
noncomputable def eff (N:Env AV) (cal:Callee AV) (W:Bool) (nm:Nat) (o:Op) (ev:Operand->Option SV) (H:Hp AV):Option (SV×Hp AV×Ent) :=
 match W with
 | false=>some (bV,H,.pure)
 | true=>match callee? N ev o with
   | some (some (g,l))=>(p9 cal (qz N g) g l H).val.map fun r=>(r.1,r.2,dp N nm ev H r.2 o)
   | some none=>none
   | none=>(gi N nm ev H o).val.map fun r=>(r.1,du H r.2,dp N nm ev H (du H r.2) o)
theorem km {cal:Callee AV} {base:Nat} {all:List Oper} {i:Nat} {o:Oper} {s:St AV} :
 (hZ N cal base all i o s).val=(ec all o s.E).bind fun p=>(eff N cal p.1 (jL all base i) o.op (evl N.G s.H s.E) s.H).map fun r=>({E:=fS s.E o.dst r.1,H:=r.2.1},r.2.2):=by
 rw [oV]
 unfold sP eff iL
 cases ec all o s.E with
 | none=>rfl
 | some p =>
   obtain⟨b,k⟩:=p
   simp only [Option.bind_some]
   cases b with
   | false=>simp
   | true =>
     simp only [if_true]
     split
     ·rename_i g l h
      simp only [h]
      rw [T.val_bind]
      cases (p9 cal (qz N g) g l s.H).val with
      | none=>rfl
      | some r=>rfl
     ·rename_i h;simp [h,T.val]
     ·rename_i h
      simp only [h]
      rw [T.val_bind]
      cases (gi N (jL all base i) (evl N.G s.H s.E) s.H o.op).val with
      | none=>rfl
      | some r=>rfl
theorem yd {ev ev':Operand->Option SV}:∀l:List (Nat×Operand),(∀p∈l,ev p.2=ev' p.2)->sa ev l=sa ev' l
 | [],_=>rfl
 | (i,x)::l,hl=>by
   simp only [sa]
   rw [hl (i,x) (by simp),yd l (fun q hq=>hl q (by simp [hq]))]
theorem rR {nm:Nat} {H:Hp AV} {arr:Option Arr} {r:SV×Option (Nat×Chunk AV)} (h:(jA N nm H arr).val=some r):ab H nm=none /\ nm < H.length /\ (∃c,r.2=some (nm,c)) /\
 ∀H2:Hp AV,ab H2 nm=none->nm < H2.length->(jA N nm H2 arr).val=some r:=by
 unfold jA at h
 split at h
 ·split at h
  ·rename_i h2 h3 h4
   simp only [T.val,Option.some.injEq] at h
   subst h
   refine⟨h2,(cO _ _).1 h3,⟨_,rfl⟩,fun H2 e2 hl=>?_⟩
   have e3:=(cO _ _).2 hl
   simp only [jA,e2,e3,h4,T.val]
  ·simp [T.val] at h
 ·simp [T.val] at h
theorem C4 {nm:Nat} {H:Hp AV} {arr:Option Arr} {z:Option (Bool×AV×Nat×Nat)} {r:SV×Option (Nat×Chunk AV)} (h:(rQ N nm H arr z).val=some r):ab H nm=none /\ nm < H.length /\ (∃c,r.2=some (nm,c)) /\
 ∀H2:Hp AV,ab H2 nm=none->nm < H2.length->(rQ N nm H2 arr z).val=some r:=by
 unfold rQ at h ⊢
 split at h
 ·obtain⟨h1,h2,h3,h4⟩:=rR h
  exact⟨h1,h2,h3,h4⟩
 ·unfold ov at h
  split at h
  ·split at h
   ·rename_i h2 h3 h4
    have hb:=h
    obtain⟨rfl,h⟩:=cZ h
    simp only [T.val,Option.some.injEq] at h
    subst h
    refine⟨h2,(cO _ _).1 h3,⟨_,rfl⟩,fun H2 e2 hl=>?_⟩
    have e3:=(cO _ _).2 hl
    simp only [ov,e2,e3,h4,T.val]
   ·simp [T.val] at h
  ·simp [T.val] at h
theorem kN {ev ev':Operand->Option SV}:∀(l:List Operand),(∀x∈l,ev x=ev' x)->yU ev l=yU ev' l
 | [],_=>rfl
 | x::r,h=>by simp only [yU];rw [h x (by simp),kN r (fun y hy=>h y (by simp [hy]))]
theorem yZ {ev ev':Operand->Option SV} (o:Op) (h:∀x∈o.operands,ev x=ev' x):txO ev o=txO ev' o:=by
 cases o<;>try rfl
 rename_i t x lo hi mx
 cases mx with
 | some _=>rfl
 | none=>simp only [txO];rw [h x (by simp [Op.operands])]
theorem Bf {ev ev':Operand->Option SV} (o:Op) (h:∀x∈o.operands,ev x=ev' x):nX N ev o=nX N ev' o:=by
 cases o<;>simp only [nX]<;>simp only [Op.operands] at h
 case move x=>rw [h x (by simp)]
 case assign x=>rw [h x (by simp)]
 case pick c a b=>rw [h c (by simp),h a (by simp),h b (by simp)]
 case build t ps =>
  have:∀l:List (Nat×Operand),(∀p∈l,ev p.2=ev' p.2)->sa ev l=sa ev' l:=by
   intro l
   induction l with
   | nil=>intro _;rfl
   | cons p l ih =>
     intro hl
     obtain⟨i,x⟩:=p
     simp only [sa]
     rw [hl (i,x) (by simp),ih (fun q hq=>hl q (by simp [hq]))]
  rw [this ps.toList (fun p hp=>h p.2 (by simp;exact⟨p.1,Array.mem_toList_iff.1 hp⟩))]
 case nilCheck x=>rw [h x (by simp)]
 case fieldAddr t x i=>rw [h x (by simp)]
 case field t x i=>rw [h x (by simp)]
 case binOp op t x y t'=>rw [h x (by simp),h y (by simp)]
 case unOp op t x=>cases op<;>simp only []<;>rw [h x (by simp)]
 case slice t x lo hi mx =>
  have e1:txO ev (.slice t x lo hi mx)=txO ev' (.slice t x lo hi mx):=yZ _ (by simpa [Op.operands] using h)
  rw [e1]
  split
  ·unfold T7
   rw [h x (by simp)]
   have b1:∀d,u9 ev d lo=u9 ev' d lo:=fun d=>by
    cases lo with
    | none=>rfl
    | some y=>simp only [u9];rw [h y (by simp)]
   have b2:∀d,u9 ev d hi=u9 ev' d hi:=fun d=>by
    cases hi with
    | none=>rfl
    | some y=>simp only [u9];rw [h y (by simp)]
   simp only [b1,b2]
  ·rfl
 case extract x i=>rw [h x (by simp)]
 case makeFunc fn first captured=>rw [kN captured.toList (fun x hx=>h x (by simp only [Array.mem_append];exact .inr (Array.mem_toList_iff.1 hx)))]
 case makeInterface t x=>rw [h x (by simp)]
 case indexAddr t x i=>rw [h x (by simp),h i (by simp)]
 case index t x i=>rw [h x (by simp),h i (by simp)]
 case convert a b x=>rw [h x (by simp)]
 case call c =>
  split
  ·split
   ·rename_i x t hx ht
    rw [h x (by simp only [Call.operands,Array.mem_append];exact .inr (by rw [<- Array.mem_toList_iff,hx];simp))]
   ·rfl
  ·rfl
theorem nZ {ev ev':Operand->Option SV} (o:Op) (h:∀x∈o.operands,ev x=ev' x):uG ev o=uG ev' o:=by
 cases o<;>try rfl
 rename_i t x lo hi mx
 have hx:ev x=ev' x:=h x (by simp [Op.operands])
 have hb:∀(y:Option Operand) (d:Nat),(∀z,y=some z->ev z=ev' z)->vb ev d y=vb ev' d y:=fun y d hy=>by
  cases y with
  | none=>rfl
  | some z=>simp only [vb];rw [hy z rfl]
 simp only [uG]
 rw [hx]
 split
 ·rfl
 ·split
  ·rw [hb lo 0 (fun z hz=>h z (by simp [Op.operands,hz])),hb hi _ (fun z hz=>h z (by simp [Op.operands,hz]))]
  ·rfl
theorem BC {ev ev':Operand->Option SV} (o:Op) (h:∀x∈o.operands,ev x=ev' x):xW ev o=xW ev' o:=by
 unfold xW
 split
 ·rw [nZ o h,yZ o h]
 ·rename_i hh
  clear hh
  cases o<;>simp only []
  case convert a b x=>simp only [Op.operands] at h;rw [h x (by simp)]
  case call c =>
   simp only [Op.operands,Call.operands] at h
   split
   ·split
    ·rename_i x hx
     rw [h x (by simp only [Array.mem_append];exact .inr (by rw [<- Array.mem_toList_iff,hx];simp))]
    ·rfl
   ·rfl
theorem sm {ev ev':Operand->Option SV} (o:Op) (h:∀x∈o.operands,ev x=ev' x):callee? N ev o=callee? N ev' o:=by
 unfold callee?
 rw [BC o h]
 split
 ·rw [kN o.operands.toList (fun x hx=>h x (Array.mem_toList_iff.1 hx))]
 ·rename_i hh
  clear hh
  cases o<;>simp only []
  case call c =>
   simp only [Op.operands,Call.operands] at h
   split
   ·rename_i f hf
    rw [h f (by rw [hf];simp),kN c.args.toList (fun x hx=>h x (by simp only [Array.mem_append];exact .inr (Array.mem_toList_iff.1 hx)))]
   ·rename_i f m hf
    rw [h f (by rw [hf];simp),kN c.args.toList (fun x hx=>h x (by simp only [Array.mem_append];exact .inr (Array.mem_toList_iff.1 hx)))]
   ·rfl
theorem C3 {ev ev':Operand->Option SV} (nm:Nat) (H:Hp AV) (o:Op) (h:∀x∈o.operands,ev x=ev' x):gi N nm ev H o=gi N nm ev' H o:=by
 unfold gi
 rw [Bf o h]
 split
 ·rfl
 ·rename_i hpo
  clear hpo
  have hps:=nZ o h
  cases o<;>simp only []<;>simp only [Op.operands] at h
  case slice t x lo hi mx=>rw [hps]
  case box t x=>rw [h x (by simp)]
  case load t x=>rw [h x (by simp)]
  case store t x y=>rw [h x (by simp),h y (by simp)]
  case makeSlice t x y=>rw [h x (by simp),h y (by simp)]
  case buildSlice t len parts=>rw [yd parts.toList (fun p hp=>h p.2 (by simp;exact⟨p.1,Array.mem_toList_iff.1 hp⟩))]
theorem IL {ev ev':Operand->Option SV} (nm:Nat) (H H':Hp AV) (o:Op) (h:∀x∈o.operands,ev x=ev' x):dp N nm ev H H' o=dp N nm ev' H H' o:=by
 unfold dp
 rw [sm o h]
 split
 ·rfl
 ·rfl
 ·rename_i hpo
  clear hpo
  have hps:=nZ o h
  cases o<;>simp only []<;>simp only [Op.operands] at h
  case slice t x lo hi mx=>rw [hps]
  case load t x=>rw [h x (by simp)]
  case store t x y=>rw [h x (by simp)]
theorem Ai {cal:Callee AV} {W:Bool} {nm:Nat} {o:Op} {ev ev':Operand->Option SV} {H:Hp AV} (h:∀x∈o.operands,ev x=ev' x):eff N cal W nm o ev H=eff N cal W nm o ev' H:=by
 unfold eff
 rw [sm o h,C3 nm H o h]
 simp only [IL nm H _ o h]
def qw:Ent->Bool
 | .call _ _=>true
 | _=>false
theorem mB {cal:Callee AV} {W:Bool} {nm:Nat} {o:Op} {ev:Operand->Option SV} {H H':Hp AV} {v:SV} {en:Ent} (h:eff N cal W nm o ev H=some (v,H',en)) (hn:qw en=false) :
 ∃u,H'=du H u /\ (u=none \/ ∃n c,u=some (n,c) /\ en=.wr n /\ n < H.length) /\
   (∀n,en=.wr n->n < H.length /\ (xu o=true) /\ n=nm \/ ∃c,ab H n=some c) /\
   ∀H2:Hp AV,(∀n,(en=.rd n \/ en=.wr n)->ab H2 n=ab H n)->((xu o=true)->nm < H2.length)->eff N cal W nm o ev H2=some (v,du H2 u,en):=by
 unfold eff at h
 cases W with
 | false =>
   simp only [Option.some.injEq,Prod.mk.injEq] at h
   obtain⟨rfl,rfl,rfl⟩:=h
   exact⟨none,rfl,.inl rfl,(fun n h=>by cases h),fun H2 _ _=>rfl⟩
 | true =>
   simp only at h
   split at h
   ·rename_i g l hc
    obtain⟨r,_,hr⟩:=Option.map_eq_some_iff.1 h
    cases hr
    simp [dp,hc,qw] at hn
   ·cases h
   ·rename_i hc
    obtain⟨⟨v',u⟩,hl,hr⟩:=Option.map_eq_some_iff.1 h
    simp only [Prod.mk.injEq] at hr
    obtain⟨rfl,rfl,hen⟩:=hr
    have hent:∀H2 H3:Hp AV,dp N nm ev H2 H3 o=en:=fun H2 H3=>by rw [<- hen];simp only [dp,hc]
    have done:∀H2:Hp AV,(gi N nm ev H2 o).val=some (v',u)->eff N cal true nm o ev H2=some (v',du H2 u,en):=fun H2 h2=>by
     unfold eff
     simp only [hc,h2,Option.map_some,hent H2]
    refine⟨u,rfl,?_⟩
    unfold gi at hl
    split at hl
    ·-- looks at no memory
     rename_i t ht
     rw [T.val_map] at hl
     obtain⟨v0,hv0,he⟩:=Option.map_eq_some_iff.1 hl
     cases he
     have hno:∀n,en≠.wr n:=by
      intro n hw
      rw [<- hen] at hw
      simp only [dp,hc] at hw
      cases o<;>simp [nX] at ht hw
      all_goals (split at hw<;>cases hw)
     refine⟨.inl rfl,(fun n h=>absurd h (hno n)),fun H2 _ _=>done H2 ?_⟩
     unfold gi
     simp only [ht,T.val_map,hv0,Option.map_some]
    ·rename_i hpo
     split at hl
     ·-- alloc
      rename_i t
      split at hl
      ·rename_i kd sz z fl h1 h2 h3 h4
       simp only [T.val,Option.some.injEq,Prod.mk.injEq] at hl
       obtain⟨rfl,rfl⟩:=hl
       have hwr:en=.wr nm:=by rw [<- hen];simp only [dp,hc]
       have hlt:=(cO _ _).1 h3
       refine⟨.inr ⟨_,_,rfl,hwr,hlt⟩,(fun n h=>.inl ?_),fun H2 hH2 hlen=>done H2 ?_⟩
       ·rw [hwr] at h;cases h;exact⟨hlt,rfl,rfl⟩
       ·have e2:=hH2 nm (.inr hwr)
        rw [h2] at e2
        have e3:=(cO _ _).2 (hlen rfl)
        unfold gi
        simp only [hpo,h1,e2,e3,h4,T.val]
      ·simp [T.val] at hl
     ·-- box
      rename_i t x
      split at hl
      ·rename_i b h1 h2 h3 h4
       simp only [T.val,Option.some.injEq,Prod.mk.injEq] at hl
       obtain⟨rfl,rfl⟩:=hl
       have hwr:en=.wr nm:=by rw [<- hen];simp only [dp,hc]
       have hlt:=(cO _ _).1 h3
       refine⟨.inr ⟨_,_,rfl,hwr,hlt⟩,(fun n h=>.inl ?_),fun H2 hH2 hlen=>done H2 ?_⟩
       ·rw [hwr] at h;cases h;exact⟨hlt,rfl,rfl⟩
       ·have e2:=hH2 nm (.inr hwr)
        rw [h2] at e2
        have e3:=(cO _ _).2 (hlen rfl)
        unfold gi
        simp only [hpo,h1,e2,e3,h4,T.val]
      ·simp [T.val] at hl
     ·-- load
      rename_i t x
      split at hl
      ·rename_i p hp
       rw [T.val_map] at hl
       obtain⟨v0,hv0,he⟩:=Option.map_eq_some_iff.1 hl
       cases he
       have hno:∀n,en≠.wr n:=by
        intro n hw
        rw [<- hen] at hw
        simp only [dp,hc,hp] at hw
        split at hw<;>cases hw
       refine⟨.inl rfl,(fun n h=>absurd h (hno n)),fun H2 hH2 _=>done H2 ?_⟩
       have e2:xC N t H2 p=xC N t H p:=by
        unfold xC
        split
        ·rename_i n off
         have:en=.rd n:=by rw [<- hen];simp only [dp,hc,hp]
         rw [hH2 n (.inl this)]
        ·rename_i n idx es off
         have:en=.rd n:=by rw [<- hen];simp only [dp,hc,hp]
         rw [hH2 n (.inl this)]
        ·rfl
       unfold gi
       simp only [hpo,hp,T.val_map,e2,hv0,Option.map_some]
      ·simp [T.val] at hl
     ·-- store
      rename_i t x y
      split at hl
      ·rename_i n off b hx hy
       split at hl
       ·rename_i l ty i h3 h4
        split at hl
        ·rename_i h5
         split at hl
         ·rename_i l' h6
          simp only [T.val,Option.some.injEq,Prod.mk.injEq] at hl
          obtain⟨rfl,rfl⟩:=hl
          have hwr:en=.wr n:=by rw [<- hen];simp only [dp,hc,hx]
          refine⟨.inr ⟨_,_,rfl,hwr,aX h3⟩,(fun m h=>.inr ?_),fun H2 hH2 _=>done H2 ?_⟩
          ·rw [hwr] at h;cases h;exact⟨_,h3⟩
          ·have e2:=hH2 n (.inr hwr)
           rw [h3] at e2
           unfold gi
           simp only [hpo,hx,hy,e2,h4,h5,h6,T.val]
         ·simp [T.val] at hl
        ·simp [T.val] at hl
       ·simp [T.val] at hl
      ·rename_i n idx es off b hx hy
       have hwr:en=.wr n:=by rw [<- hen];simp only [dp,hc,hx]
       split at hl
       ·rename_i l ve ty i h3 h4
        split at hl
        ·rename_i h5
         split at hl
         ·simp [T.val] at hl
         rename_i h50
         split at hl
         ·rename_i l' h6
          simp only [T.val,Option.some.injEq,Prod.mk.injEq] at hl
          obtain⟨rfl,rfl⟩:=hl
          refine⟨.inr ⟨_,_,rfl,hwr,aX h3⟩,(fun m h=>.inr ?_),fun H2 hH2 _=>done H2 ?_⟩
          ·rw [hwr] at h;cases h;exact⟨_,h3⟩
          ·have e2:=hH2 n (.inr hwr)
           rw [h3] at e2
           unfold gi
           simp only [hpo,hx,hy,e2,h4,h5,h50,h6,T.val]
         ·simp [T.val] at hl
        ·simp [T.val] at hl
       ·rename_i a i h3 h4
        split at hl
        ·rename_i h5
         split at hl
         ·rename_i bb a' h6
          obtain⟨rfl,hl⟩:=cZ hl
          simp only [T.val,Option.some.injEq,Prod.mk.injEq] at hl
          obtain⟨rfl,rfl⟩:=hl
          refine⟨.inr ⟨_,_,rfl,hwr,aX h3⟩,(fun m h=>.inr ?_),fun H2 hH2 _=>done H2 ?_⟩
          ·rw [hwr] at h;cases h;exact⟨_,h3⟩
          ·have e2:=hH2 n (.inr hwr)
           rw [h3] at e2
           unfold gi
           simp only [hpo,hx,hy,e2,h4,h5,h6,T.val]
         ·simp [T.val] at hl
        ·simp [T.val] at hl
       ·simp [T.val] at hl
      ·simp [T.val] at hl
     ·-- make
      rename_i t x y
      obtain⟨h2,hlt,⟨c,hu⟩,hall⟩:=C4 hl
      simp only at hu
      subst hu
      have hwr:en=.wr nm:=by rw [<- hen];simp only [dp,hc]
      refine⟨.inr ⟨_,_,rfl,hwr,hlt⟩,(fun n h=>.inl ?_),fun H2 hH2 hlen=>done H2 ?_⟩
      ·rw [hwr] at h;cases h;exact⟨hlt,rfl,rfl⟩
      ·have e2:=hH2 nm (.inr hwr)
       rw [h2] at e2
       unfold gi
       simp only [hpo]
       exact hall H2 e2 (hlen rfl)
     ·-- the building of a slice
      rename_i t len parts
      obtain⟨h2,hlt,⟨c,hu⟩,hall⟩:=rR hl
      simp only at hu
      subst hu
      have hwr:en=.wr nm:=by rw [<- hen];simp only [dp,hc]
      refine⟨.inr ⟨_,_,rfl,hwr,hlt⟩,(fun n h=>.inl ?_),fun H2 hH2 hlen=>done H2 ?_⟩
      ·rw [hwr] at h;cases h;exact⟨hlt,rfl,rfl⟩
      ·have e2:=hH2 nm (.inr hwr)
       rw [h2] at e2
       unfold gi
       simp only [hpo]
       exact hall H2 e2 (hlen rfl)
     ·-- a part of a slice
      rename_i t x lo hi mx
      split at hl
      ·rename_i p hp
       obtain⟨he,si,lst,ty,hs,hn,hes,hfit⟩:=rP hl
       simp only [Prod.mk.injEq] at he
       obtain⟨rfl,rfl⟩:=he
       have hrd:en=.rd p.n:=by rw [<- hen];simp only [dp,hc,hp]
       refine⟨.inl rfl,(fun n h=>by rw [hrd] at h;cases h),fun H2 hH2 _=>done H2 ?_⟩
       have e2:=hH2 p.n (.inl hrd)
       unfold gi
       simp only [hpo,hp]
       unfold vw at hl ⊢
       rw [e2]
       exact hl
      ·simp [T.val] at hl
     ·simp [T.val] at hl
theorem IB {R:List Nat} {H K:Hp AV} {n:Nat} (h:(xM N R H K n).ok=true):ab H n=ab K n:=by
 unfold xM at h
 split at h
 ·unfold Rx at h
  split at h
  ·rename_i a b e1 e2
   split at h
   ·rename_i hs
    rw [e1,e2,N.F.same_ok a b hs]
   ·cases h
  ·rename_i l t l' t' e1 e2
   have h:iO l t l' t'=true:=h
   unfold iO at h
   obtain⟨rfl,rfl⟩:=@of_decide_eq_true _ (Classical.propDecidable _) h
   rw [e1,e2]
  ·cases h
 ·cases h
theorem IC {R:List Nat} {H H2 B:Hp AV} (hl:H.length<=B.length) (h:fA R 0 H2=fA R 0 H):xM N R H2 (bG R 0 H2 B)=xM N R H (bG R 0 H B):=by
 have hlen:H2.length=H.length:=by have h1:=congrArg List.length h;rw [kI,kI] at h1;exact h1
 funext n
 unfold xM
 cases hs:dW R n with
 | false=>rfl
 | true =>
   have e:ab H2 n=ab H n:=by
    have h1:ab (fA R 0 H2) n=ab H2 n:=by rw [mu,Nat.zero_add,if_pos hs]
    have h2:ab (fA R 0 H) n=ab H n:=by rw [mu,Nat.zero_add,if_pos hs]
    rw [<- h1,<- h2,h]
   simp only
   rw [gK _ _ _ _ _ hl,gK _ _ _ _ _ (by omega),hlen,e]
theorem sc {cal:Callee AV} {W:Bool} {nm:Nat} {o:Op} {ev:Operand->Option SV} {H H':Hp AV} {v:SV} {R:List Nat} {U:Nat->Tri} (h:eff N cal W nm o ev H=some (v,H',.call R U)) :
 ∃(nl:List Nat) (B:Hp AV),R=fX H 400 nl [] /\ H.length<=B.length /\ H'=bG R 0 H B /\ (∀n,n < H.length->(ab H' n).isSome=(ab H n).isSome) /\ (∀n,(U n).ok=true->ab H' n=ab H n) /\
   ∀H2:Hp AV,fX H2 400 nl []=R->fA R 0 H2=fA R 0 H->eff N cal W nm o ev H2=some (v,bG R 0 H2 B,.call R U):=by
 unfold eff at h
 cases W with
 | false=>simp at h
 | true =>
   simp only at h
   split at h
   ·rename_i g l hc
    obtain⟨⟨v',K⟩,hr,he⟩:=Option.map_eq_some_iff.1 h
    simp only [Prod.mk.injEq] at he
    obtain⟨rfl,rfl,hen⟩:=he
    have hR:fX H 400 (ee l++qz N g) []=R:=by
     simp only [dp,hc,Ent.call.injEq] at hen
     exact hen.1
    have hU:xM N R H K=U:=by
     simp only [dp,hc,Ent.call.injEq] at hen
     rw [<- hR]
     exact hen.2
    have hr0:=hr
    unfold p9 at hr
    rw [hR] at hr
    simp only at hr
    split at hr
    ·simp [T.val] at hr
    ·rename_i hargs
     split at hr
     ·simp [T.val] at hr
     ·rename_i hheap
      obtain⟨⟨v0,B⟩,hb,hr⟩:=T.bind_some hr
      simp only at hr
      split at hr
      ·simp [T.val] at hr
      ·rename_i hpers
       simp only [T.val,Option.some.injEq,Prod.mk.injEq] at hr
       obtain⟨rfl,rfl⟩:=hr
       have hlen:=(ko hpers).1
       rw [kI] at hlen
       refine⟨_,B,hR.symm,hlen,rfl,fun n hn=>?_,fun n hn=>?_,fun H2 h2 h3=>?_⟩
       ·rw [gK _ _ _ _ _ hlen,if_pos hn,Nat.zero_add]
        cases hx:ab H n with
        | none=>rfl
        | some x =>
          simp only
          split
          ·rename_i hs
           obtain⟨c',hc'⟩:=(ko hpers).2.1 n x (by rw [mu,Nat.zero_add,if_pos hs];exact hx)
           rw [hc'];rfl
          ·rfl
       ·rw [<- hU] at hn
        exact(IB hn).symm
       unfold eff
       simp only [hc]
       have:(p9 cal (qz N g) g l H2).val=some (v0,bG R 0 H2 B):=by
        unfold p9
        rw [h2,h3]
        simp only [hargs,hheap,T.val_bind,hb,Option.bind_some,hpers,T.val]
       rw [this]
       simp only [Option.map_some,dp,hc,h2]
       rw [<- hU,IC hlen h3]
   ·cases h
   ·rename_i hc
    obtain⟨r,_,he⟩:=Option.map_eq_some_iff.1 h
    simp only [Prod.mk.injEq] at he
    obtain⟨_,_,hen⟩:=he
    simp only [dp,hc] at hen
    cases o<;>simp at hen
    all_goals (split at hen<;>cases hen)
theorem G4 {cal:Callee AV} {W:Bool} {nm:Nat} {o:Op} {ev:Operand->Option SV} {H H':Hp AV} {v:SV} {en:Ent} (h:eff N cal W nm o ev H=some (v,H',en)) (hnm:N.G<=nm) (hH:N.G<=H.length) (g:Nat) (hg:g < N.G) :
 (ab H' g).isSome=(ab H g).isSome:=by
 cases hi:qw en with
 | false =>
   obtain⟨u,rfl,hu,hw,_⟩:=mB h hi
   rcases hu with rfl | ⟨n,c,rfl,hen,hlt⟩
   ·rfl
   ·by_cases e:n=g
    ·subst e
     simp only [du]
     rw [bn _ hlt]
     rcases hw n hen with⟨_,_,rfl⟩ | ⟨c',hc'⟩
     ·omega
     ·rw [hc'];rfl
    ·simp only [du]
     rw [aK _ e]
 | true =>
   cases en with
   | pure=>cases hi
   | rd _=>cases hi
   | wr _=>cases hi
   | call R U =>
     obtain⟨_,_,_,_,_,k,_⟩:=sc h
     exact k g (by omega)
end
section
variable {AV:Type} {N:Env AV}
theorem dB:∀(l:List Nat) (n:Nat),iU l n=true↔n∈l
 | [],n=>by simp [iU]
 | x::r,n=>by
   simp only [iU]
   split
   ·rename_i h;simp [(ai _ _).1 h]
   ·rename_i h
    have:=(aR _ _).1 h
    rw [dB r n]
    simp [Ne.symm this]
theorem iP (H:Hp AV):∀(f:Nat) (todo acc:List Nat) (n:Nat),n∈acc->n∈fX H f todo acc
 | 0,_,_,_,h=>by simpa [fX] using h
 | _+1,[],_,_,h=>by simpa [fX] using h
 | f+1,m::r,acc,n,h=>by
   simp only [fX]
   split
   ·exact iP H f r acc n h
   ·split
    ·exact iP H f _ _ n (List.mem_cons_of_mem _ h)
    ·exact iP H f _ _ n (List.mem_cons_of_mem _ h)
    ·exact iP H f _ _ n (List.mem_cons_of_mem _ h)
theorem fG {H H2:Hp AV} {m:Nat} (hd:∀n,n≠m->ab H2 n=ab H n):∀(f:Nat) (todo acc:List Nat),m ∉ fX H f todo acc->fX H2 f todo acc=fX H f todo acc
 | 0,_,_,_=>rfl
 | _+1,[],_,_=>rfl
 | f+1,n::r,acc,h=>by
   simp only [fX] at h ⊢
   cases ha:iU acc n with
   | true=>simp only [ha] at h ⊢;exact fG hd f r acc h
   | false =>
     simp only [ha] at h ⊢
     have hn:n≠m:=by
      intro e
      subst e
      split at h
      ·exact h (iP H f _ _ n (by simp))
      ·exact h (iP H f _ _ n (by simp))
      ·exact h (iP H f _ _ n (by simp))
     rw [hd n hn]
     cases hl:ab H n with
     | none=>simp only [hl] at h ⊢;exact fG hd f _ _ h
     | some c =>
       cases c with
       | cells l ty=>simp only [hl] at h ⊢;exact fG hd f _ _ h
       | vec l es ty=>simp only [hl] at h ⊢;exact fG hd f _ _ h
       | dead=>simp only [hl] at h ⊢;exact fG hd f _ _ h
       | abs a=>simp only [hl] at h ⊢;exact fG hd f _ _ h
theorem Cs (R:List Nat) (n:Nat):dW R n=(m7 R).testBit n:=by
 have e:Nat.land (Nat.shiftRight (m7 R) n) 1=(1 &&& m7 R >>> n):=Nat.and_comm _ _
 unfold dW
 rw [e,Nat.testBit]
 split
 ·rename_i h;rw [h];rfl
 ·rename_i m h;rw [h];rfl
theorem yu:∀{R:List Nat} {n:Nat},n∈R->(m7 R).testBit n=true
 | [],n,h=>by cases h
 | m::r,n,h=>by
   have e:m7 (m::r)=(1 <<< m ||| m7 r):=rfl
   rw [e,Nat.testBit_or]
   rcases List.mem_cons.1 h with rfl | h
   ·simp [Nat.testBit_shiftLeft]
   ·rw [yu h];simp
theorem CM {R:List Nat} {n:Nat} (h:dW R n=false):n ∉ R:=by
 intro hm;rw [Cs,yu hm] at h;cases h
theorem tC {R:List Nat} {n:Nat} (h:dW R n=false) (x:Option (Chunk AV)):∀(H:Hp AV) (i k:Nat),i+k=n->fA R i (bC H k x)=fA R i H
 | [],_,_,_=>by simp [bC]
 | y::r,i,0,e=>by
   simp only [bC,fA]
   have:i=n:=by omega
   rw [this,h]
 | y::r,i,k+1,e=>by
   simp only [bC,fA]
   rw [tC h x r (i+1) k (by omega)]
theorem qn {R:List Nat} {n:Nat} (h:dW R n=false) (c:Chunk AV):∀(H B:Hp AV) (i k:Nat),i+k=n->k < H.length->H.length<=B.length->bG R i (bC H k (some c)) B=bC (bG R i H B) k (some c)
 | [],_,_,_,_,hk,_=>by simp at hk
 | y::r,[],i,k,_,_,hl=>by simp at hl
 | y::r,b::q,i,0,e,_,_=>by
   have:i=n:=by omega
   cases y<;>simp [bC,bG,this,h]
 | y::r,b::q,i,k+1,e,hk,hl=>by
   have ih:=qn h c r q (i+1) k (by omega) (by simpa using hk) (by simpa using hl)
   cases y<;>simp [bC,bG,ih]
theorem xt {R:List Nat} {H B:Hp AV} {n:Nat} (h:dW R n=false) (hn:n < H.length) (hl:H.length<=B.length):ab (bG R 0 H B) n=ab H n:=by
 rw [gK _ _ _ _ _ hl,if_pos hn,Nat.zero_add,h]
 cases ab H n<;>simp
theorem Iw {α:Type} (l:List α) {n m:Nat} (x y:α) (h:n≠m):bC (bC l n x) m y=bC (bC l m y) n x:=by
 simp only [lset_eq];exact List.set_comm _ _ h
theorem Du {a b:Ent} (h:bZ a b=true):bZ b a=true:=by
 cases a<;>cases b<;>simp_all [bZ]<;>exact(aR _ _).2 (Ne.symm ((aR _ _).1 h))
structure Fits (N:Env AV) (o:Op) (nm:Nat) (ev:Operand->Option SV) (H:Hp AV):Prop where
 cl:∀x∈o.operands,∀v,ev x=some v->ClV H v
 room:(xu o=true)->nm < H.length
theorem FR (H:Hp AV) (u:Option (Nat×Chunk AV)):(du H u).length=H.length:=by
 cases u with
 | none=>rfl
 | some p=>simp [du,bX]
theorem Fe {cal:Callee AV} {W:Bool} {nm:Nat} {o:Op} {ev:Operand->Option SV} {H H0 H':Hp AV} {v:SV} {en:Ent} (hf:Fits N o nm ev H0) (h:eff N cal W nm o ev H=some (v,H',en)) (n:Nat) (hn:en=.rd n \/ en=.wr n):n < H0.length:=by
 unfold eff at h
 cases W with
 | false =>
   simp only [Option.some.injEq,Prod.mk.injEq] at h
   obtain⟨_,_,rfl⟩:=h
   rcases hn with hn | hn<;>cases hn
 | true =>
   simp only at h
   have hen:∃H3,dp N nm ev H H3 o=en:=by
    split at h
    ·obtain⟨r,_,he⟩:=Option.map_eq_some_iff.1 h;cases he;exact⟨_,rfl⟩
    ·cases h
    ·obtain⟨r,_,he⟩:=Option.map_eq_some_iff.1 h;cases he;exact⟨_,rfl⟩
   obtain⟨H3,hen⟩:=hen
   rw [<- hen] at hn
   unfold dp at hn
   split at hn
   ·rcases hn with hn | hn<;>cases hn
   ·rcases hn with hn | hn<;>cases hn
   ·have ptrIn:∀x∈o.operands,∀c m,ev x=some (.v (.c c))->c.name=some m->m < H0.length:=by
     intro x hx c m hev hm
     obtain⟨y,hy⟩:=hf.cl x hx _ hev c (by simp [V1.cells]) m hm
     exact aX hy
    rename_i hcc
    clear h hen hcc
    cases o<;>simp only [] at hn<;>(try (rcases hn with hn | hn<;>cases hn;done))
    case alloc t =>
     rcases hn with hn | hn<;>cases hn
     exact hf.room rfl
    case box t x =>
     rcases hn with hn | hn<;>cases hn
     exact hf.room rfl
    case makeSlice t x y =>
     rcases hn with hn | hn<;>cases hn
     exact hf.room rfl
    case buildSlice t len parts =>
     rcases hn with hn | hn<;>cases hn
     exact hf.room rfl
    case slice t x lo hi mx =>
     split at hn
     ·rename_i p hp
      obtain⟨rfl,_,hx,_⟩:=wU hp
      rcases hn with hn | hn<;>cases hn
      exact ptrIn x (by simp [Op.operands]) _ _ hx rfl
     ·rcases hn with hn | hn<;>cases hn
    case load t x =>
     split at hn
     ·rename_i m off hx
      rcases hn with hn | hn<;>cases hn
      exact ptrIn x (by simp [Op.operands]) _ _ hx rfl
     ·rename_i hx
      rcases hn with hn | hn<;>cases hn
      exact ptrIn x (by simp [Op.operands]) _ _ hx rfl
     ·rcases hn with hn | hn<;>cases hn
    case store t x y =>
     split at hn
     ·rename_i m off hx
      rcases hn with hn | hn<;>cases hn
      exact ptrIn x (by simp [Op.operands]) _ _ hx rfl
     ·rename_i hx
      rcases hn with hn | hn<;>cases hn
      exact ptrIn x (by simp [Op.operands]) _ _ hx rfl
     ·rcases hn with hn | hn<;>cases hn
theorem wG {R:List Nat} {n:Nat} (h:(!dW R n)=true):dW R n=false:=by
 cases hs:dW R n<;>simp_all
theorem M3 {cal:Callee AV} {Wi Wj:Bool} {ni nj:Nat} {oi oj:Op} {evi evj:Operand->Option SV} {H Hi Hij:Hp AV} {vi vj:SV} {ei ej:Ent}
 (fi:Fits N oi ni evi H) (fj:Fits N oj nj evj H)
 (h1:eff N cal Wi ni oi evi H=some (vi,Hi,ei)) (h2:eff N cal Wj nj oj evj Hi=some (vj,Hij,ej)) (hc:bZ ei ej=true) :
 ∃Hj,eff N cal Wj nj oj evj H=some (vj,Hj,ej) /\ eff N cal Wi ni oi evi Hj=some (vi,Hij,ei):=by
 cases hi:qw ei with
 | false =>
   obtain⟨ui,rfl,hui,_,ki⟩:=mB h1 hi
   have leni:(du H ui).length=H.length:=FR H ui
   cases hj:qw ej with
   | false =>
     obtain⟨uj,rfl,huj,_,kj⟩:=mB h2 hj
     have nj_in:=Fe fj h2
     have e1:eff N cal Wj nj oj evj H=some (vj,du H uj,ej):=by
      refine kj H (fun n hn=>?_) (fun hm=>fj.room hm)
      rcases hui with rfl | ⟨m,c,rfl,hwr,hlt⟩
      ·rfl
      ·have hne:m≠n:=by
        intro e
        subst e
        subst hwr
        rcases hn with rfl | rfl<;>simp [bZ,Nat.beq_refl] at hc
       simp only [du]
       rw [aK _ hne]
     refine⟨_,e1,?_⟩
     have e2:eff N cal Wi ni oi evi (du H uj)=some (vi,du (du H uj) ui,ei):=by
      refine ki _ (fun n hn=>?_) (fun hm=>by rw [FR];exact fi.room hm)
      rcases huj with rfl | ⟨m,c,rfl,hwr,hlt⟩
      ·rfl
      ·have hne:m≠n:=by
        intro e
        subst e
        subst hwr
        rcases hn with rfl | rfl<;>simp [bZ,Nat.beq_refl] at hc
       simp only [du]
       rw [aK _ hne]
     rw [e2]
     congr 3
     rcases hui with rfl | ⟨m,c,rfl,hwr,hlt⟩
     ·rfl
     ·rcases huj with rfl | ⟨m',c',rfl,hwr',hlt'⟩
      ·rfl
      ·subst hwr hwr'
       have hne:m≠m':=by
        intro e;subst e;simp [bZ,Nat.beq_refl] at hc
       simp only [du]
       exact(Iw H _ _ hne).symm
   | true =>
     cases ej with
     | pure=>cases hj
     | rd _=>cases hj
     | wr _=>cases hj
     | call R U =>
       obtain⟨l,B,hR,hlen,rfl,_,hU,kj⟩:=sc h2
       rw [leni] at hlen
       have ni_in:=Fe fi h1
       have hns:∀n,ei=.wr n->dW R n=false:=by
        intro n hn
        subst hn
        exact wG hc
       have hkp:∀n,(ei=.rd n \/ ei=.wr n)->ab (bG R 0 H B) n=ab H n:=by
        intro n hn
        cases hs:dW R n with
        | false=>exact xt hs (ni_in n hn) hlen
        | true =>
          rcases hn with rfl | rfl
          ·rcases hui with rfl | ⟨m,c,rfl,hwr,hlt⟩
           ·refine hU n ?_
            simpa [bZ,hs] using hc
           ·cases hwr
          ·rw [hns n rfl] at hs;cases hs
       have e1:eff N cal Wj nj oj evj H=some (vj,bG R 0 H B,.call R U):=by
        rcases hui with rfl | ⟨m,c,rfl,hwr,hlt⟩
        ·exact kj H hR.symm rfl
        ·have hm:=hns m hwr
         refine kj H ?_ ?_
         ·rw [hR] at hm ⊢
          refine fG (m:=m) (fun n hn=>?_) _ _ _ (CM hm)
          simp only [du];rw [aK _ (Ne.symm hn)]
         ·simp only [du];exact(tC hm _ H 0 m (by omega)).symm
       refine⟨_,e1,?_⟩
       have e2:eff N cal Wi ni oi evi (bG R 0 H B)=some (vi,du (bG R 0 H B) ui,ei):=by
        refine ki _ (fun n hn=>hkp n hn) (fun hm=>?_)
        rw [kr _ _ _ _ hlen]
        exact Nat.lt_of_lt_of_le (fi.room hm) hlen
       rw [e2]
       congr 3
       rcases hui with rfl | ⟨m,c,rfl,hwr,hlt⟩
       ·rfl
       ·simp only [du]
        exact(qn (hns m hwr) c H B 0 m (by omega) hlt hlen).symm
 | true =>
   cases ei with
   | pure=>cases hi
   | rd _=>cases hi
   | wr _=>cases hi
   | call R U =>
     obtain⟨l,B,hR,hlen,rfl,_,hU,ki⟩:=sc h1
     cases hj:qw ej with
     | true =>
       cases ej with
       | call R' U'=>simp [bZ] at hc
       | pure=>cases hj
       | rd _=>cases hj
       | wr _=>cases hj
     | false =>
       obtain⟨uj,rfl,huj,_,kj⟩:=mB h2 hj
       have nj_in:=Fe fj h2
       have hns:∀n,ej=.wr n->dW R n=false:=by
        intro n hn
        subst hn
        exact wG hc
       have hkp:∀n,(ej=.rd n \/ ej=.wr n)->ab H n=ab (bG R 0 H B) n:=by
        intro n hn
        cases hs:dW R n with
        | false=>exact(xt hs (nj_in n hn) hlen).symm
        | true =>
          rcases hn with rfl | rfl
          ·refine(hU n ?_).symm
           simpa [bZ,hs] using hc
          ·rw [hns n rfl] at hs;cases hs
       have e1:eff N cal Wj nj oj evj H=some (vj,du H uj,ej) :=
        kj H (fun n hn=>hkp n hn) (fun hm=>fj.room hm)
       refine⟨_,e1,?_⟩
       have e2:eff N cal Wi ni oi evi (du H uj)=some (vi,bG R 0 (du H uj) B,.call R U):=by
        rcases huj with rfl | ⟨m,c,rfl,hwr,hlt⟩
        ·exact ki H hR.symm rfl
        ·have hm:=hns m hwr
         refine ki _ ?_ ?_
         ·rw [hR] at hm ⊢
          refine fG (m:=m) (fun n hn=>?_) _ _ _ (CM hm)
          simp only [du];rw [aK _ (Ne.symm hn)]
         ·simp only [du];exact tC hm _ H 0 m (by omega)
       rw [e2]
       congr 3
       rcases huj with rfl | ⟨m,c,rfl,hwr,hlt⟩
       ·rfl
       ·simp only [du]
        exact qn (hns m hwr) c H B 0 m (by omega) (nj_in m (.inr hwr)) hlen
end
end Go.Sx
