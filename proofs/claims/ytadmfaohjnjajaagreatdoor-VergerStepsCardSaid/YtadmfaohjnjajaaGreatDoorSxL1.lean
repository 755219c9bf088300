import Derived.Test.YtadmfaohjnjajaaGreatDoorSxI
set_option linter.unusedVariables false
set_option linter.unusedSimpArgs false
set_option maxHeartbeats 0
set_option maxRecDepth 100000
namespace Go.Sx
section
variable {AV:Type} {N:dV AV}
noncomputable def AZ (N:dV AV) (cP:Callee AV) (W:Bool) (nm:Nat) (o:Op) (ev:Operand->Option SV) (H:Hp AV):Option (SV×Hp AV×qC) :=
 match W with
 | false=>some (dQ,H,.pure)
 | true=>match qB N ev o with
   | some (some (g,l))=>(xf cP (xL N g) g l H).val.map fun r=>(r.1,r.2,ga N nm ev H r.2 o)
   | some none=>none
   | none=>(kP N nm ev H o).val.map fun r=>(r.1,gf H r.2,ga N nm ev H (gf H r.2) o)
theorem pj {cP:Callee AV} {base:Nat} {all:List Oper} {i:Nat} {o:Oper} {s:St AV} :
 (mT N cP base all i o s).val=(iu all o s.E).bind fun p=>(AZ N cP p.1 (oG all base i) o.op (qP N.G s.H s.E) s.H).map fun r=>({E:=jY s.E o.dst r.1,H:=r.2.1},r.2.2):=by
 rw [vA]
 unfold zV AZ m4
 cases iu all o s.E with
 | none=>rfl
 | some p =>
   obtain⟨b,k⟩:=p
   simp only [Option.bind_some]
   cases b with
   | false=>simp
   | true =>
     simp only [if_true]
     split
     ·rename_i g l h
      simp only [h]
      rw [T.n5]
      cases (xf cP (xL N g) g l s.H).val with
      | none=>rfl
      | some r=>rfl
     ·rename_i h;simp [h,T.val]
     ·rename_i h
      simp only [h]
      rw [T.n5]
      cases (kP N (oG all base i) (qP N.G s.H s.E) s.H o.op).val with
      | none=>rfl
      | some r=>rfl
theorem EH {ev sI:Operand->Option SV}:∀l:List (Nat×Operand),(∀p∈l,ev p.2=sI p.2)->zh ev l=zh sI l
 | [],_=>rfl
 | (i,x)::l,hl=>by
   simp only [zh]
   rw [hl (i,x) (by simp),EH l (fun q hq=>hl q (by simp [hq]))]
theorem y6 {nm:Nat} {H:Hp AV} {fW:Option Arr} {r:SV×Option (Nat×aG AV)} (h:(ov N nm H fW).val=some r):ae H nm=none /\ nm < H.length /\ (∃c,r.2=some (nm,c)) /\
 ∀H2:Hp AV,ae H2 nm=none->nm < H2.length->(ov N nm H2 fW).val=some r:=by
 unfold ov at h
 split at h
 ·split at h
  ·rename_i h2 h3 h4
   cases h
   refine⟨h2,(fw _ _).1 h3,⟨_,rfl⟩,fun H2 e2 hl=>?_⟩
   have e3:=(fw _ _).2 hl
   simp only [ov,e2,e3,h4,T.val]
  ·cases h
 ·cases h
theorem Lx {nm:Nat} {H:Hp AV} {fW:Option Arr} {z:Option (Bool×AV×Nat×Nat)} {r:SV×Option (Nat×aG AV)} (h:(y5 N nm H fW z).val=some r):ae H nm=none /\ nm < H.length /\ (∃c,r.2=some (nm,c)) /\
 ∀H2:Hp AV,ae H2 nm=none->nm < H2.length->(y5 N nm H2 fW z).val=some r:=by
 unfold y5 at h ⊢
 split at h
 ·obtain⟨h1,h2,h3,h4⟩:=y6 h
  exact⟨h1,h2,h3,h4⟩
 ·unfold uH at h
  split at h
  ·split at h
   ·rename_i h2 h3 h4
    have hb:=h
    obtain⟨rfl,h⟩:=fN h
    cases h
    refine⟨h2,(fw _ _).1 h3,⟨_,rfl⟩,fun H2 e2 hl=>?_⟩
    have e3:=(fw _ _).2 hl
    simp only [uH,e2,e3,h4,T.val]
   ·cases h
  ·cases h
theorem pV {ev sI:Operand->Option SV}:∀(l:List Operand),(∀x∈l,ev x=sI x)->Gb ev l=Gb sI l
 | [],_=>rfl
 | x::r,h=>by simp only [Gb];rw [h x (by simp),pV r (fun y hy=>h y (by simp [hy]))]
theorem Gm {ev sI:Operand->Option SV} (o:Op) (h:∀x∈o.operands,ev x=sI x):txO ev o=txO sI o:=by
 cases o<;>try rfl
 rename_i t x lo hi mx
 cases mx with
 | some _=>rfl
 | none=>simp only [txO];rw [h x (by simp [Op.operands])]
theorem I2 {ev sI:Operand->Option SV} (o:Op) (h:∀x∈o.operands,ev x=sI x):uk N ev o=uk N sI o:=by
 cases o<;>simp only [uk]<;>simp only [Op.operands] at h
 case move x=>rw [h x (by simp)]
 case assign x=>rw [h x (by simp)]
 case pick c a b=>rw [h c (by simp),h a (by simp),h b (by simp)]
 case build t ps =>
  have:∀l:List (Nat×Operand),(∀p∈l,ev p.2=sI p.2)->zh ev l=zh sI l:=by
   intro l
   induction l with
   | nil=>intro _;rfl
   | cons p l ih =>
     intro hl
     obtain⟨i,x⟩:=p
     simp only [zh]
     rw [hl (i,x) (by simp),ih (fun q hq=>hl q (by simp [hq]))]
  rw [this ps.toList (fun p hp=>h p.2 (by simp;exact⟨p.1,afP.1 hp⟩))]
 case nilCheck x=>rw [h x (by simp)]
 case fieldAddr t x i=>rw [h x (by simp)]
 case field t x i=>rw [h x (by simp)]
 case binOp op t x y t'=>rw [h x (by simp),h y (by simp)]
 case unOp op t x=>cases op<;>simp only []<;>rw [h x (by simp)]
 case slice t x lo hi mx =>
  have e1:txO ev (.slice t x lo hi mx)=txO sI (.slice t x lo hi mx):=Gm _ (by simpa [Op.operands] using h)
  rw [e1]
  split
  ·unfold ahS
   rw [h x (by simp)]
   have b1:∀d,Cf ev d lo=Cf sI d lo:=fun d=>by
    cases lo with
    | none=>rfl
    | some y=>simp only [Cf];rw [h y (by simp)]
   have b2:∀d,Cf ev d hi=Cf sI d hi:=fun d=>by
    cases hi with
    | none=>rfl
    | some y=>simp only [Cf];rw [h y (by simp)]
   simp only [b1,b2]
  ·rfl
 case extract x i=>rw [h x (by simp)]
 case makeFunc fn first captured=>rw [pV captured.toList (fun x hx=>h x (by simp only [Array.mem_append];exact .inr (afP.1 hx)))]
 case makeInterface t x=>rw [h x (by simp)]
 case indexAddr t x i=>rw [h x (by simp),h i (by simp)]
 case index t x i=>rw [h x (by simp),h i (by simp)]
 case convert a b x=>rw [h x (by simp)]
 case call c =>
  split
  ·split
   ·rename_i x t hx ht
    rw [h x (by simp only [Call.operands,Array.mem_append];exact .inr (by rw [<- afP,hx];simp))]
   ·rfl
  ·rfl
theorem uq {ev sI:Operand->Option SV} (o:Op) (h:∀x∈o.operands,ev x=sI x):Bx ev o=Bx sI o:=by
 cases o<;>try rfl
 rename_i t x lo hi mx
 have hx:ev x=sI x:=h x (by simp [Op.operands])
 have hb:∀(y:Option Operand) (d:Nat),(∀z,y=some z->ev z=sI z)->Cg ev d y=Cg sI d y:=fun y d hy=>by
  cases y with
  | none=>rfl
  | some z=>simp only [Cg];rw [hy z rfl]
 simp only [Bx]
 rw [hx]
 split
 ·rfl
 ·split
  ·rw [hb lo 0 (fun z hz=>h z (by simp [Op.operands,hz])),hb hi _ (fun z hz=>h z (by simp [Op.operands,hz]))]
  ·rfl
theorem JB {ev sI:Operand->Option SV} (o:Op) (h:∀x∈o.operands,ev x=sI x):Ew ev o=Ew sI o:=by
 unfold Ew
 split
 ·rw [uq o h,Gm o h]
 ·rename_i hh
  clear hh
  cases o<;>simp only []
  case convert a b x=>simp only [Op.operands] at h;rw [h x (by simp)]
  case call c =>
   simp only [Op.operands,Call.operands] at h
   split
   ·split
    ·rename_i x hx
     rw [h x (by simp only [Array.mem_append];exact .inr (by rw [<- afP,hx];simp))]
    ·rfl
   ·rfl
theorem zu {ev sI:Operand->Option SV} (o:Op) (h:∀x∈o.operands,ev x=sI x):qB N ev o=qB N sI o:=by
 unfold qB
 rw [JB o h]
 split
 ·rw [pV o.operands.toList (fun x hx=>h x (afP.1 hx))]
 ·rename_i hh
  clear hh
  cases o<;>simp only []
  case call c =>
   simp only [Op.operands,Call.operands] at h
   split
   ·rename_i f hf
    rw [h f (by rw [hf];simp),pV c.args.toList (fun x hx=>h x (by simp only [Array.mem_append];exact .inr (afP.1 hx)))]
   ·rename_i f m hf
    rw [h f (by rw [hf];simp),pV c.args.toList (fun x hx=>h x (by simp only [Array.mem_append];exact .inr (afP.1 hx)))]
   ·rfl
theorem Lw {ev sI:Operand->Option SV} (nm:Nat) (H:Hp AV) (o:Op) (h:∀x∈o.operands,ev x=sI x):kP N nm ev H o=kP N nm sI H o:=by
 unfold kP
 rw [I2 o h]
 split
 ·rfl
 ·rename_i M0
  clear M0
  have MZ:=uq o h
  cases o<;>simp only []<;>simp only [Op.operands] at h
  case slice t x lo hi mx=>rw [MZ]
  case box t x=>rw [h x (by simp)]
  case load t x=>rw [h x (by simp)]
  case store t x y=>rw [h x (by simp),h y (by simp)]
  case makeSlice t x y=>rw [h x (by simp),h y (by simp)]
  case buildSlice t len parts=>rw [EH parts.toList (fun p hp=>h p.2 (by simp;exact⟨p.1,afP.1 hp⟩))]
theorem SQ {ev sI:Operand->Option SV} (nm:Nat) (H H':Hp AV) (o:Op) (h:∀x∈o.operands,ev x=sI x):ga N nm ev H H' o=ga N nm sI H H' o:=by
 unfold ga
 rw [zu o h]
 split
 ·rfl
 ·rfl
 ·rename_i M0
  clear M0
  have MZ:=uq o h
  cases o<;>simp only []<;>simp only [Op.operands] at h
  case slice t x lo hi mx=>rw [MZ]
  case load t x=>rw [h x (by simp)]
  case store t x y=>rw [h x (by simp)]
theorem HT {cP:Callee AV} {W:Bool} {nm:Nat} {o:Op} {ev sI:Operand->Option SV} {H:Hp AV} (h:∀x∈o.operands,ev x=sI x):AZ N cP W nm o ev H=AZ N cP W nm o sI H:=by
 unfold AZ
 rw [zu o h,Lw nm H o h]
 simp only [SQ nm H _ o h]
def xG:qC->Bool
 | .call _ _=>true
 | _=>false
theorem rT {cP:Callee AV} {W:Bool} {nm:Nat} {o:Op} {ev:Operand->Option SV} {H H':Hp AV} {v:SV} {en:qC} (h:AZ N cP W nm o ev H=some (v,H',en)) (hn:xG en=false) :
 ∃u,H'=gf H u /\ (u=none \/ ∃n c,u=some (n,c) /\ en=.wr n /\ n < H.length) /\
   (∀n,en=.wr n->n < H.length /\ (D2 o=true) /\ n=nm \/ ∃c,ae H n=some c) /\
   ∀H2:Hp AV,(∀n,(en=.rd n \/ en=.wr n)->ae H2 n=ae H n)->((D2 o=true)->nm < H2.length)->AZ N cP W nm o ev H2=some (v,gf H2 u,en):=by
 unfold AZ at h
 cases W with
 | false =>
   cases h
   exact⟨none,rfl,.inl rfl,(fun n h=>by cases h),fun H2 _ _=>rfl⟩
 | true =>
   simp only at h
   split at h
   ·rename_i g l hc
    obtain⟨r,_,hr⟩:=abu.1 h
    cases hr
    simp [ga,hc,xG] at hn
   ·cases h
   ·rename_i hc
    obtain⟨⟨v',u⟩,hl,hr⟩:=abu.1 h
    simp only [aaF] at hr
    obtain⟨rfl,rfl,xI⟩:=hr
    have JA:∀H2 H3:Hp AV,ga N nm ev H2 H3 o=en:=fun H2 H3=>by rw [<- xI];simp only [ga,hc]
    have done:∀H2:Hp AV,(kP N nm ev H2 o).val=some (v',u)->AZ N cP true nm o ev H2=some (v',gf H2 u,en):=fun H2 h2=>by
     unfold AZ
     simp only [hc,h2,Option.map_some,JA H2]
    refine⟨u,rfl,?_⟩
    unfold kP at hl
    split at hl
    ·-- looks at no memory
     rename_i t ht
     rw [T.fR] at hl
     obtain⟨v0,hv0,he⟩:=abu.1 hl
     cases he
     have tC:∀n,en≠.wr n:=by
      intro n hw
      rw [<- xI] at hw
      simp only [ga,hc] at hw
      cases o<;>simp [uk] at ht hw
      all_goals (split at hw<;>cases hw)
     refine⟨.inl rfl,(fun n h=>absurd h (tC n)),fun H2 _ _=>done H2 ?_⟩
     unfold kP
     simp only [ht,T.fR,hv0,Option.map_some]
    ·rename_i M0
     split at hl
     ·-- alloc
      rename_i t
      split at hl
      ·rename_i kd sz z fl h1 h2 h3 h4
       cases hl
       have qM:en=.wr nm:=by rw [<- xI];simp only [ga,hc]
       have du:=(fw _ _).1 h3
       refine⟨.inr ⟨_,_,rfl,qM,du⟩,(fun n h=>.inl ?_),fun H2 J9 hlen=>done H2 ?_⟩
       ·rw [qM] at h;cases h;exact⟨du,rfl,rfl⟩
       ·have e2:=J9 nm (.inr qM)
        rw [h2] at e2
        have e3:=(fw _ _).2 (hlen rfl)
        unfold kP
        simp only [M0,h1,e2,e3,h4,T.val]
      ·cases hl
     ·-- box
      rename_i t x
      split at hl
      ·rename_i b h1 h2 h3 h4
       cases hl
       have qM:en=.wr nm:=by rw [<- xI];simp only [ga,hc]
       have du:=(fw _ _).1 h3
       refine⟨.inr ⟨_,_,rfl,qM,du⟩,(fun n h=>.inl ?_),fun H2 J9 hlen=>done H2 ?_⟩
       ·rw [qM] at h;cases h;exact⟨du,rfl,rfl⟩
       ·have e2:=J9 nm (.inr qM)
        rw [h2] at e2
        have e3:=(fw _ _).2 (hlen rfl)
        unfold kP
        simp only [M0,h1,e2,e3,h4,T.val]
      ·cases hl
     ·-- load
      rename_i t x
      split at hl
      ·rename_i p hp
       rw [T.fR] at hl
       obtain⟨v0,hv0,he⟩:=abu.1 hl
       cases he
       have tC:∀n,en≠.wr n:=by
        intro n hw
        rw [<- xI] at hw
        simp only [ga,hc,hp] at hw
        split at hw<;>cases hw
       refine⟨.inl rfl,(fun n h=>absurd h (tC n)),fun H2 J9 _=>done H2 ?_⟩
       have e2:Ea N t H2 p=Ea N t H p:=by
        unfold Ea
        split
        ·rename_i n off
         have:en=.rd n:=by rw [<- xI];simp only [ga,hc,hp]
         rw [J9 n (.inl this)]
        ·rename_i n idx es off
         have:en=.rd n:=by rw [<- xI];simp only [ga,hc,hp]
         rw [J9 n (.inl this)]
        ·rfl
       unfold kP
       simp only [M0,hp,T.fR,e2,hv0,Option.map_some]
      ·cases hl
     ·-- store
      rename_i t x y
      split at hl
      ·rename_i n off b hx hy
       split at hl
       ·rename_i l ty i h3 h4
        split at hl
        ·rename_i h5
         split at hl
         ·rename_i l' h6
          cases hl
          have qM:en=.wr n:=by rw [<- xI];simp only [ga,hc,hx]
          refine⟨.inr ⟨_,_,rfl,qM,bQ h3⟩,(fun m h=>.inr ?_),fun H2 J9 _=>done H2 ?_⟩
          ·rw [qM] at h;cases h;exact⟨_,h3⟩
          ·have e2:=J9 n (.inr qM)
           rw [h3] at e2
           unfold kP
           simp only [M0,hx,hy,e2,h4,h5,h6,T.val]
         ·cases hl
        ·cases hl
       ·cases hl
      ·rename_i n idx es off b hx hy
       have qM:en=.wr n:=by rw [<- xI];simp only [ga,hc,hx]
       split at hl
       ·rename_i l ve ty i h3 h4
        split at hl
        ·rename_i h5
         split at hl
         ·cases hl
         rename_i h50
         split at hl
         ·rename_i l' h6
          cases hl
          refine⟨.inr ⟨_,_,rfl,qM,bQ h3⟩,(fun m h=>.inr ?_),fun H2 J9 _=>done H2 ?_⟩
          ·rw [qM] at h;cases h;exact⟨_,h3⟩
          ·have e2:=J9 n (.inr qM)
           rw [h3] at e2
           unfold kP
           simp only [M0,hx,hy,e2,h4,h5,h50,h6,T.val]
         ·cases hl
        ·cases hl
       ·rename_i a i h3 h4
        split at hl
        ·rename_i h5
         split at hl
         ·rename_i bb a' h6
          obtain⟨rfl,hl⟩:=fN hl
          cases hl
          refine⟨.inr ⟨_,_,rfl,qM,bQ h3⟩,(fun m h=>.inr ?_),fun H2 J9 _=>done H2 ?_⟩
          ·rw [qM] at h;cases h;exact⟨_,h3⟩
          ·have e2:=J9 n (.inr qM)
           rw [h3] at e2
           unfold kP
           simp only [M0,hx,hy,e2,h4,h5,h6,T.val]
         ·cases hl
        ·cases hl
       ·cases hl
      ·cases hl
     ·-- make
      rename_i t x y
      obtain⟨h2,du,⟨c,hu⟩,Cb⟩:=Lx hl
      simp only at hu
      subst hu
      have qM:en=.wr nm:=by rw [<- xI];simp only [ga,hc]
      refine⟨.inr ⟨_,_,rfl,qM,du⟩,(fun n h=>.inl ?_),fun H2 J9 hlen=>done H2 ?_⟩
      ·rw [qM] at h;cases h;exact⟨du,rfl,rfl⟩
      ·have e2:=J9 nm (.inr qM)
       rw [h2] at e2
       unfold kP
       simp only [M0]
       exact Cb H2 e2 (hlen rfl)
     ·-- the YF of a slice
      rename_i t len parts
      obtain⟨h2,du,⟨c,hu⟩,Cb⟩:=y6 hl
      simp only at hu
      subst hu
      have qM:en=.wr nm:=by rw [<- xI];simp only [ga,hc]
      refine⟨.inr ⟨_,_,rfl,qM,du⟩,(fun n h=>.inl ?_),fun H2 J9 hlen=>done H2 ?_⟩
      ·rw [qM] at h;cases h;exact⟨du,rfl,rfl⟩
      ·have e2:=J9 nm (.inr qM)
       rw [h2] at e2
       unfold kP
       simp only [M0]
       exact Cb H2 e2 (hlen rfl)
     ·-- a part of a slice
      rename_i t x lo hi mx
      split at hl
      ·rename_i p hp
       obtain⟨he,si,lst,ty,hs,hn,Jz,hfit⟩:=y4 hl
       simp only [aaF] at he
       obtain⟨rfl,rfl⟩:=he
       have hrd:en=.rd p.n:=by rw [<- xI];simp only [ga,hc,hp]
       refine⟨.inl rfl,(fun n h=>by rw [hrd] at h;cases h),fun H2 J9 _=>done H2 ?_⟩
       have e2:=J9 p.n (.inl hrd)
       unfold kP
       simp only [M0,hp]
       unfold CE at hl ⊢
       rw [e2]
       exact hl
      ·cases hl
     ·cases hl
theorem So {R:List Nat} {H K:Hp AV} {n:Nat} (h:(Ej N R H K n).ok=true):ae H n=ae K n:=by
 unfold Ej at h
 split at h
 ·unfold ad1 at h
  split at h
  ·rename_i a b e1 e2
   split at h
   ·rename_i hs
    rw [e1,e2,N.F.rZ a b hs]
   ·cases h
  ·rename_i l t l' t' e1 e2
   have h:m7 l t l' t'=true:=h
   unfold m7 at h
   obtain⟨rfl,rfl⟩:=@aaV _ (Classical.propDecidable _) h
   rw [e1,e2]
  ·cases h
 ·cases h
theorem Sq {R:List Nat} {H H2 B:Hp AV} (hl:H.length<=B.length) (h:jD R 0 H2=jD R 0 H):Ej N R H2 (di R 0 H2 B)=Ej N R H (di R 0 H B):=by
 have hlen:H2.length=H.length:=by have h1:=congrArg List.length h;rw [pL,pL] at h1;exact h1
 funext n
 unfold Ej
 cases hs:hZ R n with
 | false=>rfl
 | true =>
   have e:ae H2 n=ae H n:=by
    have h1:ae (jD R 0 H2) n=ae H2 n:=by rw [rP,abJ,if_pos hs]
    have h2:ae (jD R 0 H) n=ae H n:=by rw [rP,abJ,if_pos hs]
    rw [<- h1,<- h2,h]
   simp only
   rw [lN _ _ _ _ _ hl,lN _ _ _ _ _ (by omega),hlen,e]
theorem zn {cP:Callee AV} {W:Bool} {nm:Nat} {o:Op} {ev:Operand->Option SV} {H H':Hp AV} {v:SV} {R:List Nat} {U:Nat->QZ} (h:AZ N cP W nm o ev H=some (v,H',.call R U)) :
 ∃(nl:List Nat) (B:Hp AV),R=km H 400 nl [] /\ H.length<=B.length /\ H'=di R 0 H B /\ (∀n,n < H.length->(ae H' n).isSome=(ae H n).isSome) /\ (∀n,(U n).ok=true->ae H' n=ae H n) /\
   ∀H2:Hp AV,km H2 400 nl []=R->jD R 0 H2=jD R 0 H->AZ N cP W nm o ev H2=some (v,di R 0 H2 B,.call R U):=by
 unfold AZ at h
 cases W with
 | false=>simp at h
 | true =>
   simp only at h
   split at h
   ·rename_i g l hc
    obtain⟨⟨v',K⟩,hr,he⟩:=abu.1 h
    simp only [aaF] at he
    obtain⟨rfl,rfl,xI⟩:=he
    have hR:km H 400 (iw l++xL N g) []=R:=by
     simp only [ga,hc,qC.call.injEq] at xI
     exact xI.1
    have hU:Ej N R H K=U:=by
     simp only [ga,hc,qC.call.injEq] at xI
     rw [<- hR]
     exact xI.2
    have hr0:=hr
    unfold xf at hr
    rw [hR] at hr
    simp only at hr
    split at hr
    ·cases hr
    ·rename_i bM
     split at hr
     ·cases hr
     ·rename_i Hu
      obtain⟨⟨v0,B⟩,hb,hr⟩:=T.bf hr
      simp only at hr
      split at hr
      ·cases hr
      ·rename_i s8
       simp only [T.val,aaC,aaF] at hr
       obtain⟨rfl,rfl⟩:=hr
       have hlen:=(pn s8).1
       rw [pL] at hlen
       refine⟨_,B,hR.symm,hlen,rfl,fun n hn=>?_,fun n hn=>?_,fun H2 h2 h3=>?_⟩
       ·rw [lN _ _ _ _ _ hlen,if_pos hn,abJ]
        cases hx:ae H n with
        | none=>rfl
        | some x =>
          simp only
          split
          ·rename_i hs
           obtain⟨c',nC⟩:=(pn s8).2.1 n x (by rw [rP,abJ,if_pos hs];exact hx)
           rw [nC];rfl
          ·rfl
       ·rw [<- hU] at hn
        exact(So hn).symm
       unfold AZ
       simp only [hc]
       have:(xf cP (xL N g) g l H2).val=some (v0,di R 0 H2 B):=by
        unfold xf
        rw [h2,h3]
        simp only [bM,Hu,T.n5,hb,Option.bind_some,s8,T.val]
       rw [this]
       simp only [Option.map_some,ga,hc,h2]
       rw [<- hU,Sq hlen h3]
   ·cases h
   ·rename_i hc
    obtain⟨r,_,he⟩:=abu.1 h
    simp only [aaF] at he
    obtain⟨_,_,xI⟩:=he
    simp only [ga,hc] at xI
    cases o<;>simp at xI
    all_goals (split at xI<;>cases xI)
theorem QE {cP:Callee AV} {W:Bool} {nm:Nat} {o:Op} {ev:Operand->Option SV} {H H':Hp AV} {v:SV} {en:qC} (h:AZ N cP W nm o ev H=some (v,H',en)) (tH:N.G<=nm) (hH:N.G<=H.length) (g:Nat) (hg:g < N.G) :
 (ae H' g).isSome=(ae H g).isSome:=by
 cases hi:xG en with
 | false =>
   obtain⟨u,rfl,hu,hw,_⟩:=rT h hi
   rcases hu with rfl | ⟨n,c,rfl,xI,du⟩
   ·rfl
   ·by_cases e:n=g
    ·subst e
     simp only [gf]
     rw [cg _ du]
     rcases hw n xI with⟨_,_,rfl⟩ | ⟨c',nC⟩
     ·omega
     ·rw [nC];rfl
    ·simp only [gf]
     rw [bp _ e]
 | true =>
   cases en with
   | pure=>cases hi
   | rd _=>cases hi
   | wr _=>cases hi
   | call R U =>
     obtain⟨_,_,_,_,_,k,_⟩:=zn h
     exact k g (by omega)
end
section
variable {AV:Type} {N:dV AV}
theorem gw:∀(l:List Nat) (n:Nat),nD l n=true↔n∈l
 | [],n=>by simp [nD]
 | x::r,n=>by
   simp only [nD]
   split
   ·rename_i h;simp [(aC _ _).1 h]
   ·rename_i h
    have:=(bE _ _).1 h
    rw [gw r n]
    simp [Ne.symm this]
theorem m8 (H:Hp AV):∀(f:Nat) (todo acc:List Nat) (n:Nat),n∈acc->n∈km H f todo acc
 | 0,_,_,_,h=>by simpa [km] using h
 | _+1,[],_,_,h=>by simpa [km] using h
 | f+1,m::r,acc,n,h=>by
   simp only [km]
   split
   ·exact m8 H f r acc n h
   ·split
    ·exact m8 H f _ _ n (aby _ h)
    ·exact m8 H f _ _ n (aby _ h)
    ·exact m8 H f _ _ n (aby _ h)
theorem jL {H H2:Hp AV} {m:Nat} (hd:∀n,n≠m->ae H2 n=ae H n):∀(f:Nat) (todo acc:List Nat),m ∉ km H f todo acc->km H2 f todo acc=km H f todo acc
 | 0,_,_,_=>rfl
 | _+1,[],_,_=>rfl
 | f+1,n::r,acc,h=>by
   simp only [km] at h ⊢
   cases ha:nD acc n with
   | true=>simp only [ha] at h ⊢;exact jL hd f r acc h
   | false =>
     simp only [ha] at h ⊢
     have hn:n≠m:=by
      intro e
      subst e
      split at h
      ·exact h (m8 H f _ _ n (by simp))
      ·exact h (m8 H f _ _ n (by simp))
      ·exact h (m8 H f _ _ n (by simp))
     rw [hd n hn]
     cases hl:ae H n with
     | none=>simp only [hl] at h ⊢;exact jL hd f _ _ h
     | some c =>
       cases c with
       | cells l ty=>simp only [hl] at h ⊢;exact jL hd f _ _ h
       | kD l es ty=>simp only [hl] at h ⊢;exact jL hd f _ _ h
       | j8=>simp only [hl] at h ⊢;exact jL hd f _ _ h
       | bI a=>simp only [hl] at h ⊢;exact jL hd f _ _ h
theorem KK (R:List Nat) (n:Nat):hZ R n=(sO R).testBit n:=by
 have e:Nat.land (Nat.shiftRight (sO R) n) 1=(1 &&& sO R >>> n):=Nat.and_comm _ _
 unfold hZ
 rw [e,Nat.testBit]
 split
 ·rename_i h;rw [h];rfl
 ·rename_i m h;rw [h];rfl
theorem E9:∀{R:List Nat} {n:Nat},n∈R->(sO R).testBit n=true
 | [],n,h=>by cases h
 | m::r,n,h=>by
   have e:sO (m::r)=(1 <<< m ||| sO r):=rfl
   rw [e,Nat.testBit_or]
   rcases abk.1 h with rfl | h
   ·simp [Nat.testBit_shiftLeft]
   ·rw [E9 h];simp
theorem Lc {R:List Nat} {n:Nat} (h:hZ R n=false):n ∉ R:=by
 intro hm;rw [KK,E9 hm] at h;cases h
theorem Av {R:List Nat} {n:Nat} (h:hZ R n=false) (x:Option (aG AV)):∀(H:Hp AV) (i k:Nat),i+k=n->jD R i (cV H k x)=jD R i H
 | [],_,_,_=>by simp [cV]
 | y::r,i,0,e=>by
   simp only [cV,jD]
   have:i=n:=by omega
   rw [this,h]
 | y::r,i,k+1,e=>by
   simp only [cV,jD]
   rw [Av h x r (i+1) k (by omega)]
theorem xz {R:List Nat} {n:Nat} (h:hZ R n=false) (c:aG AV):∀(H B:Hp AV) (i k:Nat),i+k=n->k < H.length->H.length<=B.length->di R i (cV H k (some c)) B=cV (di R i H B) k (some c)
 | [],_,_,_,_,hk,_=>by simp at hk
 | y::r,[],i,k,_,_,hl=>by simp at hl
 | y::r,b::q,i,0,e,_,_=>by
   have:i=n:=by omega
   cases y<;>simp [cV,di,this,h]
 | y::r,b::q,i,k+1,e,hk,hl=>by
   have ih:=xz h c r q (i+1) k (by omega) (by simpa using hk) (by simpa using hl)
   cases y<;>simp [cV,di,ih]
theorem D1 {R:List Nat} {H B:Hp AV} {n:Nat} (h:hZ R n=false) (hn:n < H.length) (hl:H.length<=B.length):ae (di R 0 H B) n=ae H n:=by
 rw [lN _ _ _ _ _ hl,if_pos hn,abJ,h]
 cases ae H n<;>simp
theorem Se {α:Type} (l:List α) {n m:Nat} (x y:α) (h:n≠m):cV (cV l n x) m y=cV (cV l m y) n x:=by
 simp only [lset_eq];exact List.set_comm _ _ h
theorem Mr {a b:qC} (h:ek a b=true):ek b a=true:=by
 cases a<;>cases b<;>simp_all [ek]<;>exact(bE _ _).2 (Ne.symm ((bE _ _).1 h))
structure acO (N:dV AV) (o:Op) (nm:Nat) (ev:Operand->Option SV) (H:Hp AV):Prop where
 cl:∀x∈o.operands,∀v,ev x=some v->fh H v
 yD:(D2 o=true)->nm < H.length
theorem Pk (H:Hp AV) (u:Option (Nat×aG AV)):(gf H u).length=H.length:=by
 cases u with
 | none=>rfl
 | some p=>simp [gf,ec]
theorem OJ {cP:Callee AV} {W:Bool} {nm:Nat} {o:Op} {ev:Operand->Option SV} {H H0 H':Hp AV} {v:SV} {en:qC} (hf:acO N o nm ev H0) (h:AZ N cP W nm o ev H=some (v,H',en)) (n:Nat) (hn:en=.rd n \/ en=.wr n):n < H0.length:=by
 unfold AZ at h
 cases W with
 | false =>
   simp only [aaC,aaF] at h
   obtain⟨_,_,rfl⟩:=h
   rcases hn with hn | hn<;>cases hn
 | true =>
   simp only at h
   have xI:∃H3,ga N nm ev H H3 o=en:=by
    split at h
    ·obtain⟨r,_,he⟩:=abu.1 h;cases he;exact⟨_,rfl⟩
    ·cases h
    ·obtain⟨r,_,he⟩:=abu.1 h;cases he;exact⟨_,rfl⟩
   obtain⟨H3,xI⟩:=xI
   rw [<- xI] at hn
   unfold ga at hn
   split at hn
   ·rcases hn with hn | hn<;>cases hn
   ·rcases hn with hn | hn<;>cases hn
   ·have K2:∀x∈o.operands,∀c m,ev x=some (.v (.c c))->c.name=some m->m < H0.length:=by
     intro x hx c m dy hm
     obtain⟨y,hy⟩:=hf.cl x hx _ dy c (by simp [V1.cells]) m hm
     exact bQ hy
    rename_i F8
    clear h xI F8
    cases o<;>simp only [] at hn<;>(try (rcases hn with hn | hn<;>cases hn;done))
    case alloc t =>
     rcases hn with hn | hn<;>cases hn
     exact hf.yD rfl
    case box t x =>
     rcases hn with hn | hn<;>cases hn
     exact hf.yD rfl
    case makeSlice t x y =>
     rcases hn with hn | hn<;>cases hn
     exact hf.yD rfl
    case buildSlice t len parts =>
     rcases hn with hn | hn<;>cases hn
     exact hf.yD rfl
    case slice t x lo hi mx =>
     split at hn
     ·rename_i p hp
      obtain⟨rfl,_,hx,_⟩:=DD hp
      rcases hn with hn | hn<;>cases hn
      exact K2 x (by simp [Op.operands]) _ _ hx rfl
     ·rcases hn with hn | hn<;>cases hn
    case load t x =>
     split at hn
     ·rename_i m off hx
      rcases hn with hn | hn<;>cases hn
      exact K2 x (by simp [Op.operands]) _ _ hx rfl
     ·rename_i hx
      rcases hn with hn | hn<;>cases hn
      exact K2 x (by simp [Op.operands]) _ _ hx rfl
     ·rcases hn with hn | hn<;>cases hn
    case store t x y =>
     split at hn
     ·rename_i m off hx
      rcases hn with hn | hn<;>cases hn
      exact K2 x (by simp [Op.operands]) _ _ hx rfl
     ·rename_i hx
      rcases hn with hn | hn<;>cases hn
      exact K2 x (by simp [Op.operands]) _ _ hx rfl
     ·rcases hn with hn | hn<;>cases hn
theorem Dr {R:List Nat} {n:Nat} (h:(!hZ R n)=true):hZ R n=false:=by
 cases hs:hZ R n<;>simp_all
theorem X8 {cP:Callee AV} {Wi Wj:Bool} {ni nj:Nat} {oi oj:Op} {evi evj:Operand->Option SV} {H Hi Hij:Hp AV} {vi vj:SV} {ei ej:qC}
 (fi:acO N oi ni evi H) (fj:acO N oj nj evj H)
 (h1:AZ N cP Wi ni oi evi H=some (vi,Hi,ei)) (h2:AZ N cP Wj nj oj evj Hi=some (vj,Hij,ej)) (hc:ek ei ej=true) :
 ∃Hj,AZ N cP Wj nj oj evj H=some (vj,Hj,ej) /\ AZ N cP Wi ni oi evi Hj=some (vi,Hij,ei):=by
 cases hi:xG ei with
 | false =>
   obtain⟨ui,rfl,hui,_,ki⟩:=rT h1 hi
   have aqj:(gf H ui).length=H.length:=Pk H ui
   cases hj:xG ej with
   | false =>
     obtain⟨uj,rfl,huj,_,kj⟩:=rT h2 hj
     have Wk:=OJ fj h2
     have e1:AZ N cP Wj nj oj evj H=some (vj,gf H uj,ej):=by
      refine kj H (fun n hn=>?_) (fun hm=>fj.yD hm)
      rcases hui with rfl | ⟨m,c,rfl,qM,du⟩
      ·rfl
      ·have dA:m≠n:=by
        intro e
        subst e
        subst qM
        rcases hn with rfl | rfl<;>simp [ek,agu] at hc
       simp only [gf]
       rw [bp _ dA]
     refine⟨_,e1,?_⟩
     have e2:AZ N cP Wi ni oi evi (gf H uj)=some (vi,gf (gf H uj) ui,ei):=by
      refine ki _ (fun n hn=>?_) (fun hm=>by rw [Pk];exact fi.yD hm)
      rcases huj with rfl | ⟨m,c,rfl,qM,du⟩
      ·rfl
      ·have dA:m≠n:=by
        intro e
        subst e
        subst qM
        rcases hn with rfl | rfl<;>simp [ek,agu] at hc
       simp only [gf]
       rw [bp _ dA]
     rw [e2]
     congr 3
     rcases hui with rfl | ⟨m,c,rfl,qM,du⟩
     ·rfl
     ·rcases huj with rfl | ⟨m',c',rfl,aqs,SD⟩
      ·rfl
      ·subst qM aqs
       have dA:m≠m':=by
        intro e;subst e;simp [ek,agu] at hc
       simp only [gf]
       exact(Se H _ _ dA).symm
   | true =>
     cases ej with
     | pure=>cases hj
     | rd _=>cases hj
     | wr _=>cases hj
     | call R U =>
       obtain⟨l,B,hR,hlen,rfl,_,hU,kj⟩:=zn h2
       rw [aqj] at hlen
       have ak5:=OJ fi h1
       have FH:∀n,ei=.wr n->hZ R n=false:=by
        intro n hn
        subst hn
        exact Dr hc
       have hkp:∀n,(ei=.rd n \/ ei=.wr n)->ae (di R 0 H B) n=ae H n:=by
        intro n hn
        cases hs:hZ R n with
        | false=>exact D1 hs (ak5 n hn) hlen
        | true =>
          rcases hn with rfl | rfl
          ·rcases hui with rfl | ⟨m,c,rfl,qM,du⟩
           ·refine hU n ?_
            simpa [ek,hs] using hc
           ·cases qM
          ·rw [FH n rfl] at hs;cases hs
       have e1:AZ N cP Wj nj oj evj H=some (vj,di R 0 H B,.call R U):=by
        rcases hui with rfl | ⟨m,c,rfl,qM,du⟩
        ·exact kj H hR.symm rfl
        ·have hm:=FH m qM
         refine kj H ?_ ?_
         ·rw [hR] at hm ⊢
          refine jL (m:=m) (fun n hn=>?_) _ _ _ (Lc hm)
          simp only [gf];rw [bp _ (Ne.symm hn)]
         ·simp only [gf];exact(Av hm _ H 0 m (by omega)).symm
       refine⟨_,e1,?_⟩
       have e2:AZ N cP Wi ni oi evi (di R 0 H B)=some (vi,gf (di R 0 H B) ui,ei):=by
        refine ki _ (fun n hn=>hkp n hn) (fun hm=>?_)
        rw [pr _ _ _ _ hlen]
        exact Nat.lt_of_lt_of_le (fi.yD hm) hlen
       rw [e2]
       congr 3
       rcases hui with rfl | ⟨m,c,rfl,qM,du⟩
       ·rfl
       ·simp only [gf]
        exact(xz (FH m qM) c H B 0 m (by omega) du hlen).symm
 | true =>
   cases ei with
   | pure=>cases hi
   | rd _=>cases hi
   | wr _=>cases hi
   | call R U =>
     obtain⟨l,B,hR,hlen,rfl,_,hU,ki⟩:=zn h1
     cases hj:xG ej with
     | true =>
       cases ej with
       | call R' U'=>simp [ek] at hc
       | pure=>cases hj
       | rd _=>cases hj
       | wr _=>cases hj
     | false =>
       obtain⟨uj,rfl,huj,_,kj⟩:=rT h2 hj
       have Wk:=OJ fj h2
       have FH:∀n,ej=.wr n->hZ R n=false:=by
        intro n hn
        subst hn
        exact Dr hc
       have hkp:∀n,(ej=.rd n \/ ej=.wr n)->ae H n=ae (di R 0 H B) n:=by
        intro n hn
        cases hs:hZ R n with
        | false=>exact(D1 hs (Wk n hn) hlen).symm
        | true =>
          rcases hn with rfl | rfl
          ·refine(hU n ?_).symm
           simpa [ek,hs] using hc
          ·rw [FH n rfl] at hs;cases hs
       have e1:AZ N cP Wj nj oj evj H=some (vj,gf H uj,ej) :=
        kj H (fun n hn=>hkp n hn) (fun hm=>fj.yD hm)
       refine⟨_,e1,?_⟩
       have e2:AZ N cP Wi ni oi evi (gf H uj)=some (vi,di R 0 (gf H uj) B,.call R U):=by
        rcases huj with rfl | ⟨m,c,rfl,qM,du⟩
        ·exact ki H hR.symm rfl
        ·have hm:=FH m qM
         refine ki _ ?_ ?_
         ·rw [hR] at hm ⊢
          refine jL (m:=m) (fun n hn=>?_) _ _ _ (Lc hm)
          simp only [gf];rw [bp _ (Ne.symm hn)]
         ·simp only [gf];exact Av hm _ H 0 m (by omega)
       rw [e2]
       congr 3
       rcases huj with rfl | ⟨m,c,rfl,qM,du⟩
       ·rfl
       ·simp only [gf]
        exact xz (FH m qM) c H B 0 m (by omega) (Wk m (.inr qM)) hlen
