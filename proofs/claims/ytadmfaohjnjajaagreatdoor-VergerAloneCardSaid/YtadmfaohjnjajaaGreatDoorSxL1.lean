import Derived.Test.YtadmfaohjnjajaaGreatDoorSxI
set_option linter.unusedVariables false
set_option linter.unusedSimpArgs false
set_option maxHeartbeats 0
set_option maxRecDepth 100000
namespace Go.Sx
section
variable {AV:Type} {N:eI AV}
noncomputable def BE (N:eI AV) (cX:Callee AV) (W:Bool) (nm:Nat) (o:Op) (ev:Operand->Option SV) (H:Hp AV):Option (SV×Hp AV×rD) :=
 match W with
 | false=>some (ee,H,.pure)
 | true=>match rB N ev o with
   | some (some (g,l))=>(xV cX (yB N g) g l H).val.map fun r=>(r.1,r.2,gy N nm ev H r.2 o)
   | some none=>none
   | none=>(lL N nm ev H o).val.map fun r=>(r.1,gD H r.2,gy N nm ev H (gD H r.2) o)
theorem pR {cX:Callee AV} {base:Nat} {all:List Oper} {i:Nat} {o:Oper} {s:St AV} :
 (nB N cX base all i o s).val=(iO all o s.E).bind fun p=>(BE N cX p.1 (o8 all base i) o.op (rP N.G s.H s.E) s.H).map fun r=>({E:=kI s.E o.dst r.1,H:=r.2.1},r.2.2):=by
 rw [wI];unfold AN BE nG;cases iO all o s.E with
 | none=>rfl
 | some p =>
   obtain⟨b,k⟩:=p;simp only [Option.bind_some];cases b with
   | false=>simp
   | true =>
     simp only [if_true];split
     ·rename_i g l h;simp only [h];rw [T.oC];cases (xV cX (yB N g) g l s.H).val with
      | none=>rfl
      | some r=>rfl
     ·rename_i h;simp [h,T.val]
     ·rename_i h;simp only [h];rw [T.oC];cases (lL N (o8 all base i) (rP N.G s.H s.E) s.H o.op).val with
      | none=>rfl
      | some r=>rfl
theorem FN {ev tY:Operand->Option SV}:∀l:List (Nat×Operand),(∀p∈l,ev p.2=tY p.2)->zY ev l=zY tY l
 | [],_=>rfl
 | (i,x)::l,hl=>by simp only [zY];rw [hl (i,x) (by simp),FN l (fun q hq=>hl q (by simp [hq]))]
theorem zJ {nm:Nat} {H:Hp AV} {gb:Option Arr} {r:SV×Option (Nat×aK AV)} (h:(oN N nm H gb).val=some r):af H nm=none /\ nm < H.length /\ (∃c,r.2=some (nm,c)) /\
 ∀H2:Hp AV,af H2 nm=none->nm < H2.length->(oN N nm H2 gb).val=some r:=by
 unfold oN at h;split at h
 ·split at h
  ·rename_i h2 h3 h4;cases h;refine⟨h2,(fT _ _).1 h3,⟨_,rfl⟩,fun H2 e2 hl=>?_⟩;have e3:=(fT _ _).2 hl;simp only [oN,e2,e3,h4,T.val]
  ·cases h
 ·cases h
theorem MU {nm:Nat} {H:Hp AV} {gb:Option Arr} {z:Option (Bool×AV×Nat×Nat)} {r:SV×Option (Nat×aK AV)} (h:(zH N nm H gb z).val=some r):af H nm=none /\ nm < H.length /\ (∃c,r.2=some (nm,c)) /\
 ∀H2:Hp AV,af H2 nm=none->nm < H2.length->(zH N nm H2 gb z).val=some r:=by
 unfold zH at h ⊢;split at h
 ·obtain⟨h1,h2,h3,h4⟩:=zJ h;exact⟨h1,h2,h3,h4⟩
 ·unfold vu at h;split at h
  ·split at h
   ·rename_i h2 h3 h4;have hb:=h;obtain⟨rfl,h⟩:=fZ h;cases h;refine⟨h2,(fT _ _).1 h3,⟨_,rfl⟩,fun H2 e2 hl=>?_⟩;have e3:=(fT _ _).2 hl;simp only [vu,e2,e3,h4,T.val]
   ·cases h
  ·cases h
theorem qo {ev tY:Operand->Option SV}:∀(l:List Operand),(∀x∈l,ev x=tY x)->Hb ev l=Hb tY l
 | [],_=>rfl
 | x::r,h=>by simp only [Hb];rw [h x (by simp),qo r (fun y hy=>h y (by simp [hy]))]
theorem Ho {ev tY:Operand->Option SV} (o:Op) (h:∀x∈o.operands,ev x=tY x):txO ev o=txO tY o:=by
 cases o<;>try rfl
 rename_i t x lo hi mx;cases mx with
 | some _=>rfl
 | none=>simp only [txO];rw [h x (by simp [Op.operands])]
theorem JZ {ev tY:Operand->Option SV} (o:Op) (h:∀x∈o.operands,ev x=tY x):u6 N ev o=u6 N tY o:=by
 cases o<;>simp only [u6]<;>simp only [Op.operands] at h;case move x=>rw [h x (by simp)]
 case assign x=>rw [h x (by simp)]
 case pick c a b=>rw [h c (by simp),h a (by simp),h b (by simp)]
 case build t ps =>
  have:∀l:List (Nat×Operand),(∀p∈l,ev p.2=tY p.2)->zY ev l=zY tY l:=by
   intro l;induction l with
   | nil=>intro _;rfl
   | cons p l ih =>intro hl;obtain⟨i,x⟩:=p;simp only [zY];rw [hl (i,x) (by simp),ih (fun q hq=>hl q (by simp [hq]))]
  rw [this ps.toList (fun p hp=>h p.2 (by simp;exact⟨p.1,afF.1 hp⟩))]
 case nilCheck x=>rw [h x (by simp)]
 case fieldAddr t x i=>rw [h x (by simp)]
 case field t x i=>rw [h x (by simp)]
 case binOp op t x y t'=>rw [h x (by simp),h y (by simp)]
 case unOp op t x=>cases op<;>simp only []<;>rw [h x (by simp)]
 case slice t x lo hi mx =>
  have e1:txO ev (.slice t x lo hi mx)=txO tY (.slice t x lo hi mx):=Ho _ (by simpa [Op.operands] using h);rw [e1];split
  ·unfold ajS;rw [h x (by simp)];have b1:∀d,CW ev d lo=CW tY d lo:=fun d=>by
    cases lo with
    | none=>rfl
    | some y=>simp only [CW];rw [h y (by simp)]
   have b2:∀d,CW ev d hi=CW tY d hi:=fun d=>by
    cases hi with
    | none=>rfl
    | some y=>simp only [CW];rw [h y (by simp)]
   simp only [b1,b2]
  ·rfl
 case extract x i=>rw [h x (by simp)]
 case makeFunc fn first captured=>rw [qo captured.toList (fun x hx=>h x (by simp only [Array.mem_append];exact .inr (afF.1 hx)))]
 case makeInterface t x=>rw [h x (by simp)]
 case indexAddr t x i=>rw [h x (by simp),h i (by simp)]
 case index t x i=>rw [h x (by simp),h i (by simp)]
 case convert a b x=>rw [h x (by simp)]
 case call c =>
  split
  ·split
   ·rename_i x t hx ht;rw [h x (by simp only [Call.operands,Array.mem_append];exact .inr (by rw [<- afF,hx];simp))]
   ·rfl
  ·rfl
theorem u9 {ev tY:Operand->Option SV} (o:Op) (h:∀x∈o.operands,ev x=tY x):Ce ev o=Ce tY o:=by
 cases o<;>try rfl
 rename_i t x lo hi mx;have hx:ev x=tY x:=h x (by simp [Op.operands]);have hb:∀(y:Option Operand) (d:Nat),(∀z,y=some z->ev z=tY z)->CX ev d y=CX tY d y:=fun y d hy=>by
  cases y with
  | none=>rfl
  | some z=>simp only [CX];rw [hy z rfl]
 simp only [Ce];rw [hx];split
 ·rfl
 ·split
  ·rw [hb lo 0 (fun z hz=>h z (by simp [Op.operands,hz])),hb hi _ (fun z hz=>h z (by simp [Op.operands,hz]))]
  ·rfl
theorem Ku {ev tY:Operand->Option SV} (o:Op) (h:∀x∈o.operands,ev x=tY x):FC ev o=FC tY o:=by
 unfold FC;split
 ·rw [u9 o h,Ho o h]
 ·rename_i hh;clear hh;cases o<;>simp only [];case convert a b x=>simp only [Op.operands] at h;rw [h x (by simp)]
  case call c =>
   simp only [Op.operands,Call.operands] at h;split
   ·split
    ·rename_i x hx;rw [h x (by simp only [Array.mem_append];exact .inr (by rw [<- afF,hx];simp))]
    ·rfl
   ·rfl
theorem Ag {ev tY:Operand->Option SV} (o:Op) (h:∀x∈o.operands,ev x=tY x):rB N ev o=rB N tY o:=by
 unfold rB;rw [Ku o h];split
 ·rw [qo o.operands.toList (fun x hx=>h x (afF.1 hx))]
 ·rename_i hh;clear hh;cases o<;>simp only [];case call c =>
   simp only [Op.operands,Call.operands] at h;split
   ·rename_i f hf;rw [h f (by rw [hf];simp),qo c.args.toList (fun x hx=>h x (by simp only [Array.mem_append];exact .inr (afF.1 hx)))]
   ·rename_i f m hf;rw [h f (by rw [hf];simp),qo c.args.toList (fun x hx=>h x (by simp only [Array.mem_append];exact .inr (afF.1 hx)))]
   ·rfl
theorem MT {ev tY:Operand->Option SV} (nm:Nat) (H:Hp AV) (o:Op) (h:∀x∈o.operands,ev x=tY x):lL N nm ev H o=lL N nm tY H o:=by
 unfold lL;rw [JZ o h];split
 ·rfl
 ·rename_i GQ;clear GQ;have OA:=u9 o h;cases o<;>simp only []<;>simp only [Op.operands] at h;case slice t x lo hi mx=>rw [OA]
  case box t x=>rw [h x (by simp)]
  case load t x=>rw [h x (by simp)]
  case store t x y=>rw [h x (by simp),h y (by simp)]
  case makeSlice t x y=>rw [h x (by simp),h y (by simp)]
  case buildSlice t len parts=>rw [FN parts.toList (fun p hp=>h p.2 (by simp;exact⟨p.1,afF.1 hp⟩))]
theorem UD {ev tY:Operand->Option SV} (nm:Nat) (H H':Hp AV) (o:Op) (h:∀x∈o.operands,ev x=tY x):gy N nm ev H H' o=gy N nm tY H H' o:=by
 unfold gy;rw [Ag o h];split
 ·rfl
 ·rfl
 ·rename_i GQ;clear GQ;have OA:=u9 o h;cases o<;>simp only []<;>simp only [Op.operands] at h;case slice t x lo hi mx=>rw [OA]
  case load t x=>rw [h x (by simp)]
  case store t x y=>rw [h x (by simp)]
theorem I2 {cX:Callee AV} {W:Bool} {nm:Nat} {o:Op} {ev tY:Operand->Option SV} {H:Hp AV} (h:∀x∈o.operands,ev x=tY x):BE N cX W nm o ev H=BE N cX W nm o tY H:=by unfold BE;rw [Ag o h,MT nm H o h];simp only [UD nm H _ o h]
def yu:rD->Bool
 | .call _ _=>true
 | _=>false
theorem sV {cX:Callee AV} {W:Bool} {nm:Nat} {o:Op} {ev:Operand->Option SV} {H H':Hp AV} {v:SV} {en:rD} (h:BE N cX W nm o ev H=some (v,H',en)) (hn:yu en=false) :
 ∃u,H'=gD H u /\ (u=none \/ ∃n c,u=some (n,c) /\ en=.wr n /\ n < H.length) /\
   (∀n,en=.wr n->n < H.length /\ (E7 o=true) /\ n=nm \/ ∃c,af H n=some c) /\
   ∀H2:Hp AV,(∀n,(en=.rd n \/ en=.wr n)->af H2 n=af H n)->((E7 o=true)->nm < H2.length)->BE N cX W nm o ev H2=some (v,gD H2 u,en):=by
 unfold BE at h;cases W with
 | false =>cases h;exact⟨none,rfl,.inl rfl,(fun n h=>by cases h),fun H2 _ _=>rfl⟩
 | true =>
   simp only at h;split at h
   ·rename_i g l hc;obtain⟨r,_,hr⟩:=aaT.1 h;cases hr;simp [gy,hc,yu] at hn
   ·cases h
   ·rename_i hc;obtain⟨⟨v',u⟩,hl,hr⟩:=aaT.1 h;simp only [aaB] at hr;obtain⟨rfl,rfl,yy⟩:=hr;have Kt:∀H2 H3:Hp AV,gy N nm ev H2 H3 o=en:=fun H2 H3=>by rw [<- yy];simp only [gy,hc]
    have done:∀H2:Hp AV,(lL N nm ev H2 o).val=some (v',u)->BE N cX true nm o ev H2=some (v',gD H2 u,en):=fun H2 h2=>by unfold BE;simp only [hc,h2,Option.map_some,Kt H2]
    refine⟨u,rfl,?_⟩;unfold lL at hl;split at hl
    ·-- looks at no memory
     rename_i t ht;rw [T.gg] at hl;obtain⟨v0,hv0,he⟩:=aaT.1 hl;cases he;have vD:∀n,en≠.wr n:=by
      intro n hw;rw [<- yy] at hw;simp only [gy,hc] at hw;cases o<;>simp [u6] at ht hw;all_goals (split at hw<;>cases hw)
     refine⟨.inl rfl,(fun n h=>absurd h (vD n)),fun H2 _ _=>done H2 ?_⟩;unfold lL;simp only [ht,T.gg,hv0,Option.map_some]
    ·rename_i GQ;split at hl
     ·-- alloc
      rename_i t;split at hl
      ·rename_i kd sz z fl h1 h2 h3 h4;cases hl;have rM:en=.wr nm:=by rw [<- yy];simp only [gy,hc]
       have hlt:=(fT _ _).1 h3;refine⟨.inr ⟨_,_,rfl,rM,hlt⟩,(fun n h=>.inl ?_),fun H2 La hlen=>done H2 ?_⟩
       ·rw [rM] at h;cases h;exact⟨hlt,rfl,rfl⟩
       ·have e2:=La nm (.inr rM);rw [h2] at e2;have e3:=(fT _ _).2 (hlen rfl);unfold lL;simp only [GQ,h1,e2,e3,h4,T.val]
      ·cases hl
     ·-- box
      rename_i t x;split at hl
      ·rename_i b h1 h2 h3 h4;cases hl;have rM:en=.wr nm:=by rw [<- yy];simp only [gy,hc]
       have hlt:=(fT _ _).1 h3;refine⟨.inr ⟨_,_,rfl,rM,hlt⟩,(fun n h=>.inl ?_),fun H2 La hlen=>done H2 ?_⟩
       ·rw [rM] at h;cases h;exact⟨hlt,rfl,rfl⟩
       ·have e2:=La nm (.inr rM);rw [h2] at e2;have e3:=(fT _ _).2 (hlen rfl);unfold lL;simp only [GQ,h1,e2,e3,h4,T.val]
      ·cases hl
     ·-- load
      rename_i t x;split at hl
      ·rename_i p hp;rw [T.gg] at hl;obtain⟨v0,hv0,he⟩:=aaT.1 hl;cases he;have vD:∀n,en≠.wr n:=by intro n hw;rw [<- yy] at hw;simp only [gy,hc,hp] at hw;split at hw<;>cases hw
       refine⟨.inl rfl,(fun n h=>absurd h (vD n)),fun H2 La _=>done H2 ?_⟩;have e2:Fg N t H2 p=Fg N t H p:=by
        unfold Fg;split
        ·rename_i n off;have:en=.rd n:=by rw [<- yy];simp only [gy,hc,hp]
         rw [La n (.inl this)]
        ·rename_i n idx es off;have:en=.rd n:=by rw [<- yy];simp only [gy,hc,hp]
         rw [La n (.inl this)]
        ·rfl
       unfold lL;simp only [GQ,hp,T.gg,e2,hv0,Option.map_some]
      ·cases hl
     ·-- store
      rename_i t x y;split at hl
      ·rename_i n off b hx hy;split at hl
       ·rename_i l ty i h3 h4;split at hl
        ·rename_i h5;split at hl
         ·rename_i l' h6;cases hl;have rM:en=.wr n:=by rw [<- yy];simp only [gy,hc,hx]
          refine⟨.inr ⟨_,_,rfl,rM,b7 h3⟩,(fun m h=>.inr ?_),fun H2 La _=>done H2 ?_⟩
          ·rw [rM] at h;cases h;exact⟨_,h3⟩
          ·have e2:=La n (.inr rM);rw [h3] at e2;unfold lL;simp only [GQ,hx,hy,e2,h4,h5,h6,T.val]
         ·cases hl
        ·cases hl
       ·cases hl
      ·rename_i n idx es off b hx hy;have rM:en=.wr n:=by rw [<- yy];simp only [gy,hc,hx]
       split at hl
       ·rename_i l ve ty i h3 h4;split at hl
        ·rename_i h5;split at hl
         ·cases hl
         rename_i h50;split at hl
         ·rename_i l' h6;cases hl;refine⟨.inr ⟨_,_,rfl,rM,b7 h3⟩,(fun m h=>.inr ?_),fun H2 La _=>done H2 ?_⟩
          ·rw [rM] at h;cases h;exact⟨_,h3⟩
          ·have e2:=La n (.inr rM);rw [h3] at e2;unfold lL;simp only [GQ,hx,hy,e2,h4,h5,h50,h6,T.val]
         ·cases hl
        ·cases hl
       ·rename_i a i h3 h4;split at hl
        ·rename_i h5;split at hl
         ·rename_i bb a' h6;obtain⟨rfl,hl⟩:=fZ hl;cases hl;refine⟨.inr ⟨_,_,rfl,rM,b7 h3⟩,(fun m h=>.inr ?_),fun H2 La _=>done H2 ?_⟩
          ·rw [rM] at h;cases h;exact⟨_,h3⟩
          ·have e2:=La n (.inr rM);rw [h3] at e2;unfold lL;simp only [GQ,hx,hy,e2,h4,h5,h6,T.val]
         ·cases hl
        ·cases hl
       ·cases hl
      ·cases hl
     ·-- make
      rename_i t x y;obtain⟨h2,hlt,⟨c,hu⟩,CT⟩:=MU hl;simp only at hu;subst hu;have rM:en=.wr nm:=by rw [<- yy];simp only [gy,hc]
      refine⟨.inr ⟨_,_,rfl,rM,hlt⟩,(fun n h=>.inl ?_),fun H2 La hlen=>done H2 ?_⟩
      ·rw [rM] at h;cases h;exact⟨hlt,rfl,rfl⟩
      ·have e2:=La nm (.inr rM);rw [h2] at e2;unfold lL;simp only [GQ];exact CT H2 e2 (hlen rfl)
     ·-- the aac of a slice
      rename_i t len parts;obtain⟨h2,hlt,⟨c,hu⟩,CT⟩:=zJ hl;simp only at hu;subst hu;have rM:en=.wr nm:=by rw [<- yy];simp only [gy,hc]
      refine⟨.inr ⟨_,_,rfl,rM,hlt⟩,(fun n h=>.inl ?_),fun H2 La hlen=>done H2 ?_⟩
      ·rw [rM] at h;cases h;exact⟨hlt,rfl,rfl⟩
      ·have e2:=La nm (.inr rM);rw [h2] at e2;unfold lL;simp only [GQ];exact CT H2 e2 (hlen rfl)
     ·-- a part of a slice
      rename_i t x lo hi mx;split at hl
      ·rename_i p hp;obtain⟨he,si,Kg,ty,hs,hn,Vj,hfit⟩:=zG hl;simp only [aaB] at he;obtain⟨rfl,rfl⟩:=he;have hrd:en=.rd p.n:=by rw [<- yy];simp only [gy,hc,hp]
       refine⟨.inl rfl,(fun n h=>by rw [hrd] at h;cases h),fun H2 La _=>done H2 ?_⟩;have e2:=La p.n (.inl hrd);unfold lL;simp only [GQ,hp];unfold Ds at hl ⊢;rw [e2];exact hl
      ·cases hl
     ·cases hl
theorem Ua {R:List Nat} {H K:Hp AV} {n:Nat} (h:(Fs N R H K n).ok=true):af H n=af K n:=by
 unfold Fs at h;split at h
 ·unfold afJ at h;split at h
  ·rename_i a b e1 e2;split at h
   ·rename_i hs;rw [e1,e2,N.F.tq a b hs]
   ·cases h
  ·rename_i l t l' t' e1 e2;have h:nJ l t l' t'=true:=h;unfold nJ at h;obtain⟨rfl,rfl⟩:=@aaF _ (Classical.propDecidable _) h;rw [e1,e2]
  ·cases h
 ·cases h
theorem Ub {R:List Nat} {H H2 B:Hp AV} (hl:H.length<=B.length) (h:jT R 0 H2=jT R 0 H):Fs N R H2 (dr R 0 H2 B)=Fs N R H (dr R 0 H B):=by
 have hlen:H2.length=H.length:=by have h1:=congrArg List.length h;rw [qf,qf] at h1;exact h1
 funext n;unfold Fs;cases hs:iH R n with
 | false=>rfl
 | true =>
   have e:af H2 n=af H n:=by
    have h1:af (jT R 0 H2) n=af H2 n:=by rw [sR,aby,if_pos hs]
    have h2:af (jT R 0 H) n=af H n:=by rw [sR,aby,if_pos hs]
    rw [<- h1,<- h2,h]
   simp only;rw [mc _ _ _ _ _ hl,mc _ _ _ _ _ (by omega),hlen,e]
theorem Aa {cX:Callee AV} {W:Bool} {nm:Nat} {o:Op} {ev:Operand->Option SV} {H H':Hp AV} {v:SV} {R:List Nat} {U:Nat->SR} (h:BE N cX W nm o ev H=some (v,H',.call R U)) :
 ∃(nl:List Nat) (B:Hp AV),R=kS H 400 nl [] /\ H.length<=B.length /\ H'=dr R 0 H B /\ (∀n,n < H.length->(af H' n).isSome=(af H n).isSome) /\ (∀n,(U n).ok=true->af H' n=af H n) /\
   ∀H2:Hp AV,kS H2 400 nl []=R->jT R 0 H2=jT R 0 H->BE N cX W nm o ev H2=some (v,dr R 0 H2 B,.call R U):=by
 unfold BE at h;cases W with
 | false=>simp at h
 | true =>
   simp only at h;split at h
   ·rename_i g l hc;obtain⟨⟨v',K⟩,hr,he⟩:=aaT.1 h;simp only [aaB] at he;obtain⟨rfl,rfl,yy⟩:=he;have hR:kS H 400 (iP l++yB N g) []=R:=by simp only [gy,hc,rD.call.injEq] at yy;exact yy.1
    have hU:Fs N R H K=U:=by simp only [gy,hc,rD.call.injEq] at yy;rw [<- hR];exact yy.2
    have hr0:=hr;unfold xV at hr;rw [hR] at hr;simp only at hr;split at hr
    ·cases hr
    ·rename_i bZ;split at hr
     ·cases hr
     ·rename_i IB;obtain⟨⟨v0,B⟩,hb,hr⟩:=T.bq hr;simp only at hr;split at hr
      ·cases hr
      ·rename_i uu;simp only [T.val,aaf,aaB] at hr;obtain⟨rfl,rfl⟩:=hr;have hlen:=(pS uu).1;rw [qf] at hlen;refine⟨_,B,hR.symm,hlen,rfl,fun n hn=>?_,fun n hn=>?_,fun H2 h2 h3=>?_⟩
       ·rw [mc _ _ _ _ _ hlen,if_pos hn,aby];cases hx:af H n with
        | none=>rfl
        | some x =>
          simp only;split
          ·rename_i hs;obtain⟨c',oU⟩:=(pS uu).2.1 n x (by rw [sR,aby,if_pos hs];exact hx);rw [oU];rfl
          ·rfl
       ·rw [<- hU] at hn;exact(Ua hn).symm
       unfold BE;simp only [hc];have:(xV cX (yB N g) g l H2).val=some (v0,dr R 0 H2 B):=by unfold xV;rw [h2,h3];simp only [bZ,IB,T.oC,hb,Option.bind_some,uu,T.val]
       rw [this];simp only [Option.map_some,gy,hc,h2];rw [<- hU,Ub hlen h3]
   ·cases h
   ·rename_i hc;obtain⟨r,_,he⟩:=aaT.1 h;simp only [aaB] at he;obtain⟨_,_,yy⟩:=he;simp only [gy,hc] at yy;cases o<;>simp at yy;all_goals (split at yy<;>cases yy)
theorem Sq {cX:Callee AV} {W:Bool} {nm:Nat} {o:Op} {ev:Operand->Option SV} {H H':Hp AV} {v:SV} {en:rD} (h:BE N cX W nm o ev H=some (v,H',en)) (uv:N.G<=nm) (hH:N.G<=H.length) (g:Nat) (hg:g < N.G) :
 (af H' g).isSome=(af H g).isSome:=by
 cases hi:yu en with
 | false =>
   obtain⟨u,rfl,hu,hw,_⟩:=sV h hi;rcases hu with rfl | ⟨n,c,rfl,yy,hlt⟩
   ·rfl
   ·by_cases e:n=g
    ·subst e;simp only [gD];rw [cG _ hlt];rcases hw n yy with⟨_,_,rfl⟩ | ⟨c',oU⟩
     ·omega
     ·rw [oU];rfl
    ·simp only [gD];rw [bz _ e]
 | true =>
   cases en with
   | pure=>cases hi
   | rd _=>cases hi
   | wr _=>cases hi
   | call R U =>obtain⟨_,_,_,_,_,k,_⟩:=Aa h;exact k g (by omega)
end
section
variable {AV:Type} {N:eI AV}
theorem gP:∀(l:List Nat) (n:Nat),nS l n=true↔n∈l
 | [],n=>by simp [nS]
 | x::r,n=>by
   simp only [nS];split
   ·rename_i h;simp [(aG _ _).1 h]
   ·rename_i h;have:=(bT _ _).1 h;rw [gP r n];simp [Ne.symm this]
theorem nL (H:Hp AV):∀(f:Nat) (todo acc:List Nat) (n:Nat),n∈acc->n∈kS H f todo acc
 | 0,_,_,_,h=>by simpa [kS] using h
 | _+1,[],_,_,h=>by simpa [kS] using h
 | f+1,m::r,acc,n,h=>by
   simp only [kS];split
   ·exact nL H f r acc n h
   ·split
    ·exact nL H f _ _ n (aaW _ h)
    ·exact nL H f _ _ n (aaW _ h)
    ·exact nL H f _ _ n (aaW _ h)
theorem j7 {H H2:Hp AV} {m:Nat} (hd:∀n,n≠m->af H2 n=af H n):∀(f:Nat) (todo acc:List Nat),m ∉ kS H f todo acc->kS H2 f todo acc=kS H f todo acc
 | 0,_,_,_=>rfl
 | _+1,[],_,_=>rfl
 | f+1,n::r,acc,h=>by
   simp only [kS] at h ⊢;cases ha:nS acc n with
   | true=>simp only [ha] at h ⊢;exact j7 hd f r acc h
   | false =>
     simp only [ha] at h ⊢;have hn:n≠m:=by
      intro e;subst e;split at h
      ·exact h (nL H f _ _ n (by simp))
      ·exact h (nL H f _ _ n (by simp))
      ·exact h (nL H f _ _ n (by simp))
     rw [hd n hn];cases hl:af H n with
     | none=>simp only [hl] at h ⊢;exact j7 hd f _ _ h
     | some c =>
       cases c with
       | cells l ty=>simp only [hl] at h ⊢;exact j7 hd f _ _ h
       | oB l es ty=>simp only [hl] at h ⊢;exact j7 hd f _ _ h
       | kN=>simp only [hl] at h ⊢;exact j7 hd f _ _ h
       | bN a=>simp only [hl] at h ⊢;exact j7 hd f _ _ h
theorem LV (R:List Nat) (n:Nat):iH R n=(ud R).testBit n:=by
 have e:Nat.land (Nat.shiftRight (ud R) n) 1=(1 &&& ud R >>> n):=Nat.and_comm _ _;unfold iH;rw [e,Nat.testBit];split
 ·rename_i h;rw [h];rfl
 ·rename_i m h;rw [h];rfl
theorem Ge:∀{R:List Nat} {n:Nat},n∈R->(ud R).testBit n=true
 | [],n,h=>by cases h
 | m::r,n,h=>by
   have e:ud (m::r)=(1 <<< m ||| ud r):=rfl;rw [e,Nat.testBit_or];rcases aaO.1 h with rfl | h
   ·simp [Nat.testBit_shiftLeft]
   ·rw [Ge h];simp
theorem Mu {R:List Nat} {n:Nat} (h:iH R n=false):n ∉ R:=by intro hm;rw [LV,Ge hm] at h;cases h
theorem Bj {R:List Nat} {n:Nat} (h:iH R n=false) (x:Option (aK AV)):∀(H:Hp AV) (i k:Nat),i+k=n->jT R i (de H k x)=jT R i H
 | [],_,_,_=>by simp [de]
 | y::r,i,0,e=>by
   simp only [de,jT];have:i=n:=by omega
   rw [this,h]
 | y::r,i,k+1,e=>by simp only [de,jT];rw [Bj h x r (i+1) k (by omega)]
theorem yn {R:List Nat} {n:Nat} (h:iH R n=false) (c:aK AV):∀(H B:Hp AV) (i k:Nat),i+k=n->k < H.length->H.length<=B.length->dr R i (de H k (some c)) B=de (dr R i H B) k (some c)
 | [],_,_,_,_,hk,_=>by simp at hk
 | y::r,[],i,k,_,_,hl=>by simp at hl
 | y::r,b::q,i,0,e,_,_=>by
   have:i=n:=by omega
   cases y<;>simp [de,dr,this,h]
 | y::r,b::q,i,k+1,e,hk,hl=>by have ih:=yn h c r q (i+1) k (by omega) (by simpa using hk) (by simpa using hl);cases y<;>simp [de,dr,ih]
theorem E5 {R:List Nat} {H B:Hp AV} {n:Nat} (h:iH R n=false) (hn:n < H.length) (hl:H.length<=B.length):af (dr R 0 H B) n=af H n:=by rw [mc _ _ _ _ _ hl,if_pos hn,aby,h];cases af H n<;>simp
theorem T6 {α:Type} (l:List α) {n m:Nat} (x y:α) (h:n≠m):de (de l n x) m y=de (de l m y) n x:=by simp only [lset_eq];exact List.set_comm _ _ h
theorem N4 {a b:rD} (h:eE a b=true):eE b a=true:=by cases a<;>cases b<;>simp_all [eE]<;>exact(bT _ _).2 (Ne.symm ((bT _ _).1 h))
structure aeB (N:eI AV) (o:Op) (nm:Nat) (ev:Operand->Option SV) (H:Hp AV):Prop where
 cl:∀x∈o.operands,∀v,ev x=some v->gf H v
 CK:(E7 o=true)->nm < H.length
theorem QP (H:Hp AV) (u:Option (Nat×aK AV)):(gD H u).length=H.length:=by
 cases u with
 | none=>rfl
 | some p=>simp [gD,eB]
theorem Qe {cX:Callee AV} {W:Bool} {nm:Nat} {o:Op} {ev:Operand->Option SV} {H H0 H':Hp AV} {v:SV} {en:rD} (hf:aeB N o nm ev H0) (h:BE N cX W nm o ev H=some (v,H',en)) (n:Nat) (hn:en=.rd n \/ en=.wr n):n < H0.length:=by
 unfold BE at h;cases W with
 | false =>simp only [aaf,aaB] at h;obtain⟨_,_,rfl⟩:=h;rcases hn with hn | hn<;>cases hn
 | true =>
   simp only at h;have yy:∃H3,gy N nm ev H H3 o=en:=by
    split at h
    ·obtain⟨r,_,he⟩:=aaT.1 h;cases he;exact⟨_,rfl⟩
    ·cases h
    ·obtain⟨r,_,he⟩:=aaT.1 h;cases he;exact⟨_,rfl⟩
   obtain⟨H3,yy⟩:=yy;rw [<- yy] at hn;unfold gy at hn;split at hn
   ·rcases hn with hn | hn<;>cases hn
   ·rcases hn with hn | hn<;>cases hn
   ·have Ml:∀x∈o.operands,∀c m,ev x=some (.v (.c c))->c.name=some m->m < H0.length:=by intro x hx c m dD hm;obtain⟨y,hy⟩:=hf.cl x hx _ dD c (by simp [V1.cells]) m hm;exact b7 hy
    rename_i R8;clear h yy R8;cases o<;>simp only [] at hn<;>(try (rcases hn with hn | hn<;>cases hn;done));case alloc t =>rcases hn with hn | hn<;>cases hn;exact hf.CK rfl
    case box t x =>rcases hn with hn | hn<;>cases hn;exact hf.CK rfl
    case makeSlice t x y =>rcases hn with hn | hn<;>cases hn;exact hf.CK rfl
    case buildSlice t len parts =>rcases hn with hn | hn<;>cases hn;exact hf.CK rfl
    case slice t x lo hi mx =>
     split at hn
     ·rename_i p hp;obtain⟨rfl,_,hx,_⟩:=Ey hp;rcases hn with hn | hn<;>cases hn;exact Ml x (by simp [Op.operands]) _ _ hx rfl
     ·rcases hn with hn | hn<;>cases hn
    case load t x =>
     split at hn
     ·rename_i m off hx;rcases hn with hn | hn<;>cases hn;exact Ml x (by simp [Op.operands]) _ _ hx rfl
     ·rename_i hx;rcases hn with hn | hn<;>cases hn;exact Ml x (by simp [Op.operands]) _ _ hx rfl
     ·rcases hn with hn | hn<;>cases hn
    case store t x y =>
     split at hn
     ·rename_i m off hx;rcases hn with hn | hn<;>cases hn;exact Ml x (by simp [Op.operands]) _ _ hx rfl
     ·rename_i hx;rcases hn with hn | hn<;>cases hn;exact Ml x (by simp [Op.operands]) _ _ hx rfl
     ·rcases hn with hn | hn<;>cases hn
theorem Ef {R:List Nat} {n:Nat} (h:(!iH R n)=true):iH R n=false:=by cases hs:iH R n<;>simp_all
theorem ZE {cX:Callee AV} {Wi Wj:Bool} {ni nj:Nat} {oi oj:Op} {evi evj:Operand->Option SV} {H Hi Hij:Hp AV} {vi vj:SV} {ei ej:rD}
 (fi:aeB N oi ni evi H) (fj:aeB N oj nj evj H)
 (h1:BE N cX Wi ni oi evi H=some (vi,Hi,ei)) (h2:BE N cX Wj nj oj evj Hi=some (vj,Hij,ej)) (hc:eE ei ej=true) :
 ∃Hj,BE N cX Wj nj oj evj H=some (vj,Hj,ej) /\ BE N cX Wi ni oi evi Hj=some (vi,Hij,ei):=by
 cases hi:yu ei with
 | false =>
   obtain⟨ui,rfl,hui,_,ki⟩:=sV h1 hi;have asT:(gD H ui).length=H.length:=QP H ui;cases hj:yu ej with
   | false =>
     obtain⟨uj,rfl,huj,_,kj⟩:=sV h2 hj;have X1:=Qe fj h2;have e1:BE N cX Wj nj oj evj H=some (vj,gD H uj,ej):=by
      refine kj H (fun n hn=>?_) (fun hm=>fj.CK hm);rcases hui with rfl | ⟨m,c,rfl,rM,hlt⟩
      ·rfl
      ·have dE:m≠n:=by intro e;subst e;subst rM;rcases hn with rfl | rfl<;>simp [eE,afQ] at hc
       simp only [gD];rw [bz _ dE]
     refine⟨_,e1,?_⟩;have e2:BE N cX Wi ni oi evi (gD H uj)=some (vi,gD (gD H uj) ui,ei):=by
      refine ki _ (fun n hn=>?_) (fun hm=>by rw [QP];exact fi.CK hm);rcases huj with rfl | ⟨m,c,rfl,rM,hlt⟩
      ·rfl
      ·have dE:m≠n:=by intro e;subst e;subst rM;rcases hn with rfl | rfl<;>simp [eE,afQ] at hc
       simp only [gD];rw [bz _ dE]
     rw [e2];congr 3;rcases hui with rfl | ⟨m,c,rfl,rM,hlt⟩
     ·rfl
     ·rcases huj with rfl | ⟨m',c',rfl,as4,Uq⟩
      ·rfl
      ·subst rM as4;have dE:m≠m':=by intro e;subst e;simp [eE,afQ] at hc
       simp only [gD];exact(T6 H _ _ dE).symm
   | true =>
     cases ej with
     | pure=>cases hj
     | rd _=>cases hj
     | wr _=>cases hj
     | call R U =>
       obtain⟨l,B,hR,hlen,rfl,_,hU,kj⟩:=Aa h2;rw [asT] at hlen;have ani:=Qe fi h1;have GR:∀n,ei=.wr n->iH R n=false:=by intro n hn;subst hn;exact Ef hc
       have hkp:∀n,(ei=.rd n \/ ei=.wr n)->af (dr R 0 H B) n=af H n:=by
        intro n hn;cases hs:iH R n with
        | false=>exact E5 hs (ani n hn) hlen
        | true =>
          rcases hn with rfl | rfl
          ·rcases hui with rfl | ⟨m,c,rfl,rM,hlt⟩
           ·refine hU n ?_;simpa [eE,hs] using hc
           ·cases rM
          ·rw [GR n rfl] at hs;cases hs
       have e1:BE N cX Wj nj oj evj H=some (vj,dr R 0 H B,.call R U):=by
        rcases hui with rfl | ⟨m,c,rfl,rM,hlt⟩
        ·exact kj H hR.symm rfl
        ·have hm:=GR m rM;refine kj H ?_ ?_
         ·rw [hR] at hm ⊢;refine j7 (m:=m) (fun n hn=>?_) _ _ _ (Mu hm);simp only [gD];rw [bz _ (Ne.symm hn)]
         ·simp only [gD];exact(Bj hm _ H 0 m (by omega)).symm
       refine⟨_,e1,?_⟩;have e2:BE N cX Wi ni oi evi (dr R 0 H B)=some (vi,gD (dr R 0 H B) ui,ei):=by refine ki _ (fun n hn=>hkp n hn) (fun hm=>?_);rw [pU _ _ _ _ hlen];exact Nat.lt_of_lt_of_le (fi.CK hm) hlen
       rw [e2];congr 3;rcases hui with rfl | ⟨m,c,rfl,rM,hlt⟩
       ·rfl
       ·simp only [gD];exact(yn (GR m rM) c H B 0 m (by omega) hlt hlen).symm
 | true =>
   cases ei with
   | pure=>cases hi
   | rd _=>cases hi
   | wr _=>cases hi
   | call R U =>
     obtain⟨l,B,hR,hlen,rfl,_,hU,ki⟩:=Aa h1;cases hj:yu ej with
     | true =>
       cases ej with
       | call R' U'=>simp [eE] at hc
       | pure=>cases hj
       | rd _=>cases hj
       | wr _=>cases hj
     | false =>
       obtain⟨uj,rfl,huj,_,kj⟩:=sV h2 hj;have X1:=Qe fj h2;have GR:∀n,ej=.wr n->iH R n=false:=by intro n hn;subst hn;exact Ef hc
       have hkp:∀n,(ej=.rd n \/ ej=.wr n)->af H n=af (dr R 0 H B) n:=by
        intro n hn;cases hs:iH R n with
        | false=>exact(E5 hs (X1 n hn) hlen).symm
        | true =>
          rcases hn with rfl | rfl
          ·refine(hU n ?_).symm;simpa [eE,hs] using hc
          ·rw [GR n rfl] at hs;cases hs
       have e1:BE N cX Wj nj oj evj H=some (vj,gD H uj,ej) :=
        kj H (fun n hn=>hkp n hn) (fun hm=>fj.CK hm)
       refine⟨_,e1,?_⟩;have e2:BE N cX Wi ni oi evi (gD H uj)=some (vi,dr R 0 (gD H uj) B,.call R U):=by
        rcases huj with rfl | ⟨m,c,rfl,rM,hlt⟩
        ·exact ki H hR.symm rfl
        ·have hm:=GR m rM;refine ki _ ?_ ?_
         ·rw [hR] at hm ⊢;refine j7 (m:=m) (fun n hn=>?_) _ _ _ (Mu hm);simp only [gD];rw [bz _ (Ne.symm hn)]
         ·simp only [gD];exact Bj hm _ H 0 m (by omega)
       rw [e2];congr 3;rcases huj with rfl | ⟨m,c,rfl,rM,hlt⟩
       ·rfl
       ·simp only [gD];exact yn (GR m rM) c H B 0 m (by omega) (X1 m (.inr rM)) hlen
