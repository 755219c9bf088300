import Derived.Test.YtadmfaohjnjajaaGreatDoorSxB
import Derived.Laws.Strings
import Derived.Laws.Small
import Derived.Laws.Slices
set_option linter.unusedVariables false
set_option linter.unusedSimpArgs false
set_option maxHeartbeats 0
set_option maxRecDepth 100000
namespace Go.Sx
section
variable {AV:Type} {P:Program} {N:eI AV} {ρ:Nm} {H:Hp AV} {ev:Operand->Option SV} {e:Operand->Value}
theorem qm {α:Type} {k b:Bool} {a x:α} (h:(yA k b a).val=some x):b=true /\ a=x:=by cases k<;>cases b<;>simp [yA,T.val] at h<;>exact⟨rfl,h⟩
theorem fZ {α:Type} {b:Bool} {t:T α} {x:α} (h:(T.aE b t).val=some x):b=true /\ t.val=some x:=by
 cases b with
 | false=>cases h
 | true=>exact⟨rfl,h⟩
theorem zX (dD:Hf ρ H ev e):∀{l:List (Nat×Operand)} {ps:List (Nat×V1)},zY ev l=some ps ->
 (l.map fun p=>(p.1,e p.2))=(ps.map fun p=>(p.1,p.2.ay ρ)) /\ ∀p∈ps,jY H p.2
 | [],ps,h=>by cases h;simp
 | (i,x)::r,ps,h=>by
   simp only [zY] at h;split at h
   ·rename_i v hx;split at h
    ·rename_i l hl;cases h;have ih:=zX dD hl;have hd:=dD.ay x _ hx;have hc:=dD.cl x _ hx;refine⟨by simp [ih.1,hd,SV.ay],fun p hp=>?_⟩;rcases aaO.1 hp with rfl | hp
     ·exact hc
     ·exact ih.2 p hp
    ·cases h
   ·cases h
theorem nU (t:TypeId) (x y:Value):Op.equal t x y=Op.equalIn (9999+1) t x y:=rfl
theorem Jj (ρ:Nm) {x y:V1} {k k':IntKind} {a b:Int} {ka kb:Bool} (h:Jk x y=some (k,a,ka,k',b,kb)):x.ay ρ=.int k a /\ y.ay ρ=.int k' b:=by
 unfold Jk at h;split at h
 ·split at h
  ·rename_i h1;split at h
   ·rename_i h2;cases h;exact⟨fJ ρ h1,fJ ρ h2⟩
   ·cases h
  ·cases h
 ·cases h
theorem Of {op:BinOp} {t:TypeId} {k:IntKind} {a b:Int} {lit:Bool} {r:V1} (h:(sY op k a b lit).val=some r) (hs:wQ op=false) (x y:Operand) (w:World) :
 (do eqGuard op t x y (.int k a) (.int k b);binOp op t (.int k a) (.int k b)).run P w=.ok (r.ay ρ) w /\ jY H r:=by
 cases op<;>simp only [sY] at h<;>(first | (simp [wQ] at hs;done) | (simp only [T.val,aaf] at h;subst h) | (obtain⟨hb,h⟩:=fZ h;cases h;have OB:¬b=0:=by simpa using hb) | (cases h;done)) <;>
  (refine⟨?_,by first | exact Kc _ _ _ | exact Bh _ _⟩;rw [aaY];simp [eqGuard,binOp,Op.intArith,Op.intCmp,Op.intDiv,Op.intBits,aae,zz,tD, *])
theorem Ty {op:BinOp} {t:TypeId} {k k':IntKind} {a b:Int} (hs:wQ op=true) (hk:¬b < 0) {x y:Operand} {w:World} :
 (do eqGuard op t x y (.int k a) (.int k' b);binOp op t (.int k a) (.int k' b)).run P w=.ok (.int k (shI op k a b)) w:=by
 cases op<;>simp [wQ] at hs
 ·rw [aaY];simp [eqGuard,binOp,Op.shift,hk,shI]
 ·rw [aaY];simp [eqGuard,binOp,Op.shift,hk,shI]
theorem Sj (hT:fN P N) {t:TypeId} {x y:Operand} {a b:V1} {r k:Bool} (h:eqV N t (match Sx.tM x with | true=>true | false=>Sx.tM y) a b=some (r,k)) (w:World) :
 (∀op,(op=.eql \/ op=.neq)->(eqGuard op t x y (a.ay ρ) (b.ay ρ)).run P w=.ok () w) /\ (Op.equal t (a.ay ρ) (b.ay ρ)).run P w=.ok r w /\ (∀k n,a.ay ρ≠.int k n) /\ (∀s,a.ay ρ≠.string s) /\ (∀k s,a.ay ρ≠.float k s) /\ (∀k s z,a.ay ρ≠.complex k s z):=by
 unfold eqV at h;split at h
 ·-- structs
  rename_i xs ys;split at h
  ·rename_i fs0 s0 z0 ks ht;split at h
   ·cases h
   rename_i Vh;obtain⟨inf,h1,h2,h3,h4,h5⟩:=tC (hT.ty t _ ht);simp only at h5;cases hg:P.eqGuardType P.depth t with
   | true=>simp [hg] at h5
   | false =>
     simp only [hg] at h5;split at h
     ·cases h
     ·rename_i kx;split at h
      ·cases h
      ·rename_i ky;have hfl:=h5.symm;obtain⟨ag,xw⟩:=NH hfl;have aoN:=Uj h2;rw [aoN] at xw;cases xw
       ·have xw:=aoN;simp only [Vh] at xw;have sx:wg P t (.agg xs):=.inl ⟨xw,xs,rfl⟩;have sy:wg P t (.agg ys):=.inl ⟨xw,ys,rfl⟩;have e1:=I0 (ρ:=ρ) (P:=P) w 12 Op.maxDepth (by decide) t ks (.agg xs) (.agg ys) hfl sx sy kx ky;refine⟨fun op oT=>?_,?_,by simp [V1.ay],by simp [V1.ay],by simp [V1.ay],by simp [V1.ay]⟩
        ·rcases oT with rfl | rfl<;>simp [eqGuard,V1.ay,program,Sem.run,hg]
        ·rw [Sk ρ h];exact e1
  ·cases h
 ·-- single cells
  rename_i x' y';split at h
  ·-- awy
   rename_i ht;have hk:=acQ (eN hT ht);split at h
   ·rename_i a1 ka b1 kb h1 h2;cases h;have e1:=fC ρ h1;have e2:=fC ρ h2;refine⟨fun op oT=>?_,?_,by simp [V1.ay,e1],by simp [V1.ay,e1],by simp [V1.ay,e1],by simp [V1.ay,e1]⟩
    ·rcases oT with rfl | rfl<;>simp [eqGuard,V1.ay,e1,e2]
    ·rw [nU,Op.equalIn];simp [V1.ay,e1,e2,bP hk]
   ·cases h
  ·-- am5
   rename_i ht;obtain⟨el,hk⟩:=aix (eN hT ht)
   split at h<;>cases h <;>
    (refine⟨fun op oT=>?_,?_,by simp [V1.ay,Cell.ay],by simp [V1.ay,Cell.ay],by simp [V1.ay,Cell.ay],by simp [V1.ay,Cell.ay]⟩
     ·rcases oT with rfl | rfl<;>simp [eqGuard,V1.ay,Cell.ay]
     ·rw [nU,Op.equalIn];simp [V1.ay,Cell.ay,bP hk])
  ·-- interface values
   rename_i ht;obtain⟨ms,hk⟩:=YD (eN hT ht);split at h
   ·split at h
    ·rename_i aoE;cases h;refine⟨fun op oT=>?_,?_,by simp [V1.ay,Cell.ay],by simp [V1.ay,Cell.ay],by simp [V1.ay,Cell.ay],by simp [V1.ay,Cell.ay]⟩
     ·rcases oT with rfl | rfl<;>cases x<;>cases y<;>first | (exact absurd aoE (by decide)) | (simp [Sx.tM] at aoE;done) | simp [eqGuard,V1.ay,Cell.ay]
     ·rw [nU,Op.equalIn];simp [V1.ay,Cell.ay,bP hk]
    ·cases h
   ·cases h;refine⟨fun op oT=>?_,?_,by simp [V1.ay,Cell.ay],by simp [V1.ay,Cell.ay],by simp [V1.ay,Cell.ay],by simp [V1.ay,Cell.ay]⟩
    ·rcases oT with rfl | rfl<;>simp [eqGuard,V1.ay,Cell.ay]
    ·rw [nU,Op.equalIn];simp [V1.ay,Cell.ay,bP hk]
   ·cases h;refine⟨fun op oT=>?_,?_,by simp [V1.ay,Cell.ay],by simp [V1.ay,Cell.ay],by simp [V1.ay,Cell.ay],by simp [V1.ay,Cell.ay]⟩
    ·rcases oT with rfl | rfl<;>simp [eqGuard,V1.ay,Cell.ay]
    ·rw [nU,Op.equalIn];simp [V1.ay,Cell.ay,bP hk]
   ·cases h
  ·-- slices
   rename_i ht;obtain⟨el,hk,_⟩:=oO (eN hT ht);split at h
   ·rename_i b hb;cases h;unfold anh at hb
    split at hb<;>cases hb <;>
     (refine⟨fun op oT=>?_,?_,by simp [V1.ay,Cell.ay,cH],by simp [V1.ay,Cell.ay,cH],by simp [V1.ay,Cell.ay,cH],by simp [V1.ay,Cell.ay,cH]⟩
      ·rcases oT with rfl | rfl<;>simp [eqGuard,V1.ay,Cell.ay,cH]
      ·rw [nU,Op.equalIn];simp [V1.ay,Cell.ay,cH,bP hk])
   ·cases h
  ·cases h
 ·cases h
theorem HF {x:V1} {l h:Int} (e:TA x=some (l,h)):∃k n b,oQ (match x with | .c c=>c | _=>.jj)=some (k,n,b) /\ l<=n /\ n < h /\ ∃c,x=.c c:=by
 unfold TA at e;split at e
 ·cases e;exact⟨_,_,_,rfl,by omega,by omega,_,rfl⟩
 ·rename_i k n lo hi hh;cases e;exact⟨_,_,_,rfl,hh.1,hh.2,_,rfl⟩
 ·cases e
theorem ZX {op:BinOp} {l1 h1 l2 h2 a b:Int} {k:IntKind} {bb:Bool} (hc:adZ op l1 h1 l2 h2=some bb) (p1:l1<=a) (p2:a < h1) (q1:l2<=b) (q2:b < h2) (lit:Bool):(sY op k a b lit).val=some (RG bb lit):=by
 unfold adZ at hc;split at hc
 ·by_cases hA:h1<=l2
  ·have h3:a < b:=by omega
   simp [pC,hA] at hc;subst hc;simp [sY,T.val,h3]
  ·by_cases hB:h2<=l1+1
   ·have h3:¬a < b:=by omega
    simp [pC,hA,hB] at hc;subst hc;simp [sY,T.val,h3]
   ·simp [pC,hA,hB] at hc
 ·by_cases hA:h1<=l2+1
  ·have h3:a<=b:=by omega
   simp [pC,hA] at hc;subst hc;simp [sY,T.val,h3]
  ·by_cases hB:h2<=l1
   ·have h3:¬a<=b:=by omega
    simp [pC,hA,hB] at hc;subst hc;simp [sY,T.val,h3]
   ·simp [pC,hA,hB] at hc
 ·by_cases hA:h2<=l1
  ·have h3:a > b:=by omega
   simp [pC,hA] at hc;subst hc;simp [sY,T.val,h3]
  ·by_cases hB:h1<=l2+1
   ·have h3:¬a > b:=by omega
    simp [pC,hA,hB] at hc;subst hc;simp only [sY,T.val,h3,decide_false]
   ·simp [pC,hA,hB] at hc
 ·by_cases hA:h2<=l1+1
  ·have h3:a>=b:=by omega
   simp [pC,hA] at hc;subst hc;simp only [sY,T.val,h3,decide_true]
  ·by_cases hB:h1<=l2
   ·have h3:¬a>=b:=by omega
    simp [pC,hA,hB] at hc;subst hc;simp only [sY,T.val,h3,decide_false]
   ·simp [pC,hA,hB] at hc
 ·by_cases hA:h1<=l2
  ·have h3:(a==b)=false:=by simp;omega
   simp [pC,hA] at hc;subst hc;simp [sY,T.val,h3]
  ·by_cases hB:h2<=l1
   ·have h3:(a==b)=false:=by simp;omega
    simp [pC,hA,hB] at hc;subst hc;simp [sY,T.val,h3]
   ·simp [pC,hA,hB] at hc
 ·by_cases hA:h1<=l2
  ·have h3:(a != b)=true:=by simp;omega
   simp [pC,hA] at hc;subst hc;simp [sY,T.val,h3]
  ·by_cases hB:h2<=l1
   ·have h3:(a != b)=true:=by simp;omega
    simp [pC,hA,hB] at hc;subst hc;simp [sY,T.val,h3]
   ·simp [pC,hA,hB] at hc
 ·cases hc
theorem YK {op:BinOp} {x y r:V1} (h:aiC op x y=some r) {k k':IntKind} {a b:Int} {ka kb:Bool} (hb:Jk x y=some (k,a,ka,k',b,kb)) (lit:Bool):∃r0,(sY op k a b lit).val=some r0 /\ (∀ρ:Nm,r.ay ρ=r0.ay ρ) /\ jY H r:=by
 have hx:∃cx cy,x=.c cx /\ y=.c cy /\ oQ cx=some (k,a,ka) /\ oQ cy=some (k',b,kb):=by
  unfold Jk at hb;split at hb
  ·rename_i cx cy;split at hb
   ·rename_i h1;split at hb
    ·rename_i h2;cases hb;exact⟨cx,cy,rfl,rfl,h1,h2⟩
    ·cases hb
   ·cases hb
  ·cases hb
 obtain⟨cx,cy,rfl,rfl,i1,i2⟩:=hx;have main:∀r,(match aj5 op (.c cx) (.c cy) with
  | some r=>some r
  | none=>match TA (.c cx),TA (.c cy) with
    | some (l1,h1),some (l2,h2)=>match adZ op l1 h1 l2 h2 with
      | some b=>some (.c (.bl b))
      | none=>none
    | _,_=>none)=some r->∃r0,(sY op k a b lit).val=some r0 /\ (∀ρ:Nm,r.ay ρ=r0.ay ρ) /\ jY H r:=by
  intro r h;split at h
  ·rename_i r' ha;cases h;unfold aj5 at ha;split at ha
   ·rename_i k1 a1 lo hi hh k2 m e1 e2;cases e1;cases e2;simp only [oQ,aaf,aaB] at i1 i2;obtain⟨rfl,rfl,rfl⟩:=i1;obtain⟨rfl,rfl,rfl⟩:=i2;split at ha
    ·split at ha
     ·split at ha
      ·rename_i h0;cases ha;have hm:(m != 0)=true:=by simp;omega
       refine⟨K4 k1 (a1.tmod m) lit,by simp [sY,hm,T.val],fun ρ=>?_,gq rfl⟩;rw [zz];rfl
      ·cases ha
     ·cases ha
    ·cases ha
   ·rename_i k1 c k2 n lo hi hh e1 e2;cases e1;cases e2;simp only [oQ,aaf,aaB] at i1 i2;obtain⟨rfl,rfl,rfl⟩:=i1;obtain⟨rfl,rfl,rfl⟩:=i2;split at ha
    ·split at ha
     ·rename_i hd;have hd:=aaF hd;cases ha;refine⟨K4 .i64 (IntKind.i64.wrap (c+n)) lit,by simp [sY,T.val],fun ρ=>?_,gq rfl⟩;rw [zz,QG (by omega)];rfl
     ·cases ha
    ·cases ha
   ·cases ha
  ·split at h
   ·rename_i l1 h1 l2 h2 r1 r2;split at h
    ·rename_i bb hc;cases h;obtain⟨_,n1,_,j1,p1,p2,_⟩:=HF r1;obtain⟨_,n2,_,j2,q1,q2,_⟩:=HF r2;simp only at j1 j2;rw [i1] at j1;rw [i2] at j2;simp only [aaf,aaB] at j1 j2;obtain⟨rfl,rfl,rfl⟩:=j1;obtain⟨rfl,rfl,rfl⟩:=j2;exact⟨_,ZX hc p1 p2 q1 q2 lit,fun ρ=>by rw [tD];rfl,gq rfl⟩
    ·cases h
   ·cases h
 unfold aiC at h;split at h
 ·cases h
 ·exact main r h
theorem UZ (ρ:Nm) {a b:V1} {s u:ByteArray} {k q:Bool} (h:aad a b=some (s,k,u,q)):a.ay ρ=.string s /\ b.ay ρ=.string u:=by
 unfold aad at h;split at h
 ·split at h
  ·split at h
   ·rename_i _ _ h1 _ _ _ h2;cases h;exact⟨uN ρ h1,uN ρ h2⟩
   ·cases h
  ·cases h
 ·cases h
theorem strCat_eq (a b:ByteArray):OT a b=a++b:=by apply ByteArray.ext;rw [ByteArray.data_append];apply Array.toList_inj.1;simp [OT]
theorem strLen_eq (a:ByteArray):l8 a=a.size:=by rw [l8,afI];rfl
theorem OU {op:BinOp} {t:TypeId} {x y:Operand} {s u:ByteArray} {lit:Bool} {r:V1} {H:Hp AV} {ρ:Nm} (h:(OV op s u lit).val=some r) (w:World) :
 (do eqGuard op t x y (.string s) (.string u);binOp op t (.string s) (.string u)).run P w=.ok (r.ay ρ) w /\ jY H r:=by
 have eq:(s.toList==u.toList)=D3 s u:=by rw [ByteArray.toList_eq,ByteArray.toList_eq,D3,bsEq_eq]
 unfold OV at h;split at h
 ·cases h;refine⟨?_,Bh _ _⟩;rw [aaY];simp [eqGuard,binOp,Op.stringOp,eq,tD]
 ·cases h;refine⟨?_,Bh _ _⟩;rw [aaY];simp [eqGuard,binOp,Op.stringOp,eq,tD]
 ·obtain⟨h1,rfl⟩:=qm h;refine⟨?_,ah4 _ _⟩;have h1:=acZ h1;rw [strLen_eq,strLen_eq] at h1;rw [aaY];simp [eqGuard,binOp,Op.stringOp,aco,strCat_eq];omega
 ·cases h
theorem aed (hT:fN P N) {op:BinOp} {t:TypeId} {x y:Operand} {a b r:V1} (h:(bin N op t (match Sx.tM x with | true=>true | false=>Sx.tM y) a b).val=some r) (hs:wQ op=false) (w:World) :
 (do eqGuard op t x y (a.ay ρ) (b.ay ρ);binOp op t (a.ay ρ) (b.ay ρ)).run P w=.ok (r.ay ρ) w /\ jY H r:=by
 unfold bin at h;split at h
 ·rename_i k a' ka k' b' kb hb;obtain⟨e1,e2⟩:=Jj ρ hb;split at h
  ·rename_i hk;have hk:=aaF hk;subst hk;split at h
   ·rename_i r' hiv;cases h;unfold anU at hiv;split at hiv
    ·rename_i k1 n1 cs h1 k2 c2;simp only [V1.ay,Cell.ay,Value.int.injEq] at e1 e2;obtain⟨rfl,rfl⟩:=e1;obtain⟨rfl,rfl⟩:=e2;split at hiv
     ·cases hiv
     ·rename_i hin;have nQ:∀(l:List Int) (m:Int),Ze l m=true->m∈l:=by
       intro l;induction l with
       | nil=>intro m hm;simp [Ze] at hm
       | cons y l ih =>
         intro m hm;simp only [Ze] at hm;split at hm
         ·rename_i hd;rw [aaF hd];simp
         ·exact aaW _ (ih m hm)
      have dE:=h1 c2 (nQ cs c2 hin);have aoj:¬n1=c2:=by simpa using dE
      split at hiv
      ·cases hiv;refine⟨?_,gq rfl⟩;rw [aaY];simp [eqGuard,binOp,Op.intCmp,V1.ay,Cell.ay,aoj]
      ·cases hiv;refine⟨?_,gq rfl⟩;rw [aaY];simp [eqGuard,binOp,Op.intCmp,V1.ay,Cell.ay,aoj]
      ·cases hiv
    ·cases hiv
   ·split at h
    ·rename_i r' hir;cases h;rw [e1,e2];obtain⟨r0,h0,h1,h2⟩:=YK hir hb (match ka with | true=>kb | false=>false);obtain⟨g1,g2⟩:=Of (ρ:=ρ) (H:=H) (t:=t) h0 hs x y w;exact⟨by rw [g1,h1 ρ],h2⟩
    ·rw [e1,e2];exact Of h hs x y w
  ·cases h
 ·split at h
  ·rename_i a' ka b' kb hb;obtain⟨e1,e2⟩:=UZ ρ hb;rw [e1,e2];exact OU h w
  ·split at h
   ·-- ==
    unfold anc at h;split at h
    ·rename_i r' k' he;cases h;obtain⟨hg,heq,n1,n2,n3,n4⟩:=Sj (ρ:=ρ) hT he w;refine⟨?_,Bh _ _⟩;rw [aaY,hg .eql (.inl rfl),aaX];have:binOp .eql t (a.ay ρ) (b.ay ρ)=(do pure (.bool (<- Op.equal t (a.ay ρ) (b.ay ρ)))):=by cases hv:a.ay ρ<;>simp_all [binOp]
     rw [this,aaY,heq];simp [tD]
    ·cases h
   ·unfold anb at h;split at h
    ·rename_i r' k' he;cases h;obtain⟨hg,heq,n1,n2,n3,n4⟩:=Sj (ρ:=ρ) hT he w;refine⟨?_,Bh _ _⟩;rw [aaY,hg .neq (.inr rfl),aaX];have:binOp .neq t (a.ay ρ) (b.ay ρ)=(do pure (.bool (!(<- Op.equal t (a.ay ρ) (b.ay ρ))))):=by cases hv:a.ay ρ<;>simp_all [binOp]
     rw [this,aaY,heq];simp [tD]
    ·cases h
   ·cases h
theorem sS {ρ:Nm} {H:Hp AV} {ev:Operand->Option SV} {e:Operand->Value} (dD:Hf ρ H ev e):∀{l:List Operand} {vs:List SV},Hb ev l=some vs->l.map e=vs.map (SV.ay ρ) /\ ∀v∈vs,gf H v
 | [],vs,h=>by cases h;simp
 | x::r,vs,h=>by
   simp only [Hb] at h;split at h
   ·rename_i v hx;split at h
    ·rename_i l hl;cases h;have ih:=sS dD hl;refine⟨by simp [ih.1,dD.ay _ _ hx],fun y hy=>?_⟩;rcases aaO.1 hy with rfl | hy
     ·exact dD.cl _ _ hx
     ·exact ih.2 y hy
    ·cases h
   ·cases h
end
section
variable {AV:Type} {P:Program} {N:eI AV} {ρ:Nm} {H:Hp AV} {ev:Operand->Option SV} {e:Operand->Value}
theorem pM {H:Hp AV} {c d:Cell} (h:gf H (.v (.c c))) (hn:d.name=c.name):gf H (.v (.c d)):=by intro x hx n zP;simp [V1.cells] at hx;subst hx;exact h c (by simp [V1.cells]) n (by rw [<- hn];exact zP)
theorem UY (hT:fN P N) (dD:Hf ρ H ev e) {t:TypeId} {parts:Array (Nat×Operand)} {fs:List cO} {sz:Nat} {z l:List Cell} {fl:Option (List FK)} {ps:List (Nat×V1)}
 (ht:N.tt.get t=some ⟨.struct fs,sz,some z,fl⟩) (hp:zY ev parts.toList=some ps) (hf:IJ fs z ps=some l) (w:World) :
 (Instr.build t (parts.map fun(i,x)=>(i,e x))).run P w=.ok (.agg (aF ρ l).toArray) w /\ oy H l:=by
 obtain⟨a,hu,qH⟩:=Bn (eN hT ht);obtain⟨v,hz,hzc,Oy⟩:=y4 hT ht rfl ρ;obtain⟨hp1,hp2⟩:=zX dD hp;have Nl:∀(r:List Field) (q:List cO),KB P r=some q->∀w,(r.mapM (fun(f:Field)=>do pure (f.offset,<- sizeOf f.type)):Sem (List (Nat×Nat))).run P w=.ok (q.map fun f=>(f.off,f.size)) w:=by
  intro r;induction r with
  | nil=>intro q h w;cases h;simp
  | cons g r ih =>
    intro q h w;simp only [KB] at h;split at h
    ·rename_i n ag q' h1 h2 h3;cases h;have:=ih q' h3 w;simp only [List.mapM_cons,aaY,dJ h1 w,aaX,aa0,this,aaU]
    ·cases h
 have atn:=Nl a.toList fs qH w;have PV:(a.mapM (fun(f:Field)=>do pure (f.offset,<- sizeOf f.type)):Sem (Array (Nat×Nat)))=(fun l=>l.toArray) <$> (a.toList.mapM (fun(f:Field)=>do pure (f.offset,<- sizeOf f.type)):Sem (List (Nat×Nat))):=by rw [<- afw (xs:=a),List.mapM_toArray]
 have Cp:=NI (P:=P) (ρ:=ρ) (H:=H) (fs:=a.toList) (l:=fs) qH (fun i=>((fs.map fun f=>(f.off,f.size)).toArray)[i]?) (by
  intro i f hi;have:=EI hi;simp [this]) ps z l hf (iT Oy) hp2
 refine⟨?_,Cp.2⟩;have YS:v.cells=(aF ρ z).toArray:=by rw [<- hzc]
 have PT:(parts.map fun(x:Nat×Operand)=>match x with | (i,x)=>(i,e x)).toList=ps.map fun p=>(p.1,p.2.ay ρ):=by rw [<- hp1];simp
 unfold Instr.build;simp only [aaY,hz,aaX,bP hu,PV,Sem.run_map,atn];rw [YS];have h3:=Cp.1;rw [<- PT] at h3;simp only [h3];rfl
theorem Qu (hT:fN P N) (dD:Hf ρ H ev e) {t:TypeId} {parts:Array (Nat×Operand)} {len Hc sz:Nat} {ag:Bool} {z l:List Cell} {fl:Option (List FK)} {ps:List (Nat×V1)}
 (ht:N.tt.get t=some ⟨.gb len Hc ag,sz,some z,fl⟩) (hp:zY ev parts.toList=some ps) (hf:xU Hc z ps=some l) (w:World) :
 (Instr.build t (parts.map fun(i,x)=>(i,e x))).run P w=.ok (.agg (aF ρ l).toArray) w /\ oy H l:=by
 obtain⟨el,hu,tP,xw⟩:=Bo (eN hT ht);obtain⟨v,hz,hzc,Oy⟩:=y4 hT ht rfl ρ;obtain⟨hp1,hp2⟩:=zX dD hp;have Cp:=BC (ρ:=ρ) (H:=H) Hc ps z l hf (iT Oy) hp2;refine⟨?_,Cp.2⟩;have YS:v.cells=(aF ρ z).toArray:=by rw [<- hzc]
 have PT:(parts.map fun(x:Nat×Operand)=>match x with | (i,x)=>(i,e x)).toList=ps.map fun p=>(p.1,p.2.ay ρ):=by rw [<- hp1];simp
 unfold Instr.build;simp only [aaY,hz,aaX,bP hu,dJ tP];rw [YS];have h3:=Cp.1;rw [<- PT] at h3;simp only [h3];rfl
theorem Cx:∀{l:List SV} {cs:List Cell},KO l=some cs->(∀ρ:Nm,l.map (SV.ay ρ)=aF ρ cs) /\ ∀c∈cs,∀{H:Hp AV},(∀x∈l,gf H x)->ClC H c
 | [],cs,h=>by cases h;exact⟨fun _=>rfl,fun c hc=>by cases hc⟩
 | .v (.c c)::r,cs,h=>by
   simp only [KO] at h;split at h
   ·rename_i q hq;cases h;obtain⟨h1,h2⟩:=Cx hq;refine⟨fun ρ=>by rw [aaU,h1 ρ];rfl,fun d hd H hx=>?_⟩;rcases aaO.1 hd with rfl | hd
    ·exact hx (.v (.c d)) (by simp) d (by simp [V1.cells])
    ·exact h2 d hd fun x Ko=>hx x (by simp [Ko])
   ·cases h
 | .v (.agg _)::_,cs,h=>by cases h
 | .iW _::_,cs,h=>by cases h
 | .lU::_,cs,h=>by cases h
 | .xz _ _::_,cs,h=>by cases h
theorem cutTx_eq (s:ByteArray) (l h:Nat):Sy s l h=s.extract l h:=by apply ByteArray.ext;apply Array.toList_inj.1;simp [Sy,ByteArray.data_extract,List.drop_take]
theorem Jn {x:SV} {n:Int} {k:Bool} (h:ajZ x=some (n,k)) (ρ:Nm):∃ik,x.ay ρ=.int ik n:=by
 unfold ajZ at h;split at h
 ·rename_i c;split at h
  ·rename_i ik m k' hc;cases h;exact⟨ik,fJ ρ hc⟩
  ·cases h
 ·cases h
theorem acn (H:Hp AV) (s:ByteArray) (k:Bool):gf H (.v (mkS s k)):=by intro c hc m hm;cases k<;>· simp [mkS,V1.cells] at hc;subst hc;cases hm
theorem X9 (ρ:Nm) (s:ByteArray) (k:Bool):(SV.v (mkS s k)).ay ρ=.string s:=by cases k<;>rfl
theorem P8 {ev:Operand->Value} {o:Oper} {t:TypeId} {x:Operand} {lo hi:Option Operand} {w:World} (ho:o.op=.slice t x lo hi none) (hu:P.underlying t=some .string)
 {s:ByteArray} {l h:Nat} {m:Nat} (hx:ev x=.string s) (hb:(Instr.sliceBounds false s.size s.size (lo.map ev) (hi.map ev) none).run P w=.ok (l,h,m) w) :
 (execOp ev o).run P w=.ok (.value (.string (Sy s l h))) w:=by
 obtain⟨dst,op,ty,tf,after,guard⟩:=o;simp only at ho;subst ho;rw [cutTx_eq];simp [execOp,hx,run_sliceAt_string w t _ _ _ _ hu,Instr.slice,run_underlying hu,hb,Result.andThen]
theorem Qj (w:World) {e:Operand->Value} {lo hi:Option Operand} {ev:Operand->Option SV} {H:Hp AV} {ρ:Nm} (dD:Hf ρ H ev e) {s:ByteArray} {l h:Int} {k k':Bool} (hl:CW ev 0 lo=some (l,k)) (hh:CW ev (l8 s) hi=some (h,k')) (b:0<=l /\ l<=h /\ h<=(l8 s:Int)) :
 ∃m,(Instr.sliceBounds false s.size s.size (lo.map e) (hi.map e) none).run P w=.ok (l.toNat,h.toNat,m) w:=by
 obtain⟨b1,b2,b3⟩:=b;have es:(l8 s)=s.size:=strLen_eq s;rw [es] at b3;have gl:∀x,lo=some x->∃ik,e x=.int ik l:=fun x hx=>by
  subst hx;unfold CW at hl;split at hl
  ·rename_i hx;cases hx
  ·rename_i y v hv;cases hv;split at hl
   ·rename_i v' hv';rw [dD.ay _ _ hv'];exact Jn hl ρ
   ·cases hl
 have gh:∀x,hi=some x->∃ik,e x=.int ik h:=fun x hx=>by
  subst hx;unfold CW at hh;split at hh
  ·rename_i hx;cases hx
  ·rename_i y v hv;cases hv;split at hh
   ·rename_i v' hv';rw [dD.ay _ _ hv'];exact Jn hh ρ
   ·cases hh
 cases lo with
 | none =>
   cases hl;cases hi with
   | none =>
     cases hh;refine⟨s.size,?_⟩;have e4:(l8 s:Int).toNat=s.size:=by rw [strLen_eq];rfl
     rw [e4];simp [Instr.sliceBounds,Result.andThen]
   | some y =>obtain⟨jk,e5⟩:=gh y rfl;have hb:=run_sliceBound (P:=P) w jk h s.size .sliceAlen b2 (by omega);exact⟨s.size,by simp [Instr.sliceBounds,e5,hb,Result.andThen]⟩
 | some x =>
   obtain⟨ik,e3⟩:=gl x rfl;cases hi with
   | none =>
     cases hh;have e4:(l8 s:Int).toNat=s.size:=by rw [strLen_eq];rfl
     rw [e4];have hb:=run_sliceBound (P:=P) w ik l s.size .sliceB b1 (by rw [es] at b2;omega);exact⟨s.size,by simp [Instr.sliceBounds,e3,hb,Result.andThen]⟩
   | some y =>obtain⟨jk,e5⟩:=gh y rfl;have hb:=run_sliceBound (P:=P) w jk h s.size .sliceAlen (by omega) (by omega);have hb2:=run_sliceBound (P:=P) w ik l h.toNat .sliceB b1 (by omega);exact⟨s.size,by simp [Instr.sliceBounds,e3,e5,hb,hb2,Result.andThen]⟩
theorem Ew (hT:fN P N) (dD:Hf ρ H ev e) {o:Oper} {t:T SV} {v:SV} (h:u6 N ev o.op=some t) (hv:t.val=some v) (w:World) :
 (execOp e o).run P w=.ok (.value (v.ay ρ)) w /\ gf H v:=by
 obtain⟨dst,op,ty,tf,after,guard⟩:=o;simp only at h;unfold u6 at h;split at h
 ·-- move
  cases h;split at hv
  ·rename_i x v' hx;cases hv;exact⟨by simp [execOp,dD.ay _ _ hx],dD.cl _ _ hx⟩
  ·cases hv
 ·-- assign
  cases h;split at hv
  ·rename_i x v' hx;cases hv;exact⟨by simp [execOp,dD.ay _ _ hx],dD.cl _ _ hx⟩
  ·cases hv
 ·-- pick
  cases h;split at hv
  ·rename_i c x y h1 h2 h3;have e1:=dD.ay _ _ h1;have e2:=dD.ay _ _ h2;have e3:=dD.ay _ _ h3;split at hv
   ·rename_i t' hb;have OB:=fC ρ hb;split at hv
    ·cases hv;exact⟨by simp [execOp,e1,e2,SV.ay,V1.ay,OB,asBool],dD.cl _ _ h2⟩
    ·cases hv;exact⟨by simp [execOp,e1,e3,SV.ay,V1.ay,OB,asBool],dD.cl _ _ h3⟩
   ·rename_i t' hb;have OB:=fC ρ hb;cases t' with
    | true=>cases hv;exact⟨by simp [execOp,e1,e2,SV.ay,V1.ay,OB,asBool],dD.cl _ _ h2⟩
    | false=>cases hv;exact⟨by simp [execOp,e1,e3,SV.ay,V1.ay,OB,asBool],dD.cl _ _ h3⟩
   ·cases hv
  ·cases hv
 ·-- build
  cases h;split at hv
  ·rename_i fs sz z fl ps h1 h2;split at hv
   ·rename_i l hl;cases hv;obtain⟨b1,b2⟩:=UY hT dD h1 h2 hl w;refine⟨?_,b2⟩;simp only [execOp,aaY];erw [b1];rfl
   ·cases hv
  ·rename_i len Hc sz z fl ps h1 h2;split at hv
   ·rename_i l hl;cases hv;obtain⟨b1,b2⟩:=Qu hT dD h1 h2 hl w;refine⟨?_,b2⟩;simp only [execOp,aaY];erw [b1];rfl
   ·cases hv
  ·cases hv
 ·-- nilCheck
  cases h;split at hv
  ·rename_i n off h1;cases hv;exact⟨by simp [execOp,dD.ay _ _ h1,SV.ay,V1.ay,Cell.ay],dD.cl _ _ h1⟩
  ·rename_i h1;cases hv;exact⟨by simp [execOp,dD.ay _ _ h1,SV.ay,V1.ay,Cell.ay],dD.cl _ _ h1⟩
  ·rename_i h1;cases hv;exact⟨by simp [execOp,dD.ay _ _ h1,SV.ay,V1.ay,Cell.ay],dD.cl _ _ h1⟩
  ·rename_i h1;cases hv;exact⟨by simp [execOp,dD.ay _ _ h1,SV.ay,V1.ay,Cell.ay],dD.cl _ _ h1⟩
  ·rename_i h1;cases hv;exact⟨by simp [execOp,dD.ay _ _ h1,SV.ay],dD.cl _ _ h1⟩
  ·cases hv
 ·-- makeFunc
  rename_i fn0 Zq UW;cases h;split at hv
  ·rename_i f l h1 h2;split at hv
   ·rename_i cs hcs;cases hv;obtain⟨e1,e2⟩:=sS dD h2;obtain⟨e3,e4⟩:=Cx hcs;refine⟨?_,fun c hc=>e4 c hc (fun x hx=>e2 x hx)⟩;have adh:UW.map e=(aF ρ cs).toArray:=by rw [<- e3 ρ,<- e1,<- Array.toList_map,afw]
    have aiY:Zq.map e=#[]:=by rw [<- afw (xs:=Zq.map e),Array.toList_map,h1];rfl
    simp only [execOp,aaY,Instr.makeFunc,aa0,aaX,SV.ay,adh,aiY]
   ·cases hv
  ·cases hv
 ·-- fieldAddr
  rename_i t0 x0 i0;cases h;have hfs:∀{t:TypeId} {fs:List cO},zU N t=some fs->∃a,P.underlying t=some (.struct a) /\ KB P a.toList=some fs:=by
   intro t fs hf;unfold zU at hf;split at hf
   ·rename_i ht;cases hf;exact Bn (eN hT ht)
   ·cases hf
  split at hv
  ·rename_i n off fs h1 h2;obtain⟨a,hu,qH⟩:=hfs h2;split at hv
   ·rename_i f hf;obtain⟨g,hg,ho,tP,_⟩:=Dy qH hf;split at hv
    ·rename_i hz;have hz:=(bT _ _).1 hz;cases hv;refine⟨?_,pM (dD.cl _ _ h1) rfl⟩;have GU:a[i0]?=some g:=by simpa using hg
     simp only [execOp,aaY,Instr.fieldAt,bP hu,aaX,GU,dD.ay _ _ h1,SV.ay,V1.ay,Cell.ay,Instr.sureAddr,aa0,fieldPlace,dJ tP,if_neg hz];simp only [Addr.add];split
     ·rename_i h0;simp [ho,h0]
     ·simp [ho]
    ·cases hv
   ·cases hv
  ·rename_i n o' k' es off fs h1 h2;obtain⟨a,hu,qH⟩:=hfs h2;split at hv
   ·rename_i f hf;obtain⟨g,hg,ho,tP,_⟩:=Dy qH hf;split at hv
    ·rename_i hz;have hz:=(bT _ _).1 hz;cases hv;refine⟨?_,pM (dD.cl _ _ h1) rfl⟩;have GU:a[i0]?=some g:=by simpa using hg
     simp only [execOp,aaY,Instr.fieldAt,bP hu,aaX,GU,dD.ay _ _ h1,SV.ay,V1.ay,Cell.ay,Instr.sureAddr,aa0,fieldPlace,dJ tP,if_neg hz];simp only [Addr.add];split
     ·rename_i h0;simp [ho,h0]
     ·simp [ho,adr]
    ·cases hv
   ·cases hv
  ·cases hv
 ·-- field
  rename_i t0 x0 i0;cases h;split at hv
  ·rename_i l fs h1 h2;unfold zU at h2;split at h2
   ·rename_i ht;cases h2;obtain⟨a,hu,qH⟩:=Bn (eN hT ht);split at hv
    ·rename_i f hf;obtain⟨g,hg,ho,tP,xw⟩:=Dy qH hf;unfold one at hv;split at hv
     ·rename_i x hx;cases hv;have hpr:=zr (ρ:=ρ) xw tP hx w;refine⟨?_,Ez hx (dD.cl _ _ h1)⟩;have GU:a[i0]?=some g:=by simpa using hg
      simp only [execOp,aaY,Instr.field,bP hu,aaX,GU,dD.ay _ _ h1,SV.ay,V1.ay,asAgg,aa0,<- ho,hpr]
     ·cases hv
    ·cases hv
   ·cases h2
  ·cases hv
 ·-- binOp
  cases h;split at hv
  ·rename_i a b h1 h2;split at hv
   ·rename_i hs;rw [T.gg] at hv;obtain⟨r,hr,rfl⟩:=aaT.1 hv;unfold WS at hr;split at hr
    ·rename_i k' a' ka kk b' kb hb;obtain⟨e1,e2⟩:=Jj ρ hb;obtain⟨hk,rfl⟩:=qm hr;have hk:¬b' < 0:=by have:=aaF hk;omega
     refine⟨?_,Kc _ _ _⟩;simp only [execOp,dD.ay _ _ h1,dD.ay _ _ h2,SV.ay,e1,e2];rw [aaY,Ty hs hk,zz];rfl
    ·cases hr
   ·rename_i hs;rw [T.gg] at hv;obtain⟨r,hr,rfl⟩:=aaT.1 hv;obtain⟨b1,b2⟩:=aed (ρ:=ρ) (H:=H) hT hr hs w;refine⟨?_,b2⟩;simp only [execOp,dD.ay _ _ h1,dD.ay _ _ h2,SV.ay];rw [aaY,b1];rfl
  ·cases hv
 ·-- not
  cases h;split at hv
  ·rename_i c h1;split at hv
   ·rename_i b k hb;cases hv;refine⟨?_,Bh _ _⟩;have e1:e _=.bool b:=(dD.ay _ _ h1).trans (fC ρ hb);simp [execOp,e1,Op.unary,SV.ay,tD]
   ·cases hv
  ·cases hv
 ·-- neg
  cases h;split at hv
  ·rename_i c h1;split at hv
   ·rename_i k n l hb;cases hv;refine⟨?_,fun c hc=>Kc _ _ _ c hc⟩;have e1:e _=.int k n:=(dD.ay _ _ h1).trans (fJ ρ hb);simp [execOp,e1,Op.unary,Op.intArith,SV.ay,zz]
   ·cases hv
  ·cases hv
 ·-- a part of a text
  rename_i t' x lo hi mx;split at h
  ·rename_i htx;cases h;cases mx with
   | some _=>cases htx
   | none =>
     unfold ajS at hv;split at hv
     ·rename_i h1 h2;split at hv
      ·rename_i s ks hs;split at hv
       ·rename_i l k h' k' hl hh;obtain⟨hb,hv⟩:=fZ hv;cases hv;obtain⟨m,hm⟩:=Qj (P:=P) w dD hl hh (aaF hb);refine⟨?_,acn _ _ _⟩;have e1:e x=.string s:=(dD.ay _ _ h2).trans (uN ρ hs);have:=P8 (P:=P) (ev:=e) (o:=⟨dst,.slice t' x lo hi none,ty,tf,after,guard⟩) (w:=w) rfl (Ft (eN hT h1)) e1 hm;rw [X9];exact this
       ·cases hv
      ·cases hv
     ·cases hv
  ·cases h
 ·-- extract
  cases h;split at hv
  ·rename_i l h1;split at hv
   ·rename_i x hx;cases hv;have:=EI hx;refine⟨?_,(dD.cl _ _ h1) x (aca this)⟩;simp [execOp,dD.ay _ _ h1,SV.ay,Instr.extract,this]
   ·cases hv
  ·cases hv
 ·-- makeInterface
  cases h;split at hv
  ·rename_i c k _ _ _ h1 h2;split at hv
   ·cases hv
   ·rename_i dE;cases hv;obtain⟨d,hd,vD⟩:=Ki (eN hT h2) (fun hk=>dE hk);refine⟨?_,pM (dD.cl _ _ h1) rfl⟩;simp only [execOp,aaY,Instr.makeInterface,bP hd,aaX,dD.ay _ _ h1,SV.ay,V1.ay,Cell.ay];cases d<;>first | rfl | exact absurd rfl (vD _)
  ·cases hv
 ·-- indexAddr
  cases h;split at hv
  ·rename_i n off kk k len sz ag _ _ _ h1 h2 h3;obtain⟨el,hu,tP,xw⟩:=Bo (eN hT h3);split at hv
   ·rename_i hk;have hk:=aaF hk;cases hv;refine⟨?_,pM (dD.cl _ _ h1) rfl⟩;simp only [execOp,aaY,Instr.indexAt,dD.ay _ _ h1,dD.ay _ _ h2,SV.ay,V1.ay,Cell.ay,asIntOf,aa0,aaX,bP hu,Instr.sureAddr,hk,and_self,if_true,dJ tP];simp only [Addr.add];split
    ·rename_i h0;simp [h0]
    ·rfl
   ·cases hv
  ·rename_i n k0 e0 off kk k len sz ag _ _ _ h1 h2 h3;obtain⟨el,hu,tP,xw⟩:=Bo (eN hT h3);split at hv
   ·rename_i hk;have hk:=aaF hk;cases hv;refine⟨?_,pM (dD.cl _ _ h1) rfl⟩;simp only [execOp,aaY,Instr.indexAt,dD.ay _ _ h1,dD.ay _ _ h2,SV.ay,V1.ay,Cell.ay,asIntOf,aa0,aaX,bP hu,Instr.sureAddr,hk,and_self,if_true,dJ tP];simp only [Addr.add];split
    ·rename_i h0;simp [h0]
    ·simp [adr]
   ·cases hv
  ·rename_i n o' len cp kk k sz _ _ _ h1 h2 h3;obtain⟨el,hu,tP⟩:=oO (eN hT h3);split at hv
   ·rename_i hk;have hk:=aaF hk;cases hv;refine⟨?_,pM (dD.cl _ _ h1) rfl⟩;simp only [execOp,aaY,Instr.indexAt,dD.ay _ _ h1,dD.ay _ _ h2,SV.ay,V1.ay,Cell.ay,asIntOf,aa0,aaX,bP hu,hk,and_self,if_true,dJ tP];simp only [Addr.add];split
    ·rename_i h0;simp [h0]
    ·rfl
   ·cases hv
  ·rename_i n o' len es kn ix sz _ _ _ h1 h2 h3;obtain⟨el,hu,tP⟩:=oO (eN hT h3);split at hv
   ·rename_i Vj;have Vj:=(aG _ _).1 Vj;subst Vj;split at hv
    ·rename_i kk k lit hi;obtain⟨hk,hv⟩:=qm hv;have hk:=aaF hk;subst hv;refine⟨?_,pM (dD.cl _ _ h1) rfl⟩;have hl0:¬(len=0 /\ (ρ.L n).c=0):=by omega
     simp only [execOp,aaY,Instr.indexAt,dD.ay _ _ h1,dD.ay _ _ h2,SV.ay,V1.ay,Cell.ay,cH,if_neg hl0,fJ ρ hi,asIntOf,aa0,aaX,bP hu,hk,and_self,if_true,dJ tP];simp only [Addr.add,aei];split
     ·rename_i h0;simp [h0,Nm.f]
     ·simp [Nm.f,adr]
    ·cases hv
   ·cases hv
  ·rename_i n off ix len sz ag _ _ _ _ h1 h2 h3;obtain⟨el,hu,tP,xw⟩:=Bo (eN hT h3);split at hv
   ·rename_i kk k lit hi _;rw [T.gg] at hv;obtain⟨j,hj,rfl⟩:=aaT.1 hv;obtain⟨rfl,hlt⟩:=PZ hj;have hk:(0:Int)<=(j:Int) /\ (j:Int) < (len:Int):=by omega
    refine⟨?_,pM (dD.cl _ _ h1) rfl⟩;simp only [execOp,aaY,Instr.indexAt,dD.ay _ _ h1,dD.ay _ _ h2,SV.ay,V1.ay,Cell.ay,fJ ρ hi,asIntOf,aa0,aaX,bP hu,Instr.sureAddr,hk,and_self,if_true,dJ tP];simp only [Addr.add,Int.toNat_natCast];split
    ·rename_i h0;simp [h0]
    ·rfl
   ·cases hv
  ·rename_i n k0 e0 off ix len sz ag _ _ _ _ h1 h2 h3;obtain⟨el,hu,tP,xw⟩:=Bo (eN hT h3);split at hv
   ·rename_i kk k lit hi;obtain⟨hk,hv⟩:=fZ hv;have hk:=aaF hk;cases hv;refine⟨?_,pM (dD.cl _ _ h1) rfl⟩;simp only [execOp,aaY,Instr.indexAt,dD.ay _ _ h1,dD.ay _ _ h2,SV.ay,V1.ay,Cell.ay,fJ ρ hi,asIntOf,aa0,aaX,bP hu,Instr.sureAddr,hk,and_self,if_true,dJ tP];simp only [Addr.add];split
    ·rename_i h0;simp [h0,offN_eq]
    ·simp only [offN_eq,adr,Nat.add_comm off]
   ·cases hv
  ·cases hv
 ·-- convert
  cases h;split at hv
  ·rename_i c i0 k sz z fl h1 h2 h3;split at hv
   ·rename_i kk n lit hi;cases hv;obtain⟨d0,hd0⟩:=acP (eN hT h2);have hd1:=aiy (eN hT h3);refine⟨?_,ZV _ _ _ _⟩;simp only [execOp,aaY,convert,bP hd0,bP hd1,aaX,dD.ay _ _ h1,SV.ay,V1.ay,fJ ρ hi,Conv.intToInt,aa0];exact congrArg (fun v=>Result.ok (Next.value v) w) (UQ ρ hi).symm
   ·cases hv
  ·cases hv
 ·-- index
  cases h;split at hv
  ·rename_i s ix sz z fl h1 h2 h3;split at hv
   ·rename_i kk n lit hi;rw [T.gg] at hv;obtain⟨v',hv',rfl⟩:=aaT.1 hv;obtain⟨hk,rfl⟩:=qm hv';have hk:=aaF hk;have hd:=Ft (eN hT h3);refine⟨?_,Kc _ _ _⟩;have hlt:n.toNat < s.data.toList.length:=by omega
    have e1:s[n.toNat]?=some (s.data.toList[n.toNat]):=by have Uq:=hlt;rw [afI] at Uq;have:n.toNat < s.size:=Uq;rw [getElem?_pos s n.toNat this];rfl
    have e2:Ji s n=((s.data.toList[n.toNat]).toNat:Int):=by unfold Ji;rw [nth_eq,aaN hlt]
    simp only [execOp,aaY,Instr.index,dD.ay _ _ h1,dD.ay _ _ h2,SV.ay,V1.ay,Cell.ay,fJ ρ hi,asIntOf,aa0,aaX,bP hd,hk.1,if_true,e1,e2];cases lit<;>rfl
   ·cases hv
  ·rename_i s ix sz z fl h1 h2 h3;split at hv
   ·rename_i kk n lit hi;rw [T.gg] at hv;obtain⟨v',hv',rfl⟩:=aaT.1 hv;obtain⟨hk,rfl⟩:=qm hv';have hk:=aaF hk;have hd:=Ft (eN hT h3);refine⟨?_,gq rfl⟩;have hlt:n.toNat < s.data.toList.length:=by omega
    have e1:s[n.toNat]?=some (s.data.toList[n.toNat]):=by have Uq:=hlt;rw [afI] at Uq;have:n.toNat < s.size:=Uq;rw [getElem?_pos s n.toNat this];rfl
    have e2:Ji s n=((s.data.toList[n.toNat]).toNat:Int):=by unfold Ji;rw [nth_eq,aaN hlt]
    simp only [execOp,aaY,Instr.index,dD.ay _ _ h1,dD.ay _ _ h2,SV.ay,V1.ay,Cell.ay,fJ ρ hi,asIntOf,aa0,aaX,bP hd,hk.1,if_true,e1,e2]
   ·cases hv
  ·rename_i l kk k len sz ag _ _ _ h1 h2 h3;obtain⟨el,hu,tP,xw⟩:=Bo (eN hT h3);split at hv
   ·rename_i hk;have hk:=aaF hk;unfold one at hv;split at hv
    ·rename_i x hx;cases hv;have hpr:=zr (ρ:=ρ) xw tP hx w;refine⟨?_,Ez hx (dD.cl _ _ h1)⟩;simp only [execOp,aaY,Instr.index,dD.ay _ _ h1,dD.ay _ _ h2,SV.ay,V1.ay,Cell.ay,asIntOf,aa0,aaX,bP hu,hk,and_self,if_true,dJ tP,hpr]
    ·cases hv
   ·cases hv
  ·cases hv
 ·-- len
  rename_i c;split at h
  ·rename_i cR;cases h;obtain⟨cX,args,tys⟩:=c;simp only at cR hv;subst cR;split at hv
   ·rename_i x t hx ht;obtain rfl:args=#[x]:=by cases args;simp at hx;simp [hx]
    obtain rfl:tys=#[t]:=by cases tys;simp at ht;simp [ht]
    split at hv
    ·rename_i len _ _ _ _ _ h1 h2;obtain⟨el,hu,_⟩:=oO (eN hT h2);cases hv;refine⟨?_,gq rfl⟩;simp [execOp,resolve,invoke,builtin,Builtin.len_,dD.ay _ _ h1,SV.ay,V1.ay,Cell.ay,bP hu,goInt]
    ·rename_i h1 h2;obtain⟨el,hu,_⟩:=oO (eN hT h2);cases hv;refine⟨?_,gq rfl⟩;simp [execOp,resolve,invoke,builtin,Builtin.len_,dD.ay _ _ h1,SV.ay,V1.ay,Cell.ay,bP hu,goInt]
    ·rename_i h1 h2;obtain⟨el,hu,_⟩:=oO (eN hT h2);cases hv;refine⟨?_,gq rfl⟩;simp [execOp,resolve,invoke,builtin,Builtin.len_,dD.ay _ _ h1,SV.ay,V1.ay,Cell.ay,bP hu,goInt]
    ·rename_i n0 o0 es0 z0 f0 p0 _ _ _ _ h1 h2;obtain⟨el,hu,_⟩:=oO (eN hT h2);cases hv;refine⟨?_,gq rfl⟩;have hbc:∃b c,cH (f0.ap (ρ.L n0)) 0 0 es0=.slice b 0 c:=by
      unfold cH;split
      ·exact⟨_,_,rfl⟩
      ·exact⟨_,_,rfl⟩
     obtain⟨b,c,hbc⟩:=hbc;simp [execOp,resolve,invoke,builtin,Builtin.len_,dD.ay _ _ h1,SV.ay,V1.ay,Cell.ay,hbc,bP hu,goInt]
    ·rename_i n0 o0 len es0 kn _ _ _ _ h1 h2;obtain⟨el,hu,_⟩:=oO (eN hT h2);cases hv;refine⟨?_,by cases kn<;>exact gq rfl⟩;have:∀l:m9,∀o e,∃b c,cH l o len e=.slice b len c:=by
      intro l o e;unfold cH;split
      ·rename_i h0;rw [h0.1];exact⟨_,_,rfl⟩
      ·exact⟨_,_,rfl⟩
     obtain⟨b,c,hbc⟩:=this (ρ.L n0) o0 es0;cases kn<;>simp [execOp,resolve,invoke,builtin,Builtin.len_,dD.ay _ _ h1,SV.ay,V1.ay,Cell.ay,hbc,K4,bP hu,goInt]
    ·rename_i s _ _ _ _ h1 h2;have hu:=Ft (eN hT h2);cases hv;refine⟨?_,gq rfl⟩;simp [execOp,resolve,invoke,builtin,Builtin.len_,dD.ay _ _ h1,SV.ay,V1.ay,Cell.ay,bP hu,goInt,l8,ByteArray.size_data,afI]
    ·rename_i s _ _ _ _ h1 h2;have hu:=Ft (eN hT h2);cases hv;refine⟨?_,gq rfl⟩;simp [execOp,resolve,invoke,builtin,Builtin.len_,dD.ay _ _ h1,SV.ay,V1.ay,Cell.ay,bP hu,goInt,l8,ByteArray.size_data,afI]
    ·cases hv
   ·cases hv
  ·cases h
 ·cases h
