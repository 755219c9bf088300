import Derived.Test.YtadmfaohjnjajaaGreatDoorSxB
import Derived.Laws.Strings
import Derived.Laws.Small
import Derived.Laws.Slices
set_option linter.unusedVariables false
set_option linter.unusedSimpArgs false
set_option maxHeartbeats 0
set_option maxRecDepth 100000
namespace Go.Sx
section
variable {AV:Type} {P:Program} {N:dV AV} {ρ:Nm} {H:Hp AV} {ev:Operand->Option SV} {e:Operand->Value}
theorem pU {α:Type} {k b:Bool} {a x:α} (h:(xK k b a).val=some x):b=true /\ a=x:=by
 cases k<;>cases b<;>simp [xK,T.val] at h<;>exact⟨rfl,h⟩
theorem fN {α:Type} {b:Bool} {t:T α} {x:α} (h:(T.aJ b t).val=some x):b=true /\ t.val=some x:=by
 cases b with
 | false=>cases h
 | true=>exact⟨rfl,h⟩
theorem zg (dy:Gg ρ H ev e):∀{l:List (Nat×Operand)} {ps:List (Nat×V1)},zh ev l=some ps ->
 (l.map fun p=>(p.1,e p.2))=(ps.map fun p=>(p.1,p.2.aq ρ)) /\ ∀p∈ps,jG H p.2
 | [],ps,h=>by cases h;simp
 | (i,x)::r,ps,h=>by
   simp only [zh] at h
   split at h
   ·rename_i v hx
    split at h
    ·rename_i l hl
     cases h
     have ih:=zg dy hl
     have hd:=dy.aq x _ hx
     have hc:=dy.cl x _ hx
     refine⟨by simp [ih.1,hd,SV.aq],fun p hp=>?_⟩
     rcases abk.1 hp with rfl | hp
     ·exact hc
     ·exact ih.2 p hp
    ·cases h
   ·cases h
theorem nF (t:TypeId) (x y:Value):Op.equal t x y=Op.equalIn (9999+1) t x y:=rfl
theorem Ig (ρ:Nm) {x y:V1} {k k':IntKind} {a b:Int} {ka kb:Bool} (h:Ih x y=some (k,a,ka,k',b,kb)):x.aq ρ=.int k a /\ y.aq ρ=.int k' b:=by
 unfold Ih at h
 split at h
 ·split at h
  ·rename_i h1
   split at h
   ·rename_i h2
    cases h
    exact⟨fC ρ h1,fC ρ h2⟩
   ·cases h
  ·cases h
 ·cases h
theorem ME {op:BinOp} {t:TypeId} {k:IntKind} {a b:Int} {lit:Bool} {r:V1} (h:(rU op k a b lit).val=some r) (hs:vO op=false) (x y:Operand) (w:World) :
 (do eqGuard op t x y (.int k a) (.int k b);binOp op t (.int k a) (.int k b)).run P w=.ok (r.aq ρ) w /\ jG H r:=by
 cases op<;>simp only [rU] at h<;>(first | (simp [vO] at hs;done) | (simp only [T.val,aaC] at h;subst h) | (obtain⟨hb,h⟩:=fN h;cases h;have M1:¬b=0:=by simpa using hb) | (cases h;done)) <;>
  (refine⟨?_,by first | exact Jj _ _ _ | exact As _ _⟩;rw [abA];simp [eqGuard,binOp,Op.intArith,Op.intCmp,Op.intDiv,Op.intBits,YH,yV,su, *])
theorem RE {op:BinOp} {t:TypeId} {k k':IntKind} {a b:Int} (hs:vO op=true) (hk:¬b < 0) {x y:Operand} {w:World} :
 (do eqGuard op t x y (.int k a) (.int k' b);binOp op t (.int k a) (.int k' b)).run P w=.ok (.int k (shI op k a b)) w:=by
 cases op<;>simp [vO] at hs
 ·rw [abA];simp [eqGuard,binOp,Op.shift,hk,shI]
 ·rw [abA];simp [eqGuard,binOp,Op.shift,hk,shI]
theorem QA (hT:fD P N) {t:TypeId} {x y:Operand} {a b:V1} {r k:Bool} (h:eqV N t (match Sx.sB x with | true=>true | false=>Sx.sB y) a b=some (r,k)) (w:World) :
 (∀op,(op=.eql \/ op=.neq)->(eqGuard op t x y (a.aq ρ) (b.aq ρ)).run P w=.ok () w) /\ (Op.equal t (a.aq ρ) (b.aq ρ)).run P w=.ok r w /\ (∀k n,a.aq ρ≠.int k n) /\ (∀s,a.aq ρ≠.string s) /\ (∀k s,a.aq ρ≠.float k s) /\ (∀k s z,a.aq ρ≠.complex k s z):=by
 unfold eqV at h
 split at h
 ·-- structs
  rename_i xs ys
  split at h
  ·rename_i fs0 s0 z0 ks ht
   split at h
   ·cases h
   rename_i Zh
   obtain⟨inf,h1,h2,h3,h4,h5⟩:=sq (hT.ty t _ ht)
   simp only at h5
   cases hg:P.eqGuardType P.depth t with
   | true=>simp [hg] at h5
   | false =>
     simp only [hg] at h5
     split at h
     ·cases h
     ·rename_i kx
      split at h
      ·cases h
      ·rename_i ky
       have hfl:=h5.symm
       obtain⟨ag,wI⟩:=L9 hfl
       have amz:=Sy h2
       rw [amz] at wI
       cases wI
       ·have wI:=amz
        simp only [Zh] at wI
        have sx:vf P t (.agg xs):=.inl ⟨wI,xs,rfl⟩
        have sy:vf P t (.agg ys):=.inl ⟨wI,ys,rfl⟩
        have e1:=HP (ρ:=ρ) (P:=P) w 12 Op.maxDepth (by decide) t ks (.agg xs) (.agg ys) hfl sx sy kx ky
        refine⟨fun op oA=>?_,?_,by simp [V1.aq],by simp [V1.aq],by simp [V1.aq],by simp [V1.aq]⟩
        ·rcases oA with rfl | rfl<;>simp [eqGuard,V1.aq,program,Sem.run,hg]
        ·rw [QB ρ h]
         exact e1
  ·cases h
 ·-- single cells
  rename_i x' y'
  split at h
  ·-- atB
   rename_i ht
   have hk:=abf (eB hT ht)
   split at h
   ·rename_i a1 ka b1 kb h1 h2
    cases h
    have e1:=ff ρ h1
    have e2:=ff ρ h2
    refine⟨fun op oA=>?_,?_,by simp [V1.aq,e1],by simp [V1.aq,e1],by simp [V1.aq,e1],by simp [V1.aq,e1]⟩
    ·rcases oA with rfl | rfl<;>simp [eqGuard,V1.aq,e1,e2]
    ·rw [nF,Op.equalIn];simp [V1.aq,e1,e2,bJ hk]
   ·cases h
  ·-- akS
   rename_i ht
   obtain⟨el,hk⟩:=agD (eB hT ht)
   split at h<;>cases h <;>
    (refine⟨fun op oA=>?_,?_,by simp [V1.aq,Cell.aq],by simp [V1.aq,Cell.aq],by simp [V1.aq,Cell.aq],by simp [V1.aq,Cell.aq]⟩
     ·rcases oA with rfl | rfl<;>simp [eqGuard,V1.aq,Cell.aq]
     ·rw [nF,Op.equalIn];simp [V1.aq,Cell.aq,bJ hk])
  ·-- interface values
   rename_i ht
   obtain⟨ms,hk⟩:=W4 (eB hT ht)
   split at h
   ·split at h
    ·rename_i amq
     cases h
     refine⟨fun op oA=>?_,?_,by simp [V1.aq,Cell.aq],by simp [V1.aq,Cell.aq],by simp [V1.aq,Cell.aq],by simp [V1.aq,Cell.aq]⟩
     ·rcases oA with rfl | rfl<;>cases x<;>cases y<;>first | (exact absurd amq (by decide)) | (simp [Sx.sB] at amq;done) | simp [eqGuard,V1.aq,Cell.aq]
     ·rw [nF,Op.equalIn];simp [V1.aq,Cell.aq,bJ hk]
    ·cases h
   ·cases h
    refine⟨fun op oA=>?_,?_,by simp [V1.aq,Cell.aq],by simp [V1.aq,Cell.aq],by simp [V1.aq,Cell.aq],by simp [V1.aq,Cell.aq]⟩
    ·rcases oA with rfl | rfl<;>simp [eqGuard,V1.aq,Cell.aq]
    ·rw [nF,Op.equalIn];simp [V1.aq,Cell.aq,bJ hk]
   ·cases h
    refine⟨fun op oA=>?_,?_,by simp [V1.aq,Cell.aq],by simp [V1.aq,Cell.aq],by simp [V1.aq,Cell.aq],by simp [V1.aq,Cell.aq]⟩
    ·rcases oA with rfl | rfl<;>simp [eqGuard,V1.aq,Cell.aq]
    ·rw [nF,Op.equalIn];simp [V1.aq,Cell.aq,bJ hk]
   ·cases h
  ·-- slices
   rename_i ht
   obtain⟨el,hk,_⟩:=ow (eB hT ht)
   split at h
   ·rename_i b hb
    cases h
    unfold ak4 at hb
    split at hb<;>cases hb <;>
     (refine⟨fun op oA=>?_,?_,by simp [V1.aq,Cell.aq,bN],by simp [V1.aq,Cell.aq,bN],by simp [V1.aq,Cell.aq,bN],by simp [V1.aq,Cell.aq,bN]⟩
      ·rcases oA with rfl | rfl<;>simp [eqGuard,V1.aq,Cell.aq,bN]
      ·rw [nF,Op.equalIn];simp [V1.aq,Cell.aq,bN,bJ hk])
   ·cases h
  ·cases h
 ·cases h
theorem GA {x:V1} {l h:Int} (e:RH x=some (l,h)):∃k n b,oy (match x with | .c c=>c | _=>.iK)=some (k,n,b) /\ l<=n /\ n < h /\ ∃c,x=.c c:=by
 unfold RH at e
 split at e
 ·cases e;exact⟨_,_,_,rfl,by omega,by omega,_,rfl⟩
 ·rename_i k n lo hi hh
  cases e;exact⟨_,_,_,rfl,hh.1,hh.2,_,rfl⟩
 ·cases e
theorem Yp {op:BinOp} {l1 h1 l2 h2 a b:Int} {k:IntKind} {bb:Bool} (hc:acf op l1 h1 l2 h2=some bb) (p1:l1<=a) (p2:a < h1) (q1:l2<=b) (q2:b < h2) (lit:Bool):(rU op k a b lit).val=some (P0 bb lit):=by
 unfold acf at hc
 split at hc
 ·by_cases hA:h1<=l2
  ·have h3:a < b:=by omega
   simp [oV,hA] at hc;subst hc;simp [rU,T.val,h3]
  ·by_cases hB:h2<=l1+1
   ·have h3:¬a < b:=by omega
    simp [oV,hA,hB] at hc;subst hc;simp [rU,T.val,h3]
   ·simp [oV,hA,hB] at hc
 ·by_cases hA:h1<=l2+1
  ·have h3:a<=b:=by omega
   simp [oV,hA] at hc;subst hc;simp [rU,T.val,h3]
  ·by_cases hB:h2<=l1
   ·have h3:¬a<=b:=by omega
    simp [oV,hA,hB] at hc;subst hc;simp [rU,T.val,h3]
   ·simp [oV,hA,hB] at hc
 ·by_cases hA:h2<=l1
  ·have h3:a > b:=by omega
   simp [oV,hA] at hc;subst hc;simp [rU,T.val,h3]
  ·by_cases hB:h1<=l2+1
   ·have h3:¬a > b:=by omega
    simp [oV,hA,hB] at hc;subst hc;simp only [rU,T.val,h3,decide_false]
   ·simp [oV,hA,hB] at hc
 ·by_cases hA:h2<=l1+1
  ·have h3:a>=b:=by omega
   simp [oV,hA] at hc;subst hc;simp only [rU,T.val,h3,decide_true]
  ·by_cases hB:h1<=l2
   ·have h3:¬a>=b:=by omega
    simp [oV,hA,hB] at hc;subst hc;simp only [rU,T.val,h3,decide_false]
   ·simp [oV,hA,hB] at hc
 ·by_cases hA:h1<=l2
  ·have h3:(a==b)=false:=by simp;omega
   simp [oV,hA] at hc;subst hc;simp [rU,T.val,h3]
  ·by_cases hB:h2<=l1
   ·have h3:(a==b)=false:=by simp;omega
    simp [oV,hA,hB] at hc;subst hc;simp [rU,T.val,h3]
   ·simp [oV,hA,hB] at hc
 ·by_cases hA:h1<=l2
  ·have h3:(a != b)=true:=by simp;omega
   simp [oV,hA] at hc;subst hc;simp [rU,T.val,h3]
  ·by_cases hB:h2<=l1
   ·have h3:(a != b)=true:=by simp;omega
    simp [oV,hA,hB] at hc;subst hc;simp [rU,T.val,h3]
   ·simp [oV,hA,hB] at hc
 ·cases hc
theorem Xa {op:BinOp} {x y r:V1} (h:agH op x y=some r) {k k':IntKind} {a b:Int} {ka kb:Bool} (hb:Ih x y=some (k,a,ka,k',b,kb)) (lit:Bool):∃r0,(rU op k a b lit).val=some r0 /\ (∀ρ:Nm,r.aq ρ=r0.aq ρ) /\ jG H r:=by
 have hx:∃cx cy,x=.c cx /\ y=.c cy /\ oy cx=some (k,a,ka) /\ oy cy=some (k',b,kb):=by
  unfold Ih at hb
  split at hb
  ·rename_i cx cy
   split at hb
   ·rename_i h1
    split at hb
    ·rename_i h2
     cases hb
     exact⟨cx,cy,rfl,rfl,h1,h2⟩
    ·cases hb
   ·cases hb
  ·cases hb
 obtain⟨cx,cy,rfl,rfl,i1,i2⟩:=hx
 have main:∀r,(match ahZ op (.c cx) (.c cy) with
  | some r=>some r
  | none=>match RH (.c cx),RH (.c cy) with
    | some (l1,h1),some (l2,h2)=>match acf op l1 h1 l2 h2 with
      | some b=>some (.c (.bl b))
      | none=>none
    | _,_=>none)=some r->∃r0,(rU op k a b lit).val=some r0 /\ (∀ρ:Nm,r.aq ρ=r0.aq ρ) /\ jG H r:=by
  intro r h
  split at h
  ·rename_i r' ha
   cases h
   unfold ahZ at ha
   split at ha
   ·rename_i k1 a1 lo hi hh k2 m e1 e2
    cases e1;cases e2
    simp only [oy,aaC,aaF] at i1 i2
    obtain⟨rfl,rfl,rfl⟩:=i1
    obtain⟨rfl,rfl,rfl⟩:=i2
    split at ha
    ·split at ha
     ·split at ha
      ·rename_i h0
       cases ha
       have hm:(m != 0)=true:=by simp;omega
       refine⟨J4 k1 (a1.tmod m) lit,by simp [rU,hm,T.val],fun ρ=>?_,fV rfl⟩
       rw [yV];rfl
      ·cases ha
     ·cases ha
    ·cases ha
   ·rename_i k1 c k2 n lo hi hh e1 e2
    cases e1;cases e2
    simp only [oy,aaC,aaF] at i1 i2
    obtain⟨rfl,rfl,rfl⟩:=i1
    obtain⟨rfl,rfl,rfl⟩:=i2
    split at ha
    ·split at ha
     ·rename_i hd
      have hd:=aaV hd
      cases ha
      refine⟨J4 .i64 (IntKind.i64.wrap (c+n)) lit,by simp [rU,T.val],fun ρ=>?_,fV rfl⟩
      rw [yV,O9 (by omega)];rfl
     ·cases ha
    ·cases ha
   ·cases ha
  ·split at h
   ·rename_i l1 h1 l2 h2 r1 r2
    split at h
    ·rename_i bb hc
     cases h
     obtain⟨_,n1,_,j1,p1,p2,_⟩:=GA r1
     obtain⟨_,n2,_,j2,q1,q2,_⟩:=GA r2
     simp only at j1 j2
     rw [i1] at j1
     rw [i2] at j2
     simp only [aaC,aaF] at j1 j2
     obtain⟨rfl,rfl,rfl⟩:=j1
     obtain⟨rfl,rfl,rfl⟩:=j2
     exact⟨_,Yp hc p1 p2 q1 q2 lit,fun ρ=>by rw [su];rfl,fV rfl⟩
    ·cases h
   ·cases h
 unfold agH at h
 split at h
 ·cases h
 ·exact main r h
theorem Ti (ρ:Nm) {a b:V1} {s u:ByteArray} {k q:Bool} (h:YG a b=some (s,k,u,q)):a.aq ρ=.string s /\ b.aq ρ=.string u:=by
 unfold YG at h
 split at h
 ·split at h
  ·split at h
   ·rename_i _ _ h1 _ _ _ h2
    cases h
    exact⟨tW ρ h1,tW ρ h2⟩
   ·cases h
  ·cases h
 ·cases h
theorem strCat_eq (a b:ByteArray):Nl a b=a++b:=by
 apply ByteArray.ext
 rw [ByteArray.data_append]
 apply Array.toList_inj.1
 simp [Nl]
theorem strLen_eq (a:ByteArray):lF a=a.size:=by rw [lF,af6];rfl
theorem Nn {op:BinOp} {t:TypeId} {x y:Operand} {s u:ByteArray} {lit:Bool} {r:V1} {H:Hp AV} {ρ:Nm} (h:(Np op s u lit).val=some r) (w:World) :
 (do eqGuard op t x y (.string s) (.string u);binOp op t (.string s) (.string u)).run P w=.ok (r.aq ρ) w /\ jG H r:=by
 have eq:(s.toList==u.toList)=Db s u:=by rw [ByteArray.toList_eq,ByteArray.toList_eq,Db,bsEq_eq]
 unfold Np at h
 split at h
 ·cases h
  refine⟨?_,As _ _⟩
  rw [abA]
  simp [eqGuard,binOp,Op.stringOp,eq,su]
 ·cases h
  refine⟨?_,As _ _⟩
  rw [abA]
  simp [eqGuard,binOp,Op.stringOp,eq,su]
 ·obtain⟨h1,rfl⟩:=pU h
  refine⟨?_,agc _ _⟩
  have h1:=adI h1
  rw [strLen_eq,strLen_eq] at h1
  rw [abA]
  simp [eqGuard,binOp,Op.stringOp,aaR,strCat_eq]
  omega
 ·cases h
theorem acx (hT:fD P N) {op:BinOp} {t:TypeId} {x y:Operand} {a b r:V1} (h:(bin N op t (match Sx.sB x with | true=>true | false=>Sx.sB y) a b).val=some r) (hs:vO op=false) (w:World) :
 (do eqGuard op t x y (a.aq ρ) (b.aq ρ);binOp op t (a.aq ρ) (b.aq ρ)).run P w=.ok (r.aq ρ) w /\ jG H r:=by
 unfold bin at h
 split at h
 ·rename_i k a' ka k' b' kb hb
  obtain⟨e1,e2⟩:=Ig ρ hb
  split at h
  ·rename_i hk
   have hk:=aaV hk
   subst hk
   split at h
   ·rename_i r' hiv
    cases h
    unfold alH at hiv
    split at hiv
    ·rename_i k1 n1 cs h1 k2 c2
     simp only [V1.aq,Cell.aq,Value.int.injEq] at e1 e2
     obtain⟨rfl,rfl⟩:=e1
     obtain⟨rfl,rfl⟩:=e2
     split at hiv
     ·cases hiv
     ·rename_i hin
      have nB:∀(l:List Int) (m:Int),XH l m=true->m∈l:=by
       intro l
       induction l with
       | nil=>intro m hm;simp [XH] at hm
       | cons y l ih =>
         intro m hm
         simp only [XH] at hm
         split at hm
         ·rename_i hd;rw [aaV hd];simp
         ·exact aby _ (ih m hm)
      have dA:=h1 c2 (nB cs c2 hin)
      have al6:¬n1=c2:=by simpa using dA
      split at hiv
      ·cases hiv
       refine⟨?_,fV rfl⟩
       rw [abA]
       simp [eqGuard,binOp,Op.intCmp,V1.aq,Cell.aq,al6]
      ·cases hiv
       refine⟨?_,fV rfl⟩
       rw [abA]
       simp [eqGuard,binOp,Op.intCmp,V1.aq,Cell.aq,al6]
      ·cases hiv
    ·cases hiv
   ·split at h
    ·rename_i r' hir
     cases h
     rw [e1,e2]
     obtain⟨r0,h0,h1,h2⟩:=Xa hir hb (match ka with | true=>kb | false=>false)
     obtain⟨g1,g2⟩:=ME (ρ:=ρ) (H:=H) (t:=t) h0 hs x y w
     exact⟨by rw [g1,h1 ρ],h2⟩
    ·rw [e1,e2]
     exact ME h hs x y w
  ·cases h
 ·split at h
  ·rename_i a' ka b' kb hb
   obtain⟨e1,e2⟩:=Ti ρ hb
   rw [e1,e2]
   exact Nn h w
  ·split at h
   ·-- ==
    unfold ak0 at h
    split at h
    ·rename_i r' k' he
     cases h
     obtain⟨hg,heq,n1,n2,n3,n4⟩:=QA (ρ:=ρ) hT he w
     refine⟨?_,As _ _⟩
     rw [abA,hg .eql (.inl rfl),abz]
     have:binOp .eql t (a.aq ρ) (b.aq ρ)=(do pure (.bool (<- Op.equal t (a.aq ρ) (b.aq ρ)))):=by
      cases hv:a.aq ρ<;>simp_all [binOp]
     rw [this,abA,heq]
     simp [su]
    ·cases h
   ·unfold akZ at h
    split at h
    ·rename_i r' k' he
     cases h
     obtain⟨hg,heq,n1,n2,n3,n4⟩:=QA (ρ:=ρ) hT he w
     refine⟨?_,As _ _⟩
     rw [abA,hg .neq (.inr rfl),abz]
     have:binOp .neq t (a.aq ρ) (b.aq ρ)=(do pure (.bool (!(<- Op.equal t (a.aq ρ) (b.aq ρ))))):=by
      cases hv:a.aq ρ<;>simp_all [binOp]
     rw [this,abA,heq]
     simp [su]
    ·cases h
   ·cases h
theorem rQ {ρ:Nm} {H:Hp AV} {ev:Operand->Option SV} {e:Operand->Value} (dy:Gg ρ H ev e):∀{l:List Operand} {vs:List SV},Gb ev l=some vs->l.map e=vs.map (SV.aq ρ) /\ ∀v∈vs,fh H v
 | [],vs,h=>by cases h;simp
 | x::r,vs,h=>by
   simp only [Gb] at h
   split at h
   ·rename_i v hx
    split at h
    ·rename_i l hl
     cases h
     have ih:=rQ dy hl
     refine⟨by simp [ih.1,dy.aq _ _ hx],fun y hy=>?_⟩
     rcases abk.1 hy with rfl | hy
     ·exact dy.cl _ _ hx
     ·exact ih.2 y hy
    ·cases h
   ·cases h
end
section
variable {AV:Type} {P:Program} {N:dV AV} {ρ:Nm} {H:Hp AV} {ev:Operand->Option SV} {e:Operand->Value}
theorem pe {H:Hp AV} {c d:Cell} (h:fh H (.v (.c c))) (hn:d.name=c.name):fh H (.v (.c d)):=by
 intro x hx n za
 simp [V1.cells] at hx
 subst hx
 exact h c (by simp [V1.cells]) n (by rw [<- hn];exact za)
theorem Th (hT:fD P N) (dy:Gg ρ H ev e) {t:TypeId} {parts:Array (Nat×Operand)} {fs:List cI} {sz:Nat} {z l:List Cell} {fl:Option (List FK)} {ps:List (Nat×V1)}
 (ht:N.tt.get t=some ⟨.struct fs,sz,some z,fl⟩) (hp:zh ev parts.toList=some ps) (hf:HD fs z ps=some l) (w:World) :
 (Instr.build t (parts.map fun(i,x)=>(i,e x))).run P w=.ok (.agg (aA ρ l).toArray) w /\ mL H l:=by
 obtain⟨a,hu,qe⟩:=AA (eB hT ht)
 obtain⟨v,hz,hzc,Jr⟩:=yo hT ht rfl ρ
 obtain⟨hp1,hp2⟩:=zg dy hp
 have Zg:∀(r:List Field) (q:List cI),JE P r=some q->∀w,(r.mapM (fun(f:Field)=>do pure (f.offset,<- sizeOf f.type)):Sem (List (Nat×Nat))).run P w=.ok (q.map fun f=>(f.off,f.size)) w:=by
  intro r
  induction r with
  | nil=>intro q h w;cases h;simp
  | cons g r ih =>
    intro q h w
    simp only [JE] at h
    split at h
    ·rename_i n ag q' h1 h2 h3
     cases h
     have:=ih q' h3 w
     simp only [List.mapM_cons,abA,dD h1 w,abz,abC,this,abv]
    ·cases h
 have aqH:=Zg a.toList fs qe w
 have On:(a.mapM (fun(f:Field)=>do pure (f.offset,<- sizeOf f.type)):Sem (Array (Nat×Nat)))=(fun l=>l.toArray) <$> (a.toList.mapM (fun(f:Field)=>do pure (f.offset,<- sizeOf f.type)):Sem (List (Nat×Nat))):=by
  rw [<- afe (xs:=a),List.mapM_toArray]
 have BH:=Ma (P:=P) (ρ:=ρ) (H:=H) (fs:=a.toList) (l:=fs) qe (fun i=>((fs.map fun f=>(f.off,f.size)).toArray)[i]?) (by
  intro i f hi
  have:=DM hi
  simp [this]) ps z l hf (iz Jr) hp2
 refine⟨?_,BH.2⟩
 have Xd:v.cells=(aA ρ z).toArray:=by rw [<- hzc]
 have Ol:(parts.map fun(x:Nat×Operand)=>match x with | (i,x)=>(i,e x)).toList=ps.map fun p=>(p.1,p.2.aq ρ):=by
  rw [<- hp1]
  simp
 unfold Instr.build
 simp only [abA,hz,abz,bJ hu,On,Sem.run_map,aqH]
 rw [Xd]
 have h3:=BH.1
 rw [<- Ol] at h3
 simp only [h3]
 rfl
theorem OX (hT:fD P N) (dy:Gg ρ H ev e) {t:TypeId} {parts:Array (Nat×Operand)} {len Gc sz:Nat} {ag:Bool} {z l:List Cell} {fl:Option (List FK)} {ps:List (Nat×V1)}
 (ht:N.tt.get t=some ⟨.fW len Gc ag,sz,some z,fl⟩) (hp:zh ev parts.toList=some ps) (hf:xe Gc z ps=some l) (w:World) :
 (Instr.build t (parts.map fun(i,x)=>(i,e x))).run P w=.ok (.agg (aA ρ l).toArray) w /\ mL H l:=by
 obtain⟨el,hu,sD,wI⟩:=AB (eB hT ht)
 obtain⟨v,hz,hzc,Jr⟩:=yo hT ht rfl ρ
 obtain⟨hp1,hp2⟩:=zg dy hp
 have BH:=AW (ρ:=ρ) (H:=H) Gc ps z l hf (iz Jr) hp2
 refine⟨?_,BH.2⟩
 have Xd:v.cells=(aA ρ z).toArray:=by rw [<- hzc]
 have Ol:(parts.map fun(x:Nat×Operand)=>match x with | (i,x)=>(i,e x)).toList=ps.map fun p=>(p.1,p.2.aq ρ):=by
  rw [<- hp1]
  simp
 unfold Instr.build
 simp only [abA,hz,abz,bJ hu,dD sD]
 rw [Xd]
 have h3:=BH.1
 rw [<- Ol] at h3
 simp only [h3]
 rfl
theorem BP:∀{l:List SV} {cs:List Cell},JR l=some cs->(∀ρ:Nm,l.map (SV.aq ρ)=aA ρ cs) /\ ∀c∈cs,∀{H:Hp AV},(∀x∈l,fh H x)->ClC H c
 | [],cs,h=>by cases h;exact⟨fun _=>rfl,fun c hc=>by cases hc⟩
 | .v (.c c)::r,cs,h=>by
   simp only [JR] at h
   split at h
   ·rename_i q hq
    cases h
    obtain⟨h1,h2⟩:=BP hq
    refine⟨fun ρ=>by rw [abv,h1 ρ];rfl,fun d hd H hx=>?_⟩
    rcases abk.1 hd with rfl | hd
    ·exact hx (.v (.c d)) (by simp) d (by simp [V1.cells])
    ·exact h2 d hd fun x Jt=>hx x (by simp [Jt])
   ·cases h
 | .v (.agg _)::_,cs,h=>by cases h
 | .ji _::_,cs,h=>by cases h
 | .lE::_,cs,h=>by cases h
 | .wJ _ _::_,cs,h=>by cases h
theorem cutTx_eq (s:ByteArray) (l h:Nat):QI s l h=s.extract l h:=by
 apply ByteArray.ext
 apply Array.toList_inj.1
 simp [QI,ByteArray.data_extract,List.drop_take]
theorem Ik {x:SV} {n:Int} {k:Bool} (h:ahW x=some (n,k)) (ρ:Nm):∃ik,x.aq ρ=.int ik n:=by
 unfold ahW at h
 split at h
 ·rename_i c
  split at h
  ·rename_i ik m k' hc
   cases h
   exact⟨ik,fC ρ hc⟩
  ·cases h
 ·cases h
theorem aaQ (H:Hp AV) (s:ByteArray) (k:Bool):fh H (.v (mkS s k)):=by
 intro c hc m hm
 cases k<;>· simp [mkS,V1.cells] at hc;subst hc;cases hm
theorem Wt (ρ:Nm) (s:ByteArray) (k:Bool):(SV.v (mkS s k)).aq ρ=.string s:=by
 cases k<;>rfl
theorem OB {ev:Operand->Value} {o:Oper} {t:TypeId} {x:Operand} {lo hi:Option Operand} {w:World} (ho:o.op=.slice t x lo hi none) (hu:P.underlying t=some .string)
 {s:ByteArray} {l h:Nat} {m:Nat} (hx:ev x=.string s) (hb:(Instr.sliceBounds false s.size s.size (lo.map ev) (hi.map ev) none).run P w=.ok (l,h,m) w) :
 (execOp ev o).run P w=.ok (.value (.string (QI s l h))) w:=by
 obtain⟨dst,op,ty,I5,after,guard⟩:=o
 simp only at ho
 subst ho
 rw [cutTx_eq]
 simp [execOp,hx,run_sliceAt_string w t _ _ _ _ hu,Instr.slice,run_underlying hu,hb,Result.andThen]
theorem ON (w:World) {e:Operand->Value} {lo hi:Option Operand} {ev:Operand->Option SV} {H:Hp AV} {ρ:Nm} (dy:Gg ρ H ev e) {s:ByteArray} {l h:Int} {k k':Bool} (hl:Cf ev 0 lo=some (l,k)) (hh:Cf ev (lF s) hi=some (h,k')) (b:0<=l /\ l<=h /\ h<=(lF s:Int)) :
 ∃m,(Instr.sliceBounds false s.size s.size (lo.map e) (hi.map e) none).run P w=.ok (l.toNat,h.toNat,m) w:=by
 obtain⟨b1,b2,b3⟩:=b
 have es:(lF s)=s.size:=strLen_eq s
 rw [es] at b3
 have gl:∀x,lo=some x->∃ik,e x=.int ik l:=fun x hx=>by
  subst hx
  unfold Cf at hl
  split at hl
  ·rename_i hx;cases hx
  ·rename_i y v hv
   cases hv
   split at hl
   ·rename_i v' hv'
    rw [dy.aq _ _ hv']
    exact Ik hl ρ
   ·cases hl
 have gh:∀x,hi=some x->∃ik,e x=.int ik h:=fun x hx=>by
  subst hx
  unfold Cf at hh
  split at hh
  ·rename_i hx;cases hx
  ·rename_i y v hv
   cases hv
   split at hh
   ·rename_i v' hv'
    rw [dy.aq _ _ hv']
    exact Ik hh ρ
   ·cases hh
 cases lo with
 | none =>
   cases hl
   cases hi with
   | none =>
     cases hh
     refine⟨s.size,?_⟩
     have e4:(lF s:Int).toNat=s.size:=by rw [strLen_eq];rfl
     rw [e4]
     simp [Instr.sliceBounds,Result.andThen]
   | some y =>
     obtain⟨jk,e5⟩:=gh y rfl
     have hb:=run_sliceBound (P:=P) w jk h s.size .sliceAlen b2 (by omega)
     exact⟨s.size,by simp [Instr.sliceBounds,e5,hb,Result.andThen]⟩
 | some x =>
   obtain⟨ik,e3⟩:=gl x rfl
   cases hi with
   | none =>
     cases hh
     have e4:(lF s:Int).toNat=s.size:=by rw [strLen_eq];rfl
     rw [e4]
     have hb:=run_sliceBound (P:=P) w ik l s.size .sliceB b1 (by rw [es] at b2;omega)
     exact⟨s.size,by simp [Instr.sliceBounds,e3,hb,Result.andThen]⟩
   | some y =>
     obtain⟨jk,e5⟩:=gh y rfl
     have hb:=run_sliceBound (P:=P) w jk h s.size .sliceAlen (by omega) (by omega)
     have XG:=run_sliceBound (P:=P) w ik l h.toNat .sliceB b1 (by omega)
     exact⟨s.size,by simp [Instr.sliceBounds,e3,e5,hb,XG,Result.andThen]⟩
theorem DC (hT:fD P N) (dy:Gg ρ H ev e) {o:Oper} {t:T SV} {v:SV} (h:uk N ev o.op=some t) (hv:t.val=some v) (w:World) :
 (execOp e o).run P w=.ok (.value (v.aq ρ)) w /\ fh H v:=by
 obtain⟨dst,op,ty,I5,after,guard⟩:=o
 simp only at h
 unfold uk at h
 split at h
 ·-- move
  cases h
  split at hv
  ·rename_i x v' hx
   cases hv
   exact⟨by simp [execOp,dy.aq _ _ hx],dy.cl _ _ hx⟩
  ·cases hv
 ·-- assign
  cases h
  split at hv
  ·rename_i x v' hx
   cases hv
   exact⟨by simp [execOp,dy.aq _ _ hx],dy.cl _ _ hx⟩
  ·cases hv
 ·-- pick
  cases h
  split at hv
  ·rename_i c x y h1 h2 h3
   have e1:=dy.aq _ _ h1
   have e2:=dy.aq _ _ h2
   have e3:=dy.aq _ _ h3
   split at hv
   ·rename_i t' hb
    have M1:=ff ρ hb
    split at hv
    ·cases hv
     exact⟨by simp [execOp,e1,e2,SV.aq,V1.aq,M1,asBool],dy.cl _ _ h2⟩
    ·cases hv
     exact⟨by simp [execOp,e1,e3,SV.aq,V1.aq,M1,asBool],dy.cl _ _ h3⟩
   ·rename_i t' hb
    have M1:=ff ρ hb
    cases t' with
    | true=>cases hv;exact⟨by simp [execOp,e1,e2,SV.aq,V1.aq,M1,asBool],dy.cl _ _ h2⟩
    | false=>cases hv;exact⟨by simp [execOp,e1,e3,SV.aq,V1.aq,M1,asBool],dy.cl _ _ h3⟩
   ·cases hv
  ·cases hv
 ·-- build
  cases h
  split at hv
  ·rename_i fs sz z fl ps h1 h2
   split at hv
   ·rename_i l hl
    cases hv
    obtain⟨b1,b2⟩:=Th hT dy h1 h2 hl w
    refine⟨?_,b2⟩
    simp only [execOp,abA]
    erw [b1]
    rfl
   ·cases hv
  ·rename_i len Gc sz z fl ps h1 h2
   split at hv
   ·rename_i l hl
    cases hv
    obtain⟨b1,b2⟩:=OX hT dy h1 h2 hl w
    refine⟨?_,b2⟩
    simp only [execOp,abA]
    erw [b1]
    rfl
   ·cases hv
  ·cases hv
 ·-- nilCheck
  cases h
  split at hv
  ·rename_i n off h1
   cases hv
   exact⟨by simp [execOp,dy.aq _ _ h1,SV.aq,V1.aq,Cell.aq],dy.cl _ _ h1⟩
  ·rename_i h1
   cases hv
   exact⟨by simp [execOp,dy.aq _ _ h1,SV.aq,V1.aq,Cell.aq],dy.cl _ _ h1⟩
  ·rename_i h1
   cases hv
   exact⟨by simp [execOp,dy.aq _ _ h1,SV.aq,V1.aq,Cell.aq],dy.cl _ _ h1⟩
  ·rename_i h1
   cases hv
   exact⟨by simp [execOp,dy.aq _ _ h1,SV.aq,V1.aq,Cell.aq],dy.cl _ _ h1⟩
  ·rename_i h1
   cases hv
   exact⟨by simp [execOp,dy.aq _ _ h1,SV.aq],dy.cl _ _ h1⟩
  ·cases hv
 ·-- makeFunc
  rename_i fn0 XV Tf
  cases h
  split at hv
  ·rename_i f l h1 h2
   split at hv
   ·rename_i cs hcs
    cases hv
    obtain⟨e1,e2⟩:=rQ dy h2
    obtain⟨e3,e4⟩:=BP hcs
    refine⟨?_,fun c hc=>e4 c hc (fun x hx=>e2 x hx)⟩
    have abB:Tf.map e=(aA ρ cs).toArray:=by
     rw [<- e3 ρ,<- e1,<- Array.toList_map,afe]
    have ag3:XV.map e=#[]:=by
     rw [<- afe (xs:=XV.map e),Array.toList_map,h1];rfl
    simp only [execOp,abA,Instr.makeFunc,abC,abz,SV.aq,abB,ag3]
   ·cases hv
  ·cases hv
 ·-- fieldAddr
  rename_i t0 x0 i0
  cases h
  have hfs:∀{t:TypeId} {fs:List cI},ze N t=some fs->∃a,P.underlying t=some (.struct a) /\ JE P a.toList=some fs:=by
   intro t fs hf
   unfold ze at hf
   split at hf
   ·rename_i ht;cases hf;exact AA (eB hT ht)
   ·cases hf
  split at hv
  ·rename_i n off fs h1 h2
   obtain⟨a,hu,qe⟩:=hfs h2
   split at hv
   ·rename_i f hf
    obtain⟨g,hg,ho,sD,_⟩:=CH qe hf
    split at hv
    ·rename_i hz
     have hz:=(bE _ _).1 hz
     cases hv
     refine⟨?_,pe (dy.cl _ _ h1) rfl⟩
     have FJ:a[i0]?=some g:=by simpa using hg
     simp only [execOp,abA,Instr.fieldAt,bJ hu,abz,FJ,dy.aq _ _ h1,SV.aq,V1.aq,Cell.aq,Instr.sureAddr,abC,fieldPlace,dD sD,if_neg hz]
     simp only [Addr.add]
     split
     ·rename_i h0;simp [ho,h0]
     ·simp [ho]
    ·cases hv
   ·cases hv
  ·rename_i n o' k' es off fs h1 h2
   obtain⟨a,hu,qe⟩:=hfs h2
   split at hv
   ·rename_i f hf
    obtain⟨g,hg,ho,sD,_⟩:=CH qe hf
    split at hv
    ·rename_i hz
     have hz:=(bE _ _).1 hz
     cases hv
     refine⟨?_,pe (dy.cl _ _ h1) rfl⟩
     have FJ:a[i0]?=some g:=by simpa using hg
     simp only [execOp,abA,Instr.fieldAt,bJ hu,abz,FJ,dy.aq _ _ h1,SV.aq,V1.aq,Cell.aq,Instr.sureAddr,abC,fieldPlace,dD sD,if_neg hz]
     simp only [Addr.add]
     split
     ·rename_i h0;simp [ho,h0]
     ·simp [ho,aej]
    ·cases hv
   ·cases hv
  ·cases hv
 ·-- field
  rename_i t0 x0 i0
  cases h
  split at hv
  ·rename_i l fs h1 h2
   unfold ze at h2
   split at h2
   ·rename_i ht
    cases h2
    obtain⟨a,hu,qe⟩:=AA (eB hT ht)
    split at hv
    ·rename_i f hf
     obtain⟨g,hg,ho,sD,wI⟩:=CH qe hf
     unfold one at hv
     split at hv
     ·rename_i x hx
      cases hv
      have hpr:=yK (ρ:=ρ) wI sD hx w
      refine⟨?_,DE hx (dy.cl _ _ h1)⟩
      have FJ:a[i0]?=some g:=by simpa using hg
      simp only [execOp,abA,Instr.field,bJ hu,abz,FJ,dy.aq _ _ h1,SV.aq,V1.aq,asAgg,abC,<- ho,hpr]
     ·cases hv
    ·cases hv
   ·cases h2
  ·cases hv
 ·-- binOp
  cases h
  split at hv
  ·rename_i a b h1 h2
   split at hv
   ·rename_i hs
    rw [T.fR] at hv
    obtain⟨r,hr,rfl⟩:=abu.1 hv
    unfold U5 at hr
    split at hr
    ·rename_i k' a' ka kk b' kb hb
     obtain⟨e1,e2⟩:=Ig ρ hb
     obtain⟨hk,rfl⟩:=pU hr
     have hk:¬b' < 0:=by have:=aaV hk;omega
     refine⟨?_,Jj _ _ _⟩
     simp only [execOp,dy.aq _ _ h1,dy.aq _ _ h2,SV.aq,e1,e2]
     rw [abA,RE hs hk,yV]
     rfl
    ·cases hr
   ·rename_i hs
    rw [T.fR] at hv
    obtain⟨r,hr,rfl⟩:=abu.1 hv
    obtain⟨b1,b2⟩:=acx (ρ:=ρ) (H:=H) hT hr hs w
    refine⟨?_,b2⟩
    simp only [execOp,dy.aq _ _ h1,dy.aq _ _ h2,SV.aq]
    rw [abA,b1]
    rfl
  ·cases hv
 ·-- not
  cases h
  split at hv
  ·rename_i c h1
   split at hv
   ·rename_i b k hb
    cases hv
    refine⟨?_,As _ _⟩
    have e1:e _=.bool b:=(dy.aq _ _ h1).trans (ff ρ hb)
    simp [execOp,e1,Op.unary,SV.aq,su]
   ·cases hv
  ·cases hv
 ·-- neg
  cases h
  split at hv
  ·rename_i c h1
   split at hv
   ·rename_i k n l hb
    cases hv
    refine⟨?_,fun c hc=>Jj _ _ _ c hc⟩
    have e1:e _=.int k n:=(dy.aq _ _ h1).trans (fC ρ hb)
    simp [execOp,e1,Op.unary,Op.intArith,SV.aq,yV]
   ·cases hv
  ·cases hv
 ·-- a part of a text
  rename_i t' x lo hi mx
  split at h
  ·rename_i htx
   cases h
   cases mx with
   | some _=>cases htx
   | none =>
     unfold ahS at hv
     split at hv
     ·rename_i h1 h2
      split at hv
      ·rename_i s ks hs
       split at hv
       ·rename_i l k h' k' hl hh
        obtain⟨hb,hv⟩:=fN hv
        cases hv
        obtain⟨m,hm⟩:=ON (P:=P) w dy hl hh (aaV hb)
        refine⟨?_,aaQ _ _ _⟩
        have e1:e x=.string s:=(dy.aq _ _ h2).trans (tW ρ hs)
        have:=OB (P:=P) (ev:=e) (o:=⟨dst,.slice t' x lo hi none,ty,I5,after,guard⟩) (w:=w) rfl (Ek (eB hT h1)) e1 hm
        rw [Wt]
        exact this
       ·cases hv
      ·cases hv
     ·cases hv
  ·cases h
 ·-- extract
  cases h
  split at hv
  ·rename_i l h1
   split at hv
   ·rename_i x hx
    cases hv
    have:=DM hx
    refine⟨?_,(dy.cl _ _ h1) x (ab8 this)⟩
    simp [execOp,dy.aq _ _ h1,SV.aq,Instr.extract,this]
   ·cases hv
  ·cases hv
 ·-- makeInterface
  cases h
  split at hv
  ·rename_i c k _ _ _ h1 h2
   split at hv
   ·cases hv
   ·rename_i dA
    cases hv
    obtain⟨d,hd,tC⟩:=Jp (eB hT h2) (fun hk=>dA hk)
    refine⟨?_,pe (dy.cl _ _ h1) rfl⟩
    simp only [execOp,abA,Instr.makeInterface,bJ hd,abz,dy.aq _ _ h1,SV.aq,V1.aq,Cell.aq]
    cases d<;>first | rfl | exact absurd rfl (tC _)
  ·cases hv
 ·-- indexAddr
  cases h
  split at hv
  ·rename_i n off kk k len sz ag _ _ _ h1 h2 h3
   obtain⟨el,hu,sD,wI⟩:=AB (eB hT h3)
   split at hv
   ·rename_i hk
    have hk:=aaV hk
    cases hv
    refine⟨?_,pe (dy.cl _ _ h1) rfl⟩
    simp only [execOp,abA,Instr.indexAt,dy.aq _ _ h1,dy.aq _ _ h2,SV.aq,V1.aq,Cell.aq,asIntOf,abC,abz,bJ hu,Instr.sureAddr,hk,and_self,if_true,dD sD]
    simp only [Addr.add]
    split
    ·rename_i h0;simp [h0]
    ·rfl
   ·cases hv
  ·rename_i n k0 e0 off kk k len sz ag _ _ _ h1 h2 h3
   obtain⟨el,hu,sD,wI⟩:=AB (eB hT h3)
   split at hv
   ·rename_i hk
    have hk:=aaV hk
    cases hv
    refine⟨?_,pe (dy.cl _ _ h1) rfl⟩
    simp only [execOp,abA,Instr.indexAt,dy.aq _ _ h1,dy.aq _ _ h2,SV.aq,V1.aq,Cell.aq,asIntOf,abC,abz,bJ hu,Instr.sureAddr,hk,and_self,if_true,dD sD]
    simp only [Addr.add]
    split
    ·rename_i h0;simp [h0]
    ·simp [aej]
   ·cases hv
  ·rename_i n o' len cp kk k sz _ _ _ h1 h2 h3
   obtain⟨el,hu,sD⟩:=ow (eB hT h3)
   split at hv
   ·rename_i hk
    have hk:=aaV hk
    cases hv
    refine⟨?_,pe (dy.cl _ _ h1) rfl⟩
    simp only [execOp,abA,Instr.indexAt,dy.aq _ _ h1,dy.aq _ _ h2,SV.aq,V1.aq,Cell.aq,asIntOf,abC,abz,bJ hu,hk,and_self,if_true,dD sD]
    simp only [Addr.add]
    split
    ·rename_i h0;simp [h0]
    ·rfl
   ·cases hv
  ·rename_i n o' len es kn ix sz _ _ _ h1 h2 h3
   obtain⟨el,hu,sD⟩:=ow (eB hT h3)
   split at hv
   ·rename_i Jz
    have Jz:=(aC _ _).1 Jz
    subst Jz
    split at hv
    ·rename_i kk k lit hi
     obtain⟨hk,hv⟩:=pU hv
     have hk:=aaV hk
     subst hv
     refine⟨?_,pe (dy.cl _ _ h1) rfl⟩
     have Ty:¬(len=0 /\ (ρ.L n).c=0):=by omega
     simp only [execOp,abA,Instr.indexAt,dy.aq _ _ h1,dy.aq _ _ h2,SV.aq,V1.aq,Cell.aq,bN,if_neg Ty,fC ρ hi,asIntOf,abC,abz,bJ hu,hk,and_self,if_true,dD sD]
     simp only [Addr.add,aey]
     split
     ·rename_i h0;simp [h0,Nm.f]
     ·simp [Nm.f,aej]
    ·cases hv
   ·cases hv
  ·rename_i n off ix len sz ag _ _ _ _ h1 h2 h3
   obtain⟨el,hu,sD,wI⟩:=AB (eB hT h3)
   split at hv
   ·rename_i kk k lit hi _
    rw [T.fR] at hv
    obtain⟨j,hj,rfl⟩:=abu.1 hv
    obtain⟨rfl,du⟩:=Ou hj
    have hk:(0:Int)<=(j:Int) /\ (j:Int) < (len:Int):=by omega
    refine⟨?_,pe (dy.cl _ _ h1) rfl⟩
    simp only [execOp,abA,Instr.indexAt,dy.aq _ _ h1,dy.aq _ _ h2,SV.aq,V1.aq,Cell.aq,fC ρ hi,asIntOf,abC,abz,bJ hu,Instr.sureAddr,hk,and_self,if_true,dD sD]
    simp only [Addr.add,Int.toNat_natCast]
    split
    ·rename_i h0;simp [h0]
    ·rfl
   ·cases hv
  ·rename_i n k0 e0 off ix len sz ag _ _ _ _ h1 h2 h3
   obtain⟨el,hu,sD,wI⟩:=AB (eB hT h3)
   split at hv
   ·rename_i kk k lit hi
    obtain⟨hk,hv⟩:=fN hv
    have hk:=aaV hk
    cases hv
    refine⟨?_,pe (dy.cl _ _ h1) rfl⟩
    simp only [execOp,abA,Instr.indexAt,dy.aq _ _ h1,dy.aq _ _ h2,SV.aq,V1.aq,Cell.aq,fC ρ hi,asIntOf,abC,abz,bJ hu,Instr.sureAddr,hk,and_self,if_true,dD sD]
    simp only [Addr.add]
    split
    ·rename_i h0;simp [h0,offN_eq]
    ·simp only [offN_eq,aej,Nat.add_comm off]
   ·cases hv
  ·cases hv
 ·-- convert
  cases h
  split at hv
  ·rename_i c i0 k sz z fl h1 h2 h3
   split at hv
   ·rename_i kk n lit hi
    cases hv
    obtain⟨d0,hd0⟩:=abe (eB hT h2)
    have hd1:=agE (eB hT h3)
    refine⟨?_,Yn _ _ _ _⟩
    simp only [execOp,abA,convert,bJ hd0,bJ hd1,abz,dy.aq _ _ h1,SV.aq,V1.aq,fC ρ hi,Conv.intToInt,abC]
    exact congrArg (fun v=>Result.ok (Next.value v) w) (S7 ρ hi).symm
   ·cases hv
  ·cases hv
 ·-- index
  cases h
  split at hv
  ·rename_i s ix sz z fl h1 h2 h3
   split at hv
   ·rename_i kk n lit hi
    rw [T.fR] at hv
    obtain⟨v',hv',rfl⟩:=abu.1 hv
    obtain⟨hk,rfl⟩:=pU hv'
    have hk:=aaV hk
    have hd:=Ek (eB hT h3)
    refine⟨?_,Jj _ _ _⟩
    have du:n.toNat < s.data.toList.length:=by omega
    have e1:s[n.toNat]?=some (s.data.toList[n.toNat]):=by
     have SD:=du
     rw [af6] at SD
     have:n.toNat < s.size:=SD
     rw [getElem?_pos s n.toNat this]
     rfl
    have e2:Ie s n=((s.data.toList[n.toNat]).toNat:Int):=by
     unfold Ie
     rw [nth_eq,abj du]
    simp only [execOp,abA,Instr.index,dy.aq _ _ h1,dy.aq _ _ h2,SV.aq,V1.aq,Cell.aq,fC ρ hi,asIntOf,abC,abz,bJ hd,hk.1,if_true,e1,e2]
    cases lit<;>rfl
   ·cases hv
  ·rename_i s ix sz z fl h1 h2 h3
   split at hv
   ·rename_i kk n lit hi
    rw [T.fR] at hv
    obtain⟨v',hv',rfl⟩:=abu.1 hv
    obtain⟨hk,rfl⟩:=pU hv'
    have hk:=aaV hk
    have hd:=Ek (eB hT h3)
    refine⟨?_,fV rfl⟩
    have du:n.toNat < s.data.toList.length:=by omega
    have e1:s[n.toNat]?=some (s.data.toList[n.toNat]):=by
     have SD:=du
     rw [af6] at SD
     have:n.toNat < s.size:=SD
     rw [getElem?_pos s n.toNat this]
     rfl
    have e2:Ie s n=((s.data.toList[n.toNat]).toNat:Int):=by
     unfold Ie
     rw [nth_eq,abj du]
    simp only [execOp,abA,Instr.index,dy.aq _ _ h1,dy.aq _ _ h2,SV.aq,V1.aq,Cell.aq,fC ρ hi,asIntOf,abC,abz,bJ hd,hk.1,if_true,e1,e2]
   ·cases hv
  ·rename_i l kk k len sz ag _ _ _ h1 h2 h3
   obtain⟨el,hu,sD,wI⟩:=AB (eB hT h3)
   split at hv
   ·rename_i hk
    have hk:=aaV hk
    unfold one at hv
    split at hv
    ·rename_i x hx
     cases hv
     have hpr:=yK (ρ:=ρ) wI sD hx w
     refine⟨?_,DE hx (dy.cl _ _ h1)⟩
     simp only [execOp,abA,Instr.index,dy.aq _ _ h1,dy.aq _ _ h2,SV.aq,V1.aq,Cell.aq,asIntOf,abC,abz,bJ hu,hk,and_self,if_true,dD sD,hpr]
    ·cases hv
   ·cases hv
  ·cases hv
 ·-- len
  rename_i c
  split at h
  ·rename_i cH
   cases h
   obtain⟨cP,args,tys⟩:=c
   simp only at cH hv
   subst cH
   split at hv
   ·rename_i x t hx ht
    obtain rfl:args=#[x]:=by cases args;simp at hx;simp [hx]
    obtain rfl:tys=#[t]:=by cases tys;simp at ht;simp [ht]
    split at hv
    ·rename_i len _ _ _ _ _ h1 h2
     obtain⟨el,hu,_⟩:=ow (eB hT h2)
     cases hv
     refine⟨?_,fV rfl⟩
     simp [execOp,resolve,invoke,builtin,Builtin.len_,dy.aq _ _ h1,SV.aq,V1.aq,Cell.aq,bJ hu,goInt]
    ·rename_i h1 h2
     obtain⟨el,hu,_⟩:=ow (eB hT h2)
     cases hv
     refine⟨?_,fV rfl⟩
     simp [execOp,resolve,invoke,builtin,Builtin.len_,dy.aq _ _ h1,SV.aq,V1.aq,Cell.aq,bJ hu,goInt]
    ·rename_i h1 h2
     obtain⟨el,hu,_⟩:=ow (eB hT h2)
     cases hv
     refine⟨?_,fV rfl⟩
     simp [execOp,resolve,invoke,builtin,Builtin.len_,dy.aq _ _ h1,SV.aq,V1.aq,Cell.aq,bJ hu,goInt]
    ·rename_i n0 o0 es0 z0 f0 p0 _ _ _ _ h1 h2
     obtain⟨el,hu,_⟩:=ow (eB hT h2)
     cases hv
     refine⟨?_,fV rfl⟩
     have hbc:∃b c,bN (f0.ap (ρ.L n0)) 0 0 es0=.slice b 0 c:=by
      unfold bN
      split
      ·exact⟨_,_,rfl⟩
      ·exact⟨_,_,rfl⟩
     obtain⟨b,c,hbc⟩:=hbc
     simp [execOp,resolve,invoke,builtin,Builtin.len_,dy.aq _ _ h1,SV.aq,V1.aq,Cell.aq,hbc,bJ hu,goInt]
    ·rename_i n0 o0 len es0 kn _ _ _ _ h1 h2
     obtain⟨el,hu,_⟩:=ow (eB hT h2)
     cases hv
     refine⟨?_,by cases kn<;>exact fV rfl⟩
     have:∀l:l8,∀o e,∃b c,bN l o len e=.slice b len c:=by
      intro l o e
      unfold bN
      split
      ·rename_i h0;rw [h0.1];exact⟨_,_,rfl⟩
      ·exact⟨_,_,rfl⟩
     obtain⟨b,c,hbc⟩:=this (ρ.L n0) o0 es0
     cases kn<;>simp [execOp,resolve,invoke,builtin,Builtin.len_,dy.aq _ _ h1,SV.aq,V1.aq,Cell.aq,hbc,J4,bJ hu,goInt]
    ·rename_i s _ _ _ _ h1 h2
     have hu:=Ek (eB hT h2)
     cases hv
     refine⟨?_,fV rfl⟩
     simp [execOp,resolve,invoke,builtin,Builtin.len_,dy.aq _ _ h1,SV.aq,V1.aq,Cell.aq,bJ hu,goInt,lF,ByteArray.size_data,af6]
    ·rename_i s _ _ _ _ h1 h2
     have hu:=Ek (eB hT h2)
     cases hv
     refine⟨?_,fV rfl⟩
     simp [execOp,resolve,invoke,builtin,Builtin.len_,dy.aq _ _ h1,SV.aq,V1.aq,Cell.aq,bJ hu,goInt,lF,ByteArray.size_data,af6]
    ·cases hv
   ·cases hv
  ·cases h
 ·cases h
