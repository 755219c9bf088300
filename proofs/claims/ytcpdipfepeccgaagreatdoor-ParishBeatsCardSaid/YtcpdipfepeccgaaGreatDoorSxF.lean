import Derived.Test.YtcpdipfepeccgaaGreatDoorSxB
import Derived.Laws.Strings
import Derived.Laws.Small
import Derived.Laws.Slices
set_option linter.unusedVariables false
set_option linter.unusedSimpArgs false
set_option maxHeartbeats 4000000
namespace Go.Sx
variable {AV:Type} {P:Program} {N:Env AV} {ρ:Nm} {H:Hp AV} {ev:Operand->Option SV} {e:Operand->Value}
theorem iT {α:Type} {k b:Bool} {a x:α} (h:(jD k b a).val=some x):b=true /\ a=x:=by
 cases k<;>cases b<;>simp [jD,T.val] at h<;>exact⟨rfl,h⟩
theorem cm {α:Type} {b:Bool} {t:T α} {x:α} (h:(T.need b t).val=some x):b=true /\ t.val=some x:=by
 cases b with
 | false=>simp [T.val] at h
 | true=>exact⟨rfl,h⟩
theorem pz (hev:EvOk ρ H ev e):∀{l:List (Nat×Operand)} {ps:List (Nat×V1)},evlP ev l=some ps ->
 (l.map fun p=>(p.1,e p.2))=(ps.map fun p=>(p.1,p.2.den ρ)) /\ ∀p∈ps,ClV1 H p.2
 | [],ps,h=>by cases h;simp
 | (i,x)::r,ps,h=>by
   simp only [evlP] at h
   split at h
   ·rename_i v hx
    split at h
    ·rename_i l hl
     cases h
     have ih:=pz hev hl
     have hd:=hev.den x _ hx
     have hc:=hev.cl x _ hx
     refine⟨by simp [ih.1,hd,SV.den],fun p hp=>?_⟩
     rcases List.mem_cons.1 hp with rfl | hp
     ·exact hc
     ·exact ih.2 p hp
    ·cases h
   ·cases h
theorem gp (t:TypeId) (x y:Value):Op.equal t x y=Op.equalIn (9999+1) t x y:=rfl
theorem xq (ρ:Nm) {x y:V1} {k k':IntKind} {a b:Int} {ka kb:Bool} (h:uN x y=some (k,a,ka,k',b,kb)):x.den ρ=.int k a /\ y.den ρ=.int k' b:=by
 unfold uN at h
 split at h
 ·split at h
  ·rename_i h1
   split at h
   ·rename_i h2
    cases h
    exact⟨b6 ρ h1,b6 ρ h2⟩
   ·cases h
  ·cases h
 ·cases h
theorem AX {op:BinOp} {t:TypeId} {k:IntKind} {a b:Int} {lit:Bool} {r:V1} (h:(jH op k a b lit).val=some r) (hs:kD op=false) (x y:Operand) (w:World) :
 (do eqGuard op t x y (.int k a) (.int k b);binOp op t (.int k a) (.int k b)).run P w=.ok (r.den ρ) w /\ ClV1 H r:=by
 cases op<;>simp only [jH] at h<;>(first | (simp [kD] at hs;done) | (simp only [T.val,Option.some.injEq] at h;subst h) | (obtain⟨hb,h⟩:=cm h;simp only [T.val,Option.some.injEq] at h;subst h;have hb':¬b=0:=by simpa using hb) | (simp [T.val] at h;done)) <;>
  (refine⟨?_,by first | exact yj _ _ _ | exact qh _ _⟩;rw [Sem.run_bind];simp [eqGuard,binOp,Op.intArith,Op.intCmp,Op.intDiv,Op.intBits,JK,pf,kB, *])
theorem Ew {op:BinOp} {t:TypeId} {k k':IntKind} {a b:Int} (hs:kD op=true) (hk:¬b < 0) {x y:Operand} {w:World} :
 (do eqGuard op t x y (.int k a) (.int k' b);binOp op t (.int k a) (.int k' b)).run P w=.ok (.int k (shI op k a b)) w:=by
 cases op<;>simp [kD] at hs
 ·rw [Sem.run_bind];simp [eqGuard,binOp,Op.shift,hk,shI]
 ·rw [Sem.run_bind];simp [eqGuard,binOp,Op.shift,hk,shI]
theorem DN (hT:TblOk P N) {t:TypeId} {x y:Operand} {a b:V1} {r k:Bool} (h:eqV N t (match Sx.isConst x with | true=>true | false=>Sx.isConst y) a b=some (r,k)) (w:World) :
 (∀op,(op=.eql \/ op=.neq)->(eqGuard op t x y (a.den ρ) (b.den ρ)).run P w=.ok () w) /\ (Op.equal t (a.den ρ) (b.den ρ)).run P w=.ok r w /\ (∀k n,a.den ρ≠.int k n) /\ (∀s,a.den ρ≠.string s) /\ (∀k s,a.den ρ≠.float k s) /\ (∀k s z,a.den ρ≠.complex k s z):=by
 unfold eqV at h
 split at h
 ·-- structs
  rename_i xs ys
  split at h
  ·rename_i fs0 s0 z0 ks ht
   split at h
   ·cases h
   rename_i hkd
   obtain⟨inf,h1,h2,h3,h4,h5⟩:=kA (hT.ty t _ ht)
   simp only at h5
   cases hg:P.eqGuardType P.depth t with
   | true=>simp [hg] at h5
   | false =>
     simp only [hg] at h5
     split at h
     ·cases h
     ·rename_i kx
      split at h
      ·cases h
      ·rename_i ky
       have hfl:=h5.symm
       obtain⟨ag,hag⟩:=Ay hfl
       have hag':=E7 h2
       rw [hag'] at hag
       cases hag
       ·have hag:=hag'
        simp only [hkd] at hag
        have sx:l8 P t (.agg xs):=.inl ⟨hag,xs,rfl⟩
        have sy:l8 P t (.agg ys):=.inl ⟨hag,ys,rfl⟩
        have e1:=wZ (ρ:=ρ) (P:=P) w 12 Op.maxDepth (by decide) t ks (.agg xs) (.agg ys) hfl sx sy kx ky
        refine⟨fun op hop=>?_,?_,by simp [V1.den],by simp [V1.den],by simp [V1.den],by simp [V1.den]⟩
        ·rcases hop with rfl | rfl<;>simp [eqGuard,V1.den,program,Sem.run,hg]
        ·rw [DO ρ h]
         exact e1
  ·cases h
 ·-- single cells
  rename_i x' y'
  split at h
  ·-- bools
   rename_i ht
   have hk:=LF (bK hT ht)
   split at h
   ·rename_i a1 ka b1 kb h1 h2
    cases h
    have e1:=bY ρ h1
    have e2:=bY ρ h2
    refine⟨fun op hop=>?_,?_,by simp [V1.den,e1],by simp [V1.den,e1],by simp [V1.den,e1],by simp [V1.den,e1]⟩
    ·rcases hop with rfl | rfl<;>simp [eqGuard,V1.den,e1,e2]
    ·rw [gp,Op.equalIn];simp [V1.den,e1,e2,aJ hk]
   ·cases h
  ·-- pointers
   rename_i ht
   obtain⟨el,hk⟩:=Pt (bK hT ht)
   split at h<;>cases h <;>
    (refine⟨fun op hop=>?_,?_,by simp [V1.den,Cell.den],by simp [V1.den,Cell.den],by simp [V1.den,Cell.den],by simp [V1.den,Cell.den]⟩
     ·rcases hop with rfl | rfl<;>simp [eqGuard,V1.den,Cell.den]
     ·rw [gp,Op.equalIn];simp [V1.den,Cell.den,aJ hk])
  ·-- interface values
   rename_i ht
   obtain⟨ms,hk⟩:=IQ (bK hT ht)
   split at h
   ·split at h
    ·rename_i hcst
     cases h
     refine⟨fun op hop=>?_,?_,by simp [V1.den,Cell.den],by simp [V1.den,Cell.den],by simp [V1.den,Cell.den],by simp [V1.den,Cell.den]⟩
     ·rcases hop with rfl | rfl<;>cases x<;>cases y<;>first | (exact absurd hcst (by decide)) | (simp [Sx.isConst] at hcst;done) | simp [eqGuard,V1.den,Cell.den]
     ·rw [gp,Op.equalIn];simp [V1.den,Cell.den,aJ hk]
    ·cases h
   ·cases h
    refine⟨fun op hop=>?_,?_,by simp [V1.den,Cell.den],by simp [V1.den,Cell.den],by simp [V1.den,Cell.den],by simp [V1.den,Cell.den]⟩
    ·rcases hop with rfl | rfl<;>simp [eqGuard,V1.den,Cell.den]
    ·rw [gp,Op.equalIn];simp [V1.den,Cell.den,aJ hk]
   ·cases h
    refine⟨fun op hop=>?_,?_,by simp [V1.den,Cell.den],by simp [V1.den,Cell.den],by simp [V1.den,Cell.den],by simp [V1.den,Cell.den]⟩
    ·rcases hop with rfl | rfl<;>simp [eqGuard,V1.den,Cell.den]
    ·rw [gp,Op.equalIn];simp [V1.den,Cell.den,aJ hk]
   ·cases h
  ·-- slices
   rename_i ht
   obtain⟨el,hk,_⟩:=gL (bK hT ht)
   split at h
   ·rename_i b hb
    cases h
    unfold Pd at hb
    split at hb<;>cases hb <;>
     (refine⟨fun op hop=>?_,?_,by simp [V1.den,Cell.den,aG],by simp [V1.den,Cell.den,aG],by simp [V1.den,Cell.den,aG],by simp [V1.den,Cell.den,aG]⟩
      ·rcases hop with rfl | rfl<;>simp [eqGuard,V1.den,Cell.den,aG]
      ·rw [gp,Op.equalIn];simp [V1.den,Cell.den,aG,aJ hk])
   ·cases h
  ·cases h
 ·cases h
theorem vK {x:V1} {l h:Int} (e:EB x=some (l,h)):∃k n b,eI (match x with | .c c=>c | _=>.pnil)=some (k,n,b) /\ l<=n /\ n < h /\ ∃c,x=.c c:=by
 unfold EB at e
 split at e
 ·cases e;exact⟨_,_,_,rfl,by omega,by omega,_,rfl⟩
 ·rename_i k n lo hi hh
  cases e;exact⟨_,_,_,rfl,hh.1,hh.2,_,rfl⟩
 ·cases e
theorem Jw {op:BinOp} {l1 h1 l2 h2 a b:Int} {k:IntKind} {bb:Bool} (hc:Mj op l1 h1 l2 h2=some bb) (p1:l1<=a) (p2:a < h1) (q1:l2<=b) (q2:b < h2) (lit:Bool):(jH op k a b lit).val=some (mkB bb lit):=by
 unfold Mj at hc
 split at hc
 ·by_cases hA:h1<=l2
  ·have h3:a < b:=by omega
   simp [hD,hA] at hc;subst hc;simp [jH,T.val,h3]
  ·by_cases hB:h2<=l1+1
   ·have h3:¬a < b:=by omega
    simp [hD,hA,hB] at hc;subst hc;simp [jH,T.val,h3]
   ·simp [hD,hA,hB] at hc
 ·by_cases hA:h1<=l2+1
  ·have h3:a<=b:=by omega
   simp [hD,hA] at hc;subst hc;simp [jH,T.val,h3]
  ·by_cases hB:h2<=l1
   ·have h3:¬a<=b:=by omega
    simp [hD,hA,hB] at hc;subst hc;simp [jH,T.val,h3]
   ·simp [hD,hA,hB] at hc
 ·by_cases hA:h2<=l1
  ·have h3:a > b:=by omega
   simp [hD,hA] at hc;subst hc;simp [jH,T.val,h3]
  ·by_cases hB:h1<=l2+1
   ·have h3:¬a > b:=by omega
    simp [hD,hA,hB] at hc;subst hc;simp only [jH,T.val,h3,decide_false]
   ·simp [hD,hA,hB] at hc
 ·by_cases hA:h2<=l1+1
  ·have h3:a>=b:=by omega
   simp [hD,hA] at hc;subst hc;simp only [jH,T.val,h3,decide_true]
  ·by_cases hB:h1<=l2
   ·have h3:¬a>=b:=by omega
    simp [hD,hA,hB] at hc;subst hc;simp only [jH,T.val,h3,decide_false]
   ·simp [hD,hA,hB] at hc
 ·by_cases hA:h1<=l2
  ·have h3:(a==b)=false:=by simp;omega
   simp [hD,hA] at hc;subst hc;simp [jH,T.val,h3]
  ·by_cases hB:h2<=l1
   ·have h3:(a==b)=false:=by simp;omega
    simp [hD,hA,hB] at hc;subst hc;simp [jH,T.val,h3]
   ·simp [hD,hA,hB] at hc
 ·by_cases hA:h1<=l2
  ·have h3:(a != b)=true:=by simp;omega
   simp [hD,hA] at hc;subst hc;simp [jH,T.val,h3]
  ·by_cases hB:h2<=l1
   ·have h3:(a != b)=true:=by simp;omega
    simp [hD,hA,hB] at hc;subst hc;simp [jH,T.val,h3]
   ·simp [hD,hA,hB] at hc
 ·cases hc
theorem IX {op:BinOp} {x y r:V1} (h:LJ op x y=some r) {k k':IntKind} {a b:Int} {ka kb:Bool} (hb:uN x y=some (k,a,ka,k',b,kb)) (lit:Bool):∃r0,(jH op k a b lit).val=some r0 /\ (∀ρ:Nm,r.den ρ=r0.den ρ) /\ ClV1 H r:=by
 have hx:∃cx cy,x=.c cx /\ y=.c cy /\ eI cx=some (k,a,ka) /\ eI cy=some (k',b,kb):=by
  unfold uN at hb
  split at hb
  ·rename_i cx cy
   split at hb
   ·rename_i h1
    split at hb
    ·rename_i h2
     cases hb
     exact⟨cx,cy,rfl,rfl,h1,h2⟩
    ·cases hb
   ·cases hb
  ·cases hb
 obtain⟨cx,cy,rfl,rfl,i1,i2⟩:=hx
 have main:∀r,(match Qd op (.c cx) (.c cy) with
  | some r=>some r
  | none=>match EB (.c cx),EB (.c cy) with
    | some (l1,h1),some (l2,h2)=>match Mj op l1 h1 l2 h2 with
      | some b=>some (.c (.bl b))
      | none=>none
    | _,_=>none)=some r->∃r0,(jH op k a b lit).val=some r0 /\ (∀ρ:Nm,r.den ρ=r0.den ρ) /\ ClV1 H r:=by
  intro r h
  split at h
  ·rename_i r' ha
   cases h
   unfold Qd at ha
   split at ha
   ·rename_i k1 a1 lo hi hh k2 m e1 e2
    cases e1;cases e2
    simp only [eI,Option.some.injEq,Prod.mk.injEq] at i1 i2
    obtain⟨rfl,rfl,rfl⟩:=i1
    obtain⟨rfl,rfl,rfl⟩:=i2
    split at ha
    ·split at ha
     ·split at ha
      ·rename_i h0
       cases ha
       have hm:(m != 0)=true:=by simp;omega
       refine⟨mkI k1 (a1.tmod m) lit,by simp [jH,hm,T.val],fun ρ=>?_,cw rfl⟩
       rw [pf];rfl
      ·cases ha
     ·cases ha
    ·cases ha
   ·rename_i k1 c k2 n lo hi hh e1 e2
    cases e1;cases e2
    simp only [eI,Option.some.injEq,Prod.mk.injEq] at i1 i2
    obtain⟨rfl,rfl,rfl⟩:=i1
    obtain⟨rfl,rfl,rfl⟩:=i2
    split at ha
    ·split at ha
     ·rename_i hd
      have hd:=of_decide_eq_true hd
      cases ha
      refine⟨mkI .i64 (IntKind.i64.wrap (c+n)) lit,by simp [jH,T.val],fun ρ=>?_,cw rfl⟩
      rw [pf,CM (by omega)];rfl
     ·cases ha
    ·cases ha
   ·cases ha
  ·split at h
   ·rename_i l1 h1 l2 h2 r1 r2
    split at h
    ·rename_i bb hc
     cases h
     obtain⟨_,n1,_,j1,p1,p2,_⟩:=vK r1
     obtain⟨_,n2,_,j2,q1,q2,_⟩:=vK r2
     simp only at j1 j2
     rw [i1] at j1
     rw [i2] at j2
     simp only [Option.some.injEq,Prod.mk.injEq] at j1 j2
     obtain⟨rfl,rfl,rfl⟩:=j1
     obtain⟨rfl,rfl,rfl⟩:=j2
     exact⟨_,Jw hc p1 p2 q1 q2 lit,fun ρ=>by rw [kB];rfl,cw rfl⟩
    ·cases h
   ·cases h
 unfold LJ at h
 split at h
 ·cases h
 ·exact main r h
theorem FD (ρ:Nm) {a b:V1} {s u:ByteArray} {k q:Bool} (h:DU a b=some (s,k,u,q)):a.den ρ=.string s /\ b.den ρ=.string u:=by
 unfold DU at h
 split at h
 ·split at h
  ·split at h
   ·rename_i _ _ h1 _ _ _ h2
    cases h
    exact⟨lh ρ h1,lh ρ h2⟩
   ·cases h
  ·cases h
 ·cases h
theorem strCat_eq (a b:ByteArray):Bo a b=a++b:=by
 apply ByteArray.ext
 rw [ByteArray.data_append]
 apply Array.toList_inj.1
 simp [Bo]
theorem strLen_eq (a:ByteArray):dW a=a.size:=by rw [dW,Array.length_toList];rfl
theorem Bp {op:BinOp} {t:TypeId} {x y:Operand} {s u:ByteArray} {lit:Bool} {r:V1} {H:Hp AV} {ρ:Nm} (h:(xK op s u lit).val=some r) (w:World) :
 (do eqGuard op t x y (.string s) (.string u);binOp op t (.string s) (.string u)).run P w=.ok (r.den ρ) w /\ ClV1 H r:=by
 have eq:(s.toList==u.toList)=sJ s u:=by rw [ByteArray.toList_eq,ByteArray.toList_eq,sJ,bsEq_eq]
 unfold xK at h
 split at h
 ·simp only [T.val,Option.some.injEq] at h
  subst h
  refine⟨?_,qh _ _⟩
  rw [Sem.run_bind]
  simp [eqGuard,binOp,Op.stringOp,eq,kB]
 ·simp only [T.val,Option.some.injEq] at h
  subst h
  refine⟨?_,qh _ _⟩
  rw [Sem.run_bind]
  simp [eqGuard,binOp,Op.stringOp,eq,kB]
 ·obtain⟨h1,rfl⟩:=iT h
  refine⟨?_,Pe _ _⟩
  have h1:=Nat.le_of_ble_eq_true h1
  rw [strLen_eq,strLen_eq] at h1
  rw [Sem.run_bind]
  simp [eqGuard,binOp,Op.stringOp,Lk,strCat_eq]
  omega
 ·simp [T.val] at h
theorem Mx (hT:TblOk P N) {op:BinOp} {t:TypeId} {x y:Operand} {a b r:V1} (h:(bin N op t (match Sx.isConst x with | true=>true | false=>Sx.isConst y) a b).val=some r) (hs:kD op=false) (w:World) :
 (do eqGuard op t x y (a.den ρ) (b.den ρ);binOp op t (a.den ρ) (b.den ρ)).run P w=.ok (r.den ρ) w /\ ClV1 H r:=by
 unfold bin at h
 split at h
 ·rename_i k a' ka k' b' kb hb
  obtain⟨e1,e2⟩:=xq ρ hb
  split at h
  ·rename_i hk
   have hk:=of_decide_eq_true hk
   subst hk
   split at h
   ·rename_i r' hiv
    simp only [T.val,Option.some.injEq] at h
    subst h
    unfold Pw at hiv
    split at hiv
    ·rename_i k1 n1 cs h1 k2 c2
     simp only [V1.den,Cell.den,Value.int.injEq] at e1 e2
     obtain⟨rfl,rfl⟩:=e1
     obtain⟨rfl,rfl⟩:=e2
     split at hiv
     ·cases hiv
     ·rename_i hin
      have hmem:∀(l:List Int) (m:Int),I2 l m=true->m∈l:=by
       intro l
       induction l with
       | nil=>intro m hm;simp [I2] at hm
       | cons y l ih =>
         intro m hm
         simp only [I2] at hm
         split at hm
         ·rename_i hd;rw [of_decide_eq_true hd];simp
         ·exact List.mem_cons_of_mem _ (ih m hm)
      have hne:=h1 c2 (hmem cs c2 hin)
      have hne':¬n1=c2:=by simpa using hne
      split at hiv
      ·cases hiv
       refine⟨?_,cw rfl⟩
       rw [Sem.run_bind]
       simp [eqGuard,binOp,Op.intCmp,V1.den,Cell.den,hne']
      ·cases hiv
       refine⟨?_,cw rfl⟩
       rw [Sem.run_bind]
       simp [eqGuard,binOp,Op.intCmp,V1.den,Cell.den,hne']
      ·cases hiv
    ·cases hiv
   ·split at h
    ·rename_i r' hir
     simp only [T.val,Option.some.injEq] at h
     subst h
     rw [e1,e2]
     obtain⟨r0,h0,h1,h2⟩:=IX hir hb (match ka with | true=>kb | false=>false)
     obtain⟨g1,g2⟩:=AX (ρ:=ρ) (H:=H) (t:=t) h0 hs x y w
     exact⟨by rw [g1,h1 ρ],h2⟩
    ·rw [e1,e2]
     exact AX h hs x y w
  ·simp [T.val] at h
 ·split at h
  ·rename_i a' ka b' kb hb
   obtain⟨e1,e2⟩:=FD ρ hb
   rw [e1,e2]
   exact Bp h w
  ·split at h
   ·-- ==
    unfold O9 at h
    split at h
    ·rename_i r' k' he
     simp only [T.val,Option.some.injEq] at h
     subst h
     obtain⟨hg,heq,n1,n2,n3,n4⟩:=DN (ρ:=ρ) hT he w
     refine⟨?_,qh _ _⟩
     rw [Sem.run_bind,hg .eql (.inl rfl),Result.andThen_ok]
     have:binOp .eql t (a.den ρ) (b.den ρ)=(do pure (.bool (<- Op.equal t (a.den ρ) (b.den ρ)))):=by
      cases hv:a.den ρ<;>simp_all [binOp]
     rw [this,Sem.run_bind,heq]
     simp [kB]
    ·simp [T.val] at h
   ·unfold O8 at h
    split at h
    ·rename_i r' k' he
     simp only [T.val,Option.some.injEq] at h
     subst h
     obtain⟨hg,heq,n1,n2,n3,n4⟩:=DN (ρ:=ρ) hT he w
     refine⟨?_,qh _ _⟩
     rw [Sem.run_bind,hg .neq (.inr rfl),Result.andThen_ok]
     have:binOp .neq t (a.den ρ) (b.den ρ)=(do pure (.bool (!(<- Op.equal t (a.den ρ) (b.den ρ))))):=by
      cases hv:a.den ρ<;>simp_all [binOp]
     rw [this,Sem.run_bind,heq]
     simp [kB]
    ·simp [T.val] at h
   ·simp [T.val] at h
theorem j9 {ρ:Nm} {H:Hp AV} {ev:Operand->Option SV} {e:Operand->Value} (hev:EvOk ρ H ev e):∀{l:List Operand} {vs:List SV},evls ev l=some vs->l.map e=vs.map (SV.den ρ) /\ ∀v∈vs,ClV H v
 | [],vs,h=>by cases h;simp
 | x::r,vs,h=>by
   simp only [evls] at h
   split at h
   ·rename_i v hx
    split at h
    ·rename_i l hl
     cases h
     have ih:=j9 hev hl
     refine⟨by simp [ih.1,hev.den _ _ hx],fun y hy=>?_⟩
     rcases List.mem_cons.1 hy with rfl | hy
     ·exact hev.cl _ _ hx
     ·exact ih.2 y hy
    ·cases h
   ·cases h
end Go.Sx

namespace Go.Sx
variable {AV:Type} {P:Program} {N:Env AV} {ρ:Nm} {H:Hp AV} {ev:Operand->Option SV} {e:Operand->Value}
theorem ie {H:Hp AV} {c d:Cell} (h:ClV H (.v (.c c))) (hn:d.name=c.name):ClV H (.v (.c d)):=by
 intro x hx n hxn
 simp [V1.cells] at hx
 subst hx
 exact h c (by simp [V1.cells]) n (by rw [<- hn];exact hxn)
theorem FC (hT:TblOk P N) (hev:EvOk ρ H ev e) {t:TypeId} {parts:Array (Nat×Operand)} {fs:List FdI} {sz:Nat} {z l:List Cell} {fl:Option (List FK)} {ps:List (Nat×V1)}
 (ht:N.tt.get t=some ⟨.struct fs,sz,some z,fl⟩) (hp:evlP ev parts.toList=some ps) (hf:fillP fs z ps=some l) (w:World) :
 (Instr.build t (parts.map fun(i,x)=>(i,e x))).run P w=.ok (.agg (ae ρ l).toArray) w /\ ClL H l:=by
 obtain⟨a,hu,hfd⟩:=qo (bK hT ht)
 obtain⟨v,hz,hzc,hzn⟩:=oD hT ht rfl ρ
 obtain⟨hp1,hp2⟩:=pz hev hp
 have hpl:∀(r:List Field) (q:List FdI),yv P r=some q->∀w,(r.mapM (fun(f:Field)=>do pure (f.offset,<- sizeOf f.type)):Sem (List (Nat×Nat))).run P w=.ok (q.map fun f=>(f.off,f.size)) w:=by
  intro r
  induction r with
  | nil=>intro q h w;cases h;simp
  | cons g r ih =>
    intro q h w
    simp only [yv] at h
    split at h
    ·rename_i n ag q' h1 h2 h3
     cases h
     have:=ih q' h3 w
     simp only [List.mapM_cons,Sem.run_bind,br h1 w,Result.andThen_ok,Sem.run_pure,this,List.map_cons]
    ·cases h
 have hpl':=hpl a.toList fs hfd w
 have hmap:(a.mapM (fun(f:Field)=>do pure (f.offset,<- sizeOf f.type)):Sem (Array (Nat×Nat)))=(fun l=>l.toArray) <$> (a.toList.mapM (fun(f:Field)=>do pure (f.offset,<- sizeOf f.type)):Sem (List (Nat×Nat))):=by
  rw [<- Array.toArray_toList (xs:=a),List.mapM_toArray]
 have hfill:=Az (P:=P) (ρ:=ρ) (H:=H) (fs:=a.toList) (l:=fs) hfd (fun i=>((fs.map fun f=>(f.off,f.size)).toArray)[i]?) (by
  intro i f hi
  have:=tv hi
  simp [this]) ps z l hf (dk hzn) hp2
 refine⟨?_,hfill.2⟩
 have hzc':v.cells=(ae ρ z).toArray:=by rw [<- hzc]
 have hparts:(parts.map fun(x:Nat×Operand)=>match x with | (i,x)=>(i,e x)).toList=ps.map fun p=>(p.1,p.2.den ρ):=by
  rw [<- hp1]
  simp
 unfold Instr.build
 simp only [Sem.run_bind,hz,Result.andThen_ok,aJ hu,hmap,Sem.run_map,hpl']
 rw [hzc']
 have h3:=hfill.1
 rw [<- hparts] at h3
 simp only [h3]
 rfl
theorem CG (hT:TblOk P N) (hev:EvOk ρ H ev e) {t:TypeId} {parts:Array (Nat×Operand)} {len esz sz:Nat} {ag:Bool} {z l:List Cell} {fl:Option (List FK)} {ps:List (Nat×V1)}
 (ht:N.tt.get t=some ⟨.arr len esz ag,sz,some z,fl⟩) (hp:evlP ev parts.toList=some ps) (hf:fillA esz z ps=some l) (w:World) :
 (Instr.build t (parts.map fun(i,x)=>(i,e x))).run P w=.ok (.agg (ae ρ l).toArray) w /\ ClL H l:=by
 obtain⟨el,hu,hsz,hag⟩:=qp (bK hT ht)
 obtain⟨v,hz,hzc,hzn⟩:=oD hT ht rfl ρ
 obtain⟨hp1,hp2⟩:=pz hev hp
 have hfill:=qx (ρ:=ρ) (H:=H) esz ps z l hf (dk hzn) hp2
 refine⟨?_,hfill.2⟩
 have hzc':v.cells=(ae ρ z).toArray:=by rw [<- hzc]
 have hparts:(parts.map fun(x:Nat×Operand)=>match x with | (i,x)=>(i,e x)).toList=ps.map fun p=>(p.1,p.2.den ρ):=by
  rw [<- hp1]
  simp
 unfold Instr.build
 simp only [Sem.run_bind,hz,Result.andThen_ok,aJ hu,br hsz]
 rw [hzc']
 have h3:=hfill.1
 rw [<- hparts] at h3
 simp only [h3]
 rfl
theorem rj:∀{l:List SV} {cs:List Cell},cellsV l=some cs->(∀ρ:Nm,l.map (SV.den ρ)=ae ρ cs) /\ ∀c∈cs,∀{H:Hp AV},(∀x∈l,ClV H x)->ClC H c
 | [],cs,h=>by cases h;exact⟨fun _=>rfl,fun c hc=>by cases hc⟩
 | .v (.c c)::r,cs,h=>by
   simp only [cellsV] at h
   split at h
   ·rename_i q hq
    cases h
    obtain⟨h1,h2⟩:=rj hq
    refine⟨fun ρ=>by rw [List.map_cons,h1 ρ];rfl,fun d hd H hx=>?_⟩
    rcases List.mem_cons.1 hd with rfl | hd
    ·exact hx (.v (.c d)) (by simp) d (by simp [V1.cells])
    ·exact h2 d hd fun x hx'=>hx x (by simp [hx'])
   ·cases h
 | .v (.agg _)::_,cs,h=>by cases h
 | .tup _::_,cs,h=>by cases h
 | .unk::_,cs,h=>by cases h
 | .clo _ _::_,cs,h=>by cases h
theorem cutTx_eq (s:ByteArray) (l h:Nat):DR s l h=s.extract l h:=by
 apply ByteArray.ext
 apply Array.toList_inj.1
 simp [DR,ByteArray.data_extract,List.drop_take]
theorem xv {x:SV} {n:Int} {k:Bool} (h:Qb x=some (n,k)) (ρ:Nm):∃ik,x.den ρ=.int ik n:=by
 unfold Qb at h
 split at h
 ·rename_i c
  split at h
  ·rename_i ik m k' hc
   cases h
   exact⟨ik,b6 ρ hc⟩
  ·cases h
 ·cases h
theorem Lj (H:Hp AV) (s:ByteArray) (k:Bool):ClV H (.v (mkS s k)):=by
 intro c hc m hm
 cases k<;>· simp [mkS,V1.cells] at hc;subst hc;cases hm
theorem Iq (ρ:Nm) (s:ByteArray) (k:Bool):(SV.v (mkS s k)).den ρ=.string s:=by
 cases k<;>rfl
theorem Cq {ev:Operand->Value} {o:Oper} {t:TypeId} {x:Operand} {lo hi:Option Operand} {w:World} (ho:o.op=.slice t x lo hi none) (hu:P.underlying t=some .string)
 {s:ByteArray} {l h:Nat} {m:Nat} (hx:ev x=.string s) (hb:(Instr.sliceBounds false s.size s.size (lo.map ev) (hi.map ev) none).run P w=.ok (l,h,m) w) :
 (execOp ev o).run P w=.ok (.value (.string (DR s l h))) w:=by
 obtain⟨dst,op,ty,pos,after,guard⟩:=o
 simp only at ho
 subst ho
 rw [cutTx_eq]
 simp [execOp,hx,run_sliceAt_string w t _ _ _ _ hu,Instr.slice,run_underlying hu,hb,Result.andThen]
theorem Cy (w:World) {e:Operand->Value} {lo hi:Option Operand} {ev:Operand->Option SV} {H:Hp AV} {ρ:Nm} (hev:EvOk ρ H ev e) {s:ByteArray} {l h:Int} {k k':Bool} (hl:rF ev 0 lo=some (l,k)) (hh:rF ev (dW s) hi=some (h,k')) (b:0<=l /\ l<=h /\ h<=(dW s:Int)) :
 ∃m,(Instr.sliceBounds false s.size s.size (lo.map e) (hi.map e) none).run P w=.ok (l.toNat,h.toNat,m) w:=by
 obtain⟨b1,b2,b3⟩:=b
 have es:(dW s)=s.size:=strLen_eq s
 rw [es] at b3
 have gl:∀x,lo=some x->∃ik,e x=.int ik l:=fun x hx=>by
  subst hx
  unfold rF at hl
  split at hl
  ·rename_i hx;cases hx
  ·rename_i y v hv
   cases hv
   split at hl
   ·rename_i v' hv'
    rw [hev.den _ _ hv']
    exact xv hl ρ
   ·cases hl
 have gh:∀x,hi=some x->∃ik,e x=.int ik h:=fun x hx=>by
  subst hx
  unfold rF at hh
  split at hh
  ·rename_i hx;cases hx
  ·rename_i y v hv
   cases hv
   split at hh
   ·rename_i v' hv'
    rw [hev.den _ _ hv']
    exact xv hh ρ
   ·cases hh
 cases lo with
 | none =>
   cases hl
   cases hi with
   | none =>
     cases hh
     refine⟨s.size,?_⟩
     have e4:(dW s:Int).toNat=s.size:=by rw [strLen_eq];rfl
     rw [e4]
     simp [Instr.sliceBounds,Result.andThen]
   | some y =>
     obtain⟨jk,e5⟩:=gh y rfl
     have hb:=run_sliceBound (P:=P) w jk h s.size .sliceAlen b2 (by omega)
     exact⟨s.size,by simp [Instr.sliceBounds,e5,hb,Result.andThen]⟩
 | some x =>
   obtain⟨ik,e3⟩:=gl x rfl
   cases hi with
   | none =>
     cases hh
     have e4:(dW s:Int).toNat=s.size:=by rw [strLen_eq];rfl
     rw [e4]
     have hb:=run_sliceBound (P:=P) w ik l s.size .sliceB b1 (by rw [es] at b2;omega)
     exact⟨s.size,by simp [Instr.sliceBounds,e3,hb,Result.andThen]⟩
   | some y =>
     obtain⟨jk,e5⟩:=gh y rfl
     have hb:=run_sliceBound (P:=P) w jk h s.size .sliceAlen (by omega) (by omega)
     have hb2:=run_sliceBound (P:=P) w ik l h.toNat .sliceB b1 (by omega)
     exact⟨s.size,by simp [Instr.sliceBounds,e3,e5,hb,hb2,Result.andThen]⟩
theorem ta (hT:TblOk P N) (hev:EvOk ρ H ev e) {o:Oper} {t:T SV} {v:SV} (h:pureOp N ev o.op=some t) (hv:t.val=some v) (w:World) :
 (execOp e o).run P w=.ok (.value (v.den ρ)) w /\ ClV H v:=by
 obtain⟨dst,op,ty,pos,after,guard⟩:=o
 simp only at h
 unfold pureOp at h
 split at h
 ·-- move
  cases h
  split at hv
  ·rename_i x v' hx
   simp only [T.val,Option.some.injEq] at hv
   subst hv
   exact⟨by simp [execOp,hev.den _ _ hx],hev.cl _ _ hx⟩
  ·simp [T.val] at hv
 ·-- assign
  cases h
  split at hv
  ·rename_i x v' hx
   simp only [T.val,Option.some.injEq] at hv
   subst hv
   exact⟨by simp [execOp,hev.den _ _ hx],hev.cl _ _ hx⟩
  ·simp [T.val] at hv
 ·-- pick
  cases h
  split at hv
  ·rename_i c x y h1 h2 h3
   have e1:=hev.den _ _ h1
   have e2:=hev.den _ _ h2
   have e3:=hev.den _ _ h3
   split at hv
   ·rename_i t' hb
    have hb':=bY ρ hb
    split at hv
    ·simp only [T.val,Option.some.injEq] at hv;subst hv
     exact⟨by simp [execOp,e1,e2,SV.den,V1.den,hb',asBool],hev.cl _ _ h2⟩
    ·simp only [T.val,Option.some.injEq] at hv;subst hv
     exact⟨by simp [execOp,e1,e3,SV.den,V1.den,hb',asBool],hev.cl _ _ h3⟩
   ·rename_i t' hb
    have hb':=bY ρ hb
    cases t' with
    | true=>simp only [T.val,Option.some.injEq] at hv;subst hv;exact⟨by simp [execOp,e1,e2,SV.den,V1.den,hb',asBool],hev.cl _ _ h2⟩
    | false=>simp only [T.val,Option.some.injEq] at hv;subst hv;exact⟨by simp [execOp,e1,e3,SV.den,V1.den,hb',asBool],hev.cl _ _ h3⟩
   ·simp [T.val] at hv
  ·simp [T.val] at hv
 ·-- build
  cases h
  split at hv
  ·rename_i fs sz z fl ps h1 h2
   split at hv
   ·rename_i l hl
    simp only [T.val,Option.some.injEq] at hv
    subst hv
    obtain⟨b1,b2⟩:=FC hT hev h1 h2 hl w
    refine⟨?_,b2⟩
    simp only [execOp,Sem.run_bind]
    erw [b1]
    rfl
   ·simp [T.val] at hv
  ·rename_i len esz sz z fl ps h1 h2
   split at hv
   ·rename_i l hl
    simp only [T.val,Option.some.injEq] at hv
    subst hv
    obtain⟨b1,b2⟩:=CG hT hev h1 h2 hl w
    refine⟨?_,b2⟩
    simp only [execOp,Sem.run_bind]
    erw [b1]
    rfl
   ·simp [T.val] at hv
  ·simp [T.val] at hv
 ·-- nilCheck
  cases h
  split at hv
  ·rename_i n off h1
   simp only [T.val,Option.some.injEq] at hv;subst hv
   exact⟨by simp [execOp,hev.den _ _ h1,SV.den,V1.den,Cell.den],hev.cl _ _ h1⟩
  ·rename_i h1
   simp only [T.val,Option.some.injEq] at hv;subst hv
   exact⟨by simp [execOp,hev.den _ _ h1,SV.den,V1.den,Cell.den],hev.cl _ _ h1⟩
  ·rename_i h1
   simp only [T.val,Option.some.injEq] at hv;subst hv
   exact⟨by simp [execOp,hev.den _ _ h1,SV.den,V1.den,Cell.den],hev.cl _ _ h1⟩
  ·rename_i h1
   simp only [T.val,Option.some.injEq] at hv;subst hv
   exact⟨by simp [execOp,hev.den _ _ h1,SV.den,V1.den,Cell.den],hev.cl _ _ h1⟩
  ·rename_i h1
   simp only [T.val,Option.some.injEq] at hv;subst hv
   exact⟨by simp [execOp,hev.den _ _ h1,SV.den],hev.cl _ _ h1⟩
  ·simp [T.val] at hv
 ·-- makeFunc
  rename_i fn0 first0 captured0
  cases h
  split at hv
  ·rename_i f l h1 h2
   split at hv
   ·rename_i cs hcs
    simp only [T.val,Option.some.injEq] at hv;subst hv
    obtain⟨e1,e2⟩:=j9 hev h2
    obtain⟨e3,e4⟩:=rj hcs
    refine⟨?_,fun c hc=>e4 c hc (fun x hx=>e2 x hx)⟩
    have hcap:captured0.map e=(ae ρ cs).toArray:=by
     rw [<- e3 ρ,<- e1,<- Array.toList_map,Array.toArray_toList]
    have hfirst:first0.map e=#[]:=by
     rw [<- Array.toArray_toList (xs:=first0.map e),Array.toList_map,h1];rfl
    simp only [execOp,Sem.run_bind,Instr.makeFunc,Sem.run_pure,Result.andThen_ok,SV.den,hcap,hfirst]
   ·simp [T.val] at hv
  ·simp [T.val] at hv
 ·-- fieldAddr
  rename_i t0 x0 i0
  cases h
  have hfs:∀{t:TypeId} {fs:List FdI},fieldsT N t=some fs->∃a,P.underlying t=some (.struct a) /\ yv P a.toList=some fs:=by
   intro t fs hf
   unfold fieldsT at hf
   split at hf
   ·rename_i ht;cases hf;exact qo (bK hT ht)
   ·cases hf
  split at hv
  ·rename_i n off fs h1 h2
   obtain⟨a,hu,hfd⟩:=hfs h2
   split at hv
   ·rename_i f hf
    obtain⟨g,hg,ho,hsz,_⟩:=rW hfd hf
    split at hv
    ·rename_i hz
     have hz:=(aD _ _).1 hz
     simp only [T.val,Option.some.injEq] at hv;subst hv
     refine⟨?_,ie (hev.cl _ _ h1) rfl⟩
     have hg':a[i0]?=some g:=by simpa using hg
     simp only [execOp,Sem.run_bind,Instr.fieldAt,aJ hu,Result.andThen_ok,hg',hev.den _ _ h1,SV.den,V1.den,Cell.den,Instr.sureAddr,Sem.run_pure,fieldPlace,br hsz,if_neg hz]
     simp only [Addr.add]
     split
     ·rename_i h0;simp [ho,h0]
     ·simp [ho]
    ·simp [T.val] at hv
   ·simp [T.val] at hv
  ·rename_i n o' k' es off fs h1 h2
   obtain⟨a,hu,hfd⟩:=hfs h2
   split at hv
   ·rename_i f hf
    obtain⟨g,hg,ho,hsz,_⟩:=rW hfd hf
    split at hv
    ·rename_i hz
     have hz:=(aD _ _).1 hz
     simp only [T.val,Option.some.injEq] at hv;subst hv
     refine⟨?_,ie (hev.cl _ _ h1) rfl⟩
     have hg':a[i0]?=some g:=by simpa using hg
     simp only [execOp,Sem.run_bind,Instr.fieldAt,aJ hu,Result.andThen_ok,hg',hev.den _ _ h1,SV.den,V1.den,Cell.den,Instr.sureAddr,Sem.run_pure,fieldPlace,br hsz,if_neg hz]
     simp only [Addr.add]
     split
     ·rename_i h0;simp [ho,h0]
     ·simp [ho,Nat.add_assoc]
    ·simp [T.val] at hv
   ·simp [T.val] at hv
  ·simp [T.val] at hv
 ·-- field
  rename_i t0 x0 i0
  cases h
  split at hv
  ·rename_i l fs h1 h2
   unfold fieldsT at h2
   split at h2
   ·rename_i ht
    cases h2
    obtain⟨a,hu,hfd⟩:=qo (bK hT ht)
    split at hv
    ·rename_i f hf
     obtain⟨g,hg,ho,hsz,hag⟩:=rW hfd hf
     unfold one at hv
     split at hv
     ·rename_i x hx
      simp only [T.val,Option.some.injEq] at hv;subst hv
      have hpr:=oV (ρ:=ρ) hag hsz hx w
      refine⟨?_,tj hx (hev.cl _ _ h1)⟩
      have hg':a[i0]?=some g:=by simpa using hg
      simp only [execOp,Sem.run_bind,Instr.field,aJ hu,Result.andThen_ok,hg',hev.den _ _ h1,SV.den,V1.den,asAgg,Sem.run_pure,<- ho,hpr]
     ·simp [T.val] at hv
    ·simp [T.val] at hv
   ·cases h2
  ·simp [T.val] at hv
 ·-- binOp
  cases h
  split at hv
  ·rename_i a b h1 h2
   split at hv
   ·rename_i hs
    rw [T.val_map] at hv
    obtain⟨r,hr,rfl⟩:=Option.map_eq_some_iff.1 hv
    unfold BL at hr
    split at hr
    ·rename_i k' a' ka kk b' kb hb
     obtain⟨e1,e2⟩:=xq ρ hb
     obtain⟨hk,rfl⟩:=iT hr
     have hk:¬b' < 0:=by have:=of_decide_eq_true hk;omega
     refine⟨?_,yj _ _ _⟩
     simp only [execOp,hev.den _ _ h1,hev.den _ _ h2,SV.den,e1,e2]
     rw [Sem.run_bind,Ew hs hk,pf]
     rfl
    ·simp [T.val] at hr
   ·rename_i hs
    rw [T.val_map] at hv
    obtain⟨r,hr,rfl⟩:=Option.map_eq_some_iff.1 hv
    obtain⟨b1,b2⟩:=Mx (ρ:=ρ) (H:=H) hT hr hs w
    refine⟨?_,b2⟩
    simp only [execOp,hev.den _ _ h1,hev.den _ _ h2,SV.den]
    rw [Sem.run_bind,b1]
    rfl
  ·simp [T.val] at hv
 ·-- not
  cases h
  split at hv
  ·rename_i c h1
   split at hv
   ·rename_i b k hb
    simp only [T.val,Option.some.injEq] at hv;subst hv
    refine⟨?_,qh _ _⟩
    have e1:e _=.bool b:=(hev.den _ _ h1).trans (bY ρ hb)
    simp [execOp,e1,Op.unary,SV.den,kB]
   ·simp [T.val] at hv
  ·simp [T.val] at hv
 ·-- neg
  cases h
  split at hv
  ·rename_i c h1
   split at hv
   ·rename_i k n l hb
    simp only [T.val,Option.some.injEq] at hv;subst hv
    refine⟨?_,fun c hc=>yj _ _ _ c hc⟩
    have e1:e _=.int k n:=(hev.den _ _ h1).trans (b6 ρ hb)
    simp [execOp,e1,Op.unary,Op.intArith,SV.den,pf]
   ·simp [T.val] at hv
  ·simp [T.val] at hv
 ·-- a part of a text
  rename_i t' x lo hi mx
  split at h
  ·rename_i htx
   cases h
   cases mx with
   | some _=>cases htx
   | none =>
     unfold cutO at hv
     split at hv
     ·rename_i h1 h2
      split at hv
      ·rename_i s ks hs
       split at hv
       ·rename_i l k h' k' hl hh
        obtain⟨hb,hv⟩:=cm hv
        simp only [T.val,Option.some.injEq] at hv
        subst hv
        obtain⟨m,hm⟩:=Cy (P:=P) w hev hl hh (of_decide_eq_true hb)
        refine⟨?_,Lj _ _ _⟩
        have e1:e x=.string s:=(hev.den _ _ h2).trans (lh ρ hs)
        have:=Cq (P:=P) (ev:=e) (o:=⟨dst,.slice t' x lo hi none,ty,pos,after,guard⟩) (w:=w) rfl (ue (bK hT h1)) e1 hm
        rw [Iq]
        exact this
       ·simp [T.val] at hv
      ·simp [T.val] at hv
     ·simp [T.val] at hv
  ·cases h
 ·-- extract
  cases h
  split at hv
  ·rename_i l h1
   split at hv
   ·rename_i x hx
    simp only [T.val,Option.some.injEq] at hv;subst hv
    have:=tv hx
    refine⟨?_,(hev.cl _ _ h1) x (List.mem_of_getElem? this)⟩
    simp [execOp,hev.den _ _ h1,SV.den,Instr.extract,this]
   ·simp [T.val] at hv
  ·simp [T.val] at hv
 ·-- makeInterface
  cases h
  split at hv
  ·rename_i c k _ _ _ h1 h2
   split at hv
   ·simp [T.val] at hv
   ·rename_i hne
    simp only [T.val,Option.some.injEq] at hv;subst hv
    obtain⟨d,hd,hno⟩:=yo (bK hT h2) (fun hk=>hne hk)
    refine⟨?_,ie (hev.cl _ _ h1) rfl⟩
    simp only [execOp,Sem.run_bind,Instr.makeInterface,aJ hd,Result.andThen_ok,hev.den _ _ h1,SV.den,V1.den,Cell.den]
    cases d<;>first | rfl | exact absurd rfl (hno _)
  ·simp [T.val] at hv
 ·-- indexAddr
  cases h
  split at hv
  ·rename_i n off kk k len sz ag _ _ _ h1 h2 h3
   obtain⟨el,hu,hsz,hag⟩:=qp (bK hT h3)
   split at hv
   ·rename_i hk
    have hk:=of_decide_eq_true hk
    simp only [T.val,Option.some.injEq] at hv;subst hv
    refine⟨?_,ie (hev.cl _ _ h1) rfl⟩
    simp only [execOp,Sem.run_bind,Instr.indexAt,hev.den _ _ h1,hev.den _ _ h2,SV.den,V1.den,Cell.den,asIntOf,Sem.run_pure,Result.andThen_ok,aJ hu,Instr.sureAddr,hk,and_self,if_true,br hsz]
    simp only [Addr.add]
    split
    ·rename_i h0;simp [h0]
    ·rfl
   ·simp [T.val] at hv
  ·rename_i n k0 e0 off kk k len sz ag _ _ _ h1 h2 h3
   obtain⟨el,hu,hsz,hag⟩:=qp (bK hT h3)
   split at hv
   ·rename_i hk
    have hk:=of_decide_eq_true hk
    simp only [T.val,Option.some.injEq] at hv;subst hv
    refine⟨?_,ie (hev.cl _ _ h1) rfl⟩
    simp only [execOp,Sem.run_bind,Instr.indexAt,hev.den _ _ h1,hev.den _ _ h2,SV.den,V1.den,Cell.den,asIntOf,Sem.run_pure,Result.andThen_ok,aJ hu,Instr.sureAddr,hk,and_self,if_true,br hsz]
    simp only [Addr.add]
    split
    ·rename_i h0;simp [h0]
    ·simp [Nat.add_assoc]
   ·simp [T.val] at hv
  ·rename_i n o' len cp kk k sz _ _ _ h1 h2 h3
   obtain⟨el,hu,hsz⟩:=gL (bK hT h3)
   split at hv
   ·rename_i hk
    have hk:=of_decide_eq_true hk
    simp only [T.val,Option.some.injEq] at hv;subst hv
    refine⟨?_,ie (hev.cl _ _ h1) rfl⟩
    simp only [execOp,Sem.run_bind,Instr.indexAt,hev.den _ _ h1,hev.den _ _ h2,SV.den,V1.den,Cell.den,asIntOf,Sem.run_pure,Result.andThen_ok,aJ hu,hk,and_self,if_true,br hsz]
    simp only [Addr.add]
    split
    ·rename_i h0;simp [h0]
    ·rfl
   ·simp [T.val] at hv
  ·rename_i n o' len es kn ix sz _ _ _ h1 h2 h3
   obtain⟨el,hu,hsz⟩:=gL (bK hT h3)
   split at hv
   ·rename_i hes
    have hes:=(af _ _).1 hes
    subst hes
    split at hv
    ·rename_i kk k lit hi
     obtain⟨hk,hv⟩:=iT hv
     have hk:=of_decide_eq_true hk
     subst hv
     refine⟨?_,ie (hev.cl _ _ h1) rfl⟩
     have hl0:¬(len=0 /\ (ρ.L n).c=0):=by omega
     simp only [execOp,Sem.run_bind,Instr.indexAt,hev.den _ _ h1,hev.den _ _ h2,SV.den,V1.den,Cell.den,aG,if_neg hl0,b6 ρ hi,asIntOf,Sem.run_pure,Result.andThen_ok,aJ hu,hk,and_self,if_true,br hsz]
     simp only [Addr.add,Nat.add_mul]
     split
     ·rename_i h0;simp [h0,Nm.f]
     ·simp [Nm.f,Nat.add_assoc]
    ·simp [T.val] at hv
   ·simp [T.val] at hv
  ·rename_i n off ix len sz ag _ _ _ _ h1 h2 h3
   obtain⟨el,hu,hsz,hag⟩:=qp (bK hT h3)
   split at hv
   ·rename_i kk k lit hi _
    rw [T.val_map] at hv
    obtain⟨j,hj,rfl⟩:=Option.map_eq_some_iff.1 hv
    obtain⟨rfl,hlt⟩:=Cj hj
    have hk:(0:Int)<=(j:Int) /\ (j:Int) < (len:Int):=by omega
    refine⟨?_,ie (hev.cl _ _ h1) rfl⟩
    simp only [execOp,Sem.run_bind,Instr.indexAt,hev.den _ _ h1,hev.den _ _ h2,SV.den,V1.den,Cell.den,b6 ρ hi,asIntOf,Sem.run_pure,Result.andThen_ok,aJ hu,Instr.sureAddr,hk,and_self,if_true,br hsz]
    simp only [Addr.add,Int.toNat_natCast]
    split
    ·rename_i h0;simp [h0]
    ·rfl
   ·simp [T.val] at hv
  ·rename_i n k0 e0 off ix len sz ag _ _ _ _ h1 h2 h3
   obtain⟨el,hu,hsz,hag⟩:=qp (bK hT h3)
   split at hv
   ·rename_i kk k lit hi
    obtain⟨hk,hv⟩:=cm hv
    have hk:=of_decide_eq_true hk
    simp only [T.val,Option.some.injEq] at hv;subst hv
    refine⟨?_,ie (hev.cl _ _ h1) rfl⟩
    simp only [execOp,Sem.run_bind,Instr.indexAt,hev.den _ _ h1,hev.den _ _ h2,SV.den,V1.den,Cell.den,b6 ρ hi,asIntOf,Sem.run_pure,Result.andThen_ok,aJ hu,Instr.sureAddr,hk,and_self,if_true,br hsz]
    simp only [Addr.add]
    split
    ·rename_i h0;simp [h0,offN_eq]
    ·simp only [offN_eq,Nat.add_assoc,Nat.add_comm off]
   ·simp [T.val] at hv
  ·simp [T.val] at hv
 ·-- convert
  cases h
  split at hv
  ·rename_i c i0 k sz z fl h1 h2 h3
   split at hv
   ·rename_i kk n lit hi
    simp only [T.val,Option.some.injEq] at hv;subst hv
    obtain⟨d0,hd0⟩:=LC (bK hT h2)
    have hd1:=Pu (bK hT h3)
    refine⟨?_,Ju _ _ _ _⟩
    simp only [execOp,Sem.run_bind,convert,aJ hd0,aJ hd1,Result.andThen_ok,hev.den _ _ h1,SV.den,V1.den,b6 ρ hi,Conv.intToInt,Sem.run_pure]
    exact congrArg (fun v=>Result.ok (Next.value v) w) (Fv ρ hi).symm
   ·simp [T.val] at hv
  ·simp [T.val] at hv
 ·-- index
  cases h
  split at hv
  ·rename_i s ix sz z fl h1 h2 h3
   split at hv
   ·rename_i kk n lit hi
    rw [T.val_map] at hv
    obtain⟨v',hv',rfl⟩:=Option.map_eq_some_iff.1 hv
    obtain⟨hk,rfl⟩:=iT hv'
    have hk:=of_decide_eq_true hk
    have hd:=ue (bK hT h3)
    refine⟨?_,yj _ _ _⟩
    have hlt:n.toNat < s.data.toList.length:=by omega
    have e1:s[n.toNat]?=some (s.data.toList[n.toNat]):=by
     have hlt':=hlt
     rw [Array.length_toList] at hlt'
     have:n.toNat < s.size:=hlt'
     rw [getElem?_pos s n.toNat this]
     rfl
    have e2:rq s n=((s.data.toList[n.toNat]).toNat:Int):=by
     unfold rq
     rw [nth_eq,List.getElem?_eq_getElem hlt]
    simp only [execOp,Sem.run_bind,Instr.index,hev.den _ _ h1,hev.den _ _ h2,SV.den,V1.den,Cell.den,b6 ρ hi,asIntOf,Sem.run_pure,Result.andThen_ok,aJ hd,hk.1,if_true,e1,e2]
    cases lit<;>rfl
   ·simp [T.val] at hv
  ·rename_i s ix sz z fl h1 h2 h3
   split at hv
   ·rename_i kk n lit hi
    rw [T.val_map] at hv
    obtain⟨v',hv',rfl⟩:=Option.map_eq_some_iff.1 hv
    obtain⟨hk,rfl⟩:=iT hv'
    have hk:=of_decide_eq_true hk
    have hd:=ue (bK hT h3)
    refine⟨?_,cw rfl⟩
    have hlt:n.toNat < s.data.toList.length:=by omega
    have e1:s[n.toNat]?=some (s.data.toList[n.toNat]):=by
     have hlt':=hlt
     rw [Array.length_toList] at hlt'
     have:n.toNat < s.size:=hlt'
     rw [getElem?_pos s n.toNat this]
     rfl
    have e2:rq s n=((s.data.toList[n.toNat]).toNat:Int):=by
     unfold rq
     rw [nth_eq,List.getElem?_eq_getElem hlt]
    simp only [execOp,Sem.run_bind,Instr.index,hev.den _ _ h1,hev.den _ _ h2,SV.den,V1.den,Cell.den,b6 ρ hi,asIntOf,Sem.run_pure,Result.andThen_ok,aJ hd,hk.1,if_true,e1,e2]
   ·simp [T.val] at hv
  ·rename_i l kk k len sz ag _ _ _ h1 h2 h3
   obtain⟨el,hu,hsz,hag⟩:=qp (bK hT h3)
   split at hv
   ·rename_i hk
    have hk:=of_decide_eq_true hk
    unfold one at hv
    split at hv
    ·rename_i x hx
     simp only [T.val,Option.some.injEq] at hv;subst hv
     have hpr:=oV (ρ:=ρ) hag hsz hx w
     refine⟨?_,tj hx (hev.cl _ _ h1)⟩
     simp only [execOp,Sem.run_bind,Instr.index,hev.den _ _ h1,hev.den _ _ h2,SV.den,V1.den,Cell.den,asIntOf,Sem.run_pure,Result.andThen_ok,aJ hu,hk,and_self,if_true,br hsz,hpr]
    ·simp [T.val] at hv
   ·simp [T.val] at hv
  ·simp [T.val] at hv
 ·-- len
  rename_i c
  split at h
  ·rename_i hcal
   cases h
   obtain⟨cal,args,tys⟩:=c
   simp only at hcal hv
   subst hcal
   split at hv
   ·rename_i x t hx ht
    obtain rfl:args=#[x]:=by cases args;simp at hx;simp [hx]
    obtain rfl:tys=#[t]:=by cases tys;simp at ht;simp [ht]
    split at hv
    ·rename_i len _ _ _ _ _ h1 h2
     obtain⟨el,hu,_⟩:=gL (bK hT h2)
     simp only [T.val,Option.some.injEq] at hv;subst hv
     refine⟨?_,cw rfl⟩
     simp [execOp,resolve,invoke,builtin,Builtin.len_,hev.den _ _ h1,SV.den,V1.den,Cell.den,aJ hu,goInt]
    ·rename_i h1 h2
     obtain⟨el,hu,_⟩:=gL (bK hT h2)
     simp only [T.val,Option.some.injEq] at hv;subst hv
     refine⟨?_,cw rfl⟩
     simp [execOp,resolve,invoke,builtin,Builtin.len_,hev.den _ _ h1,SV.den,V1.den,Cell.den,aJ hu,goInt]
    ·rename_i h1 h2
     obtain⟨el,hu,_⟩:=gL (bK hT h2)
     simp only [T.val,Option.some.injEq] at hv;subst hv
     refine⟨?_,cw rfl⟩
     simp [execOp,resolve,invoke,builtin,Builtin.len_,hev.den _ _ h1,SV.den,V1.den,Cell.den,aJ hu,goInt]
    ·rename_i n0 o0 es0 z0 f0 p0 _ _ _ _ h1 h2
     obtain⟨el,hu,_⟩:=gL (bK hT h2)
     simp only [T.val,Option.some.injEq] at hv;subst hv
     refine⟨?_,cw rfl⟩
     have hbc:∃b c,aG (f0.ap (ρ.L n0)) 0 0 es0=.slice b 0 c:=by
      unfold aG
      split
      ·exact⟨_,_,rfl⟩
      ·exact⟨_,_,rfl⟩
     obtain⟨b,c,hbc⟩:=hbc
     simp [execOp,resolve,invoke,builtin,Builtin.len_,hev.den _ _ h1,SV.den,V1.den,Cell.den,hbc,aJ hu,goInt]
    ·rename_i n0 o0 len es0 kn _ _ _ _ h1 h2
     obtain⟨el,hu,_⟩:=gL (bK hT h2)
     simp only [T.val,Option.some.injEq] at hv;subst hv
     refine⟨?_,by cases kn<;>exact cw rfl⟩
     have:∀l:Loc,∀o e,∃b c,aG l o len e=.slice b len c:=by
      intro l o e
      unfold aG
      split
      ·rename_i h0;rw [h0.1];exact⟨_,_,rfl⟩
      ·exact⟨_,_,rfl⟩
     obtain⟨b,c,hbc⟩:=this (ρ.L n0) o0 es0
     cases kn<;>simp [execOp,resolve,invoke,builtin,Builtin.len_,hev.den _ _ h1,SV.den,V1.den,Cell.den,hbc,mkI,aJ hu,goInt]
    ·rename_i s _ _ _ _ h1 h2
     have hu:=ue (bK hT h2)
     simp only [T.val,Option.some.injEq] at hv;subst hv
     refine⟨?_,cw rfl⟩
     simp [execOp,resolve,invoke,builtin,Builtin.len_,hev.den _ _ h1,SV.den,V1.den,Cell.den,aJ hu,goInt,dW,ByteArray.size_data,Array.length_toList]
    ·rename_i s _ _ _ _ h1 h2
     have hu:=ue (bK hT h2)
     simp only [T.val,Option.some.injEq] at hv;subst hv
     refine⟨?_,cw rfl⟩
     simp [execOp,resolve,invoke,builtin,Builtin.len_,hev.den _ _ h1,SV.den,V1.den,Cell.den,aJ hu,goInt,dW,ByteArray.size_data,Array.length_toList]
    ·simp [T.val] at hv
   ·simp [T.val] at hv
  ·cases h
 ·cases h
end Go.Sx
