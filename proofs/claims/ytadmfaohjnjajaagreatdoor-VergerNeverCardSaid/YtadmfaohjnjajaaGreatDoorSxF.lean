import Derived.Test.YtadmfaohjnjajaaGreatDoorSxB
import Derived.Laws.Strings
import Derived.Laws.Small
import Derived.Laws.Slices
set_option linter.unusedVariables false
set_option linter.unusedSimpArgs false
set_option maxHeartbeats 4000000
namespace Go.Sx
section
variable {AV:Type} {P:Program} {N:Env AV} {ρ:Nm} {H:Hp AV} {ev:Operand->Option SV} {e:Operand->Value}
theorem kM {α:Type} {k b:Bool} {a x:α} (h:(qy k b a).val=some x):b=true /\ a=x:=by
 cases k<;>cases b<;>simp [qy,T.val] at h<;>exact⟨rfl,h⟩
theorem cZ {α:Type} {b:Bool} {t:T α} {x:α} (h:(T.need b t).val=some x):b=true /\ t.val=some x:=by
 cases b with
 | false=>simp [T.val] at h
 | true=>exact⟨rfl,h⟩
theorem rZ (hev:EvOk ρ H ev e):∀{l:List (Nat×Operand)} {ps:List (Nat×V1)},sa ev l=some ps ->
 (l.map fun p=>(p.1,e p.2))=(ps.map fun p=>(p.1,p.2.den ρ)) /\ ∀p∈ps,ClV1 H p.2
 | [],ps,h=>by cases h;simp
 | (i,x)::r,ps,h=>by
   simp only [sa] at h
   split at h
   ·rename_i v hx
    split at h
    ·rename_i l hl
     cases h
     have ih:=rZ hev hl
     have hd:=hev.den x _ hx
     have hc:=hev.cl x _ hx
     refine⟨by simp [ih.1,hd,SV.den],fun p hp=>?_⟩
     rcases List.mem_cons.1 hp with rfl | hp
     ·exact hc
     ·exact ih.2 p hp
    ·cases h
   ·cases h
theorem iV (t:TypeId) (x y:Value):Op.equal t x y=Op.equalIn (9999+1) t x y:=rfl
theorem Ay (ρ:Nm) {x y:V1} {k k':IntKind} {a b:Int} {ka kb:Bool} (h:Az x y=some (k,a,ka,k',b,kb)):x.den ρ=.int k a /\ y.den ρ=.int k' b:=by
 unfold Az at h
 split at h
 ·split at h
  ·rename_i h1
   split at h
   ·rename_i h2
    cases h
    exact⟨cR ρ h1,cR ρ h2⟩
   ·cases h
  ·cases h
 ·cases h
theorem DD {op:BinOp} {t:TypeId} {k:IntKind} {a b:Int} {lit:Bool} {r:V1} (h:(mD op k a b lit).val=some r) (hs:pa op=false) (x y:Operand) (w:World) :
 (do eqGuard op t x y (.int k a) (.int k b);binOp op t (.int k a) (.int k b)).run P w=.ok (r.den ρ) w /\ ClV1 H r:=by
 cases op<;>simp only [mD] at h<;>(first | (simp [pa] at hs;done) | (simp only [T.val,Option.some.injEq] at h;subst h) | (obtain⟨hb,h⟩:=cZ h;simp only [T.val,Option.some.injEq] at h;subst h;have hb':¬b=0:=by simpa using hb) | (simp [T.val] at h;done)) <;>
  (refine⟨?_,by first | exact Bs _ _ _ | exact tz _ _⟩;rw [Sem.run_bind];simp [eqGuard,binOp,Op.intArith,Op.intCmp,Op.intDiv,Op.intBits,Nz,rJ,mS, *])
theorem HT {op:BinOp} {t:TypeId} {k k':IntKind} {a b:Int} (hs:pa op=true) (hk:¬b < 0) {x y:Operand} {w:World} :
 (do eqGuard op t x y (.int k a) (.int k' b);binOp op t (.int k a) (.int k' b)).run P w=.ok (.int k (shI op k a b)) w:=by
 cases op<;>simp [pa] at hs
 ·rw [Sem.run_bind];simp [eqGuard,binOp,Op.shift,hk,shI]
 ·rw [Sem.run_bind];simp [eqGuard,binOp,Op.shift,hk,shI]
theorem G2 (hT:TblOk P N) {t:TypeId} {x y:Operand} {a b:V1} {r k:Bool} (h:eqV N t (match Sx.isConst x with | true=>true | false=>Sx.isConst y) a b=some (r,k)) (w:World) :
 (∀op,(op=.eql \/ op=.neq)->(eqGuard op t x y (a.den ρ) (b.den ρ)).run P w=.ok () w) /\ (Op.equal t (a.den ρ) (b.den ρ)).run P w=.ok r w /\ (∀k n,a.den ρ≠.int k n) /\ (∀s,a.den ρ≠.string s) /\ (∀k s,a.den ρ≠.float k s) /\ (∀k s z,a.den ρ≠.complex k s z):=by
 unfold eqV at h
 split at h
 ·-- structs
  rename_i xs ys
  split at h
  ·rename_i fs0 s0 z0 ks ht
   split at h
   ·cases h
   rename_i hkd
   obtain⟨inf,h1,h2,h3,h4,h5⟩:=mQ (hT.ty t _ ht)
   simp only at h5
   cases hg:P.eqGuardType P.depth t with
   | true=>simp [hg] at h5
   | false =>
     simp only [hg] at h5
     split at h
     ·cases h
     ·rename_i kx
      split at h
      ·cases h
      ·rename_i ky
       have hfl:=h5.symm
       obtain⟨ag,hag⟩:=Df hfl
       have hag':=IE h2
       rw [hag'] at hag
       cases hag
       ·have hag:=hag'
        simp only [hkd] at hag
        have sx:oN P t (.agg xs):=.inl ⟨hag,xs,rfl⟩
        have sy:oN P t (.agg ys):=.inl ⟨hag,ys,rfl⟩
        have e1:=Ag (ρ:=ρ) (P:=P) w 12 Op.maxDepth (by decide) t ks (.agg xs) (.agg ys) hfl sx sy kx ky
        refine⟨fun op hop=>?_,?_,by simp [V1.den],by simp [V1.den],by simp [V1.den],by simp [V1.den]⟩
        ·rcases hop with rfl | rfl<;>simp [eqGuard,V1.den,program,Sem.run,hg]
        ·rw [G3 ρ h]
         exact e1
  ·cases h
 ·-- single cells
  rename_i x' y'
  split at h
  ·-- bools
   rename_i ht
   have hk:=PG (b7 hT ht)
   split at h
   ·rename_i a1 ka b1 kb h1 h2
    cases h
    have e1:=cK ρ h1
    have e2:=cK ρ h2
    refine⟨fun op hop=>?_,?_,by simp [V1.den,e1],by simp [V1.den,e1],by simp [V1.den,e1],by simp [V1.den,e1]⟩
    ·rcases hop with rfl | rfl<;>simp [eqGuard,V1.den,e1,e2]
    ·rw [iV,Op.equalIn];simp [V1.den,e1,e2,aU hk]
   ·cases h
  ·-- pointers
   rename_i ht
   obtain⟨el,hk⟩:=Tp (b7 hT ht)
   split at h<;>cases h <;>
    (refine⟨fun op hop=>?_,?_,by simp [V1.den,Cell.den],by simp [V1.den,Cell.den],by simp [V1.den,Cell.den],by simp [V1.den,Cell.den]⟩
     ·rcases hop with rfl | rfl<;>simp [eqGuard,V1.den,Cell.den]
     ·rw [iV,Op.equalIn];simp [V1.den,Cell.den,aU hk])
  ·-- interface values
   rename_i ht
   obtain⟨ms,hk⟩:=Mt (b7 hT ht)
   split at h
   ·split at h
    ·rename_i hcst
     cases h
     refine⟨fun op hop=>?_,?_,by simp [V1.den,Cell.den],by simp [V1.den,Cell.den],by simp [V1.den,Cell.den],by simp [V1.den,Cell.den]⟩
     ·rcases hop with rfl | rfl<;>cases x<;>cases y<;>first | (exact absurd hcst (by decide)) | (simp [Sx.isConst] at hcst;done) | simp [eqGuard,V1.den,Cell.den]
     ·rw [iV,Op.equalIn];simp [V1.den,Cell.den,aU hk]
    ·cases h
   ·cases h
    refine⟨fun op hop=>?_,?_,by simp [V1.den,Cell.den],by simp [V1.den,Cell.den],by simp [V1.den,Cell.den],by simp [V1.den,Cell.den]⟩
    ·rcases hop with rfl | rfl<;>simp [eqGuard,V1.den,Cell.den]
    ·rw [iV,Op.equalIn];simp [V1.den,Cell.den,aU hk]
   ·cases h
    refine⟨fun op hop=>?_,?_,by simp [V1.den,Cell.den],by simp [V1.den,Cell.den],by simp [V1.den,Cell.den],by simp [V1.den,Cell.den]⟩
    ·rcases hop with rfl | rfl<;>simp [eqGuard,V1.den,Cell.den]
    ·rw [iV,Op.equalIn];simp [V1.den,Cell.den,aU hk]
   ·cases h
  ·-- slices
   rename_i ht
   obtain⟨el,hk,_⟩:=jB (b7 hT ht)
   split at h
   ·rename_i b hb
    cases h
    unfold Wh at hb
    split at hb<;>cases hb <;>
     (refine⟨fun op hop=>?_,?_,by simp [V1.den,Cell.den,aW],by simp [V1.den,Cell.den,aW],by simp [V1.den,Cell.den,aW],by simp [V1.den,Cell.den,aW]⟩
      ·rcases hop with rfl | rfl<;>simp [eqGuard,V1.den,Cell.den,aW]
      ·rw [iV,Op.equalIn];simp [V1.den,Cell.den,aW,aU hk])
   ·cases h
  ·cases h
 ·cases h
theorem zd {x:V1} {l h:Int} (e:HX x=some (l,h)):∃k n b,jD (match x with | .c c=>c | _=>.pnil)=some (k,n,b) /\ l<=n /\ n < h /\ ∃c,x=.c c:=by
 unfold HX at e
 split at e
 ·cases e;exact⟨_,_,_,rfl,by omega,by omega,_,rfl⟩
 ·rename_i k n lo hi hh
  cases e;exact⟨_,_,_,rfl,hh.1,hh.2,_,rfl⟩
 ·cases e
theorem Nh {op:BinOp} {l1 h1 l2 h2 a b:Int} {k:IntKind} {bb:Bool} (hc:Qd op l1 h1 l2 h2=some bb) (p1:l1<=a) (p2:a < h1) (q1:l2<=b) (q2:b < h2) (lit:Bool):(mD op k a b lit).val=some (mkB bb lit):=by
 unfold Qd at hc
 split at hc
 ·by_cases hA:h1<=l2
  ·have h3:a < b:=by omega
   simp [jV,hA] at hc;subst hc;simp [mD,T.val,h3]
  ·by_cases hB:h2<=l1+1
   ·have h3:¬a < b:=by omega
    simp [jV,hA,hB] at hc;subst hc;simp [mD,T.val,h3]
   ·simp [jV,hA,hB] at hc
 ·by_cases hA:h1<=l2+1
  ·have h3:a<=b:=by omega
   simp [jV,hA] at hc;subst hc;simp [mD,T.val,h3]
  ·by_cases hB:h2<=l1
   ·have h3:¬a<=b:=by omega
    simp [jV,hA,hB] at hc;subst hc;simp [mD,T.val,h3]
   ·simp [jV,hA,hB] at hc
 ·by_cases hA:h2<=l1
  ·have h3:a > b:=by omega
   simp [jV,hA] at hc;subst hc;simp [mD,T.val,h3]
  ·by_cases hB:h1<=l2+1
   ·have h3:¬a > b:=by omega
    simp [jV,hA,hB] at hc;subst hc;simp only [mD,T.val,h3,decide_false]
   ·simp [jV,hA,hB] at hc
 ·by_cases hA:h2<=l1+1
  ·have h3:a>=b:=by omega
   simp [jV,hA] at hc;subst hc;simp only [mD,T.val,h3,decide_true]
  ·by_cases hB:h1<=l2
   ·have h3:¬a>=b:=by omega
    simp [jV,hA,hB] at hc;subst hc;simp only [mD,T.val,h3,decide_false]
   ·simp [jV,hA,hB] at hc
 ·by_cases hA:h1<=l2
  ·have h3:(a==b)=false:=by simp;omega
   simp [jV,hA] at hc;subst hc;simp [mD,T.val,h3]
  ·by_cases hB:h2<=l1
   ·have h3:(a==b)=false:=by simp;omega
    simp [jV,hA,hB] at hc;subst hc;simp [mD,T.val,h3]
   ·simp [jV,hA,hB] at hc
 ·by_cases hA:h1<=l2
  ·have h3:(a != b)=true:=by simp;omega
   simp [jV,hA] at hc;subst hc;simp [mD,T.val,h3]
  ·by_cases hB:h2<=l1
   ·have h3:(a != b)=true:=by simp;omega
    simp [jV,hA,hB] at hc;subst hc;simp [mD,T.val,h3]
   ·simp [jV,hA,hB] at hc
 ·cases hc
theorem Mz {op:BinOp} {x y r:V1} (h:Tu op x y=some r) {k k':IntKind} {a b:Int} {ka kb:Bool} (hb:Az x y=some (k,a,ka,k',b,kb)) (lit:Bool):∃r0,(mD op k a b lit).val=some r0 /\ (∀ρ:Nm,r.den ρ=r0.den ρ) /\ ClV1 H r:=by
 have hx:∃cx cy,x=.c cx /\ y=.c cy /\ jD cx=some (k,a,ka) /\ jD cy=some (k',b,kb):=by
  unfold Az at hb
  split at hb
  ·rename_i cx cy
   split at hb
   ·rename_i h1
    split at hb
    ·rename_i h2
     cases hb
     exact⟨cx,cy,rfl,rfl,h1,h2⟩
    ·cases hb
   ·cases hb
  ·cases hb
 obtain⟨cx,cy,rfl,rfl,i1,i2⟩:=hx
 have main:∀r,(match Uc op (.c cx) (.c cy) with
  | some r=>some r
  | none=>match HX (.c cx),HX (.c cy) with
    | some (l1,h1),some (l2,h2)=>match Qd op l1 h1 l2 h2 with
      | some b=>some (.c (.bl b))
      | none=>none
    | _,_=>none)=some r->∃r0,(mD op k a b lit).val=some r0 /\ (∀ρ:Nm,r.den ρ=r0.den ρ) /\ ClV1 H r:=by
  intro r h
  split at h
  ·rename_i r' ha
   cases h
   unfold Uc at ha
   split at ha
   ·rename_i k1 a1 lo hi hh k2 m e1 e2
    cases e1;cases e2
    simp only [jD,Option.some.injEq,Prod.mk.injEq] at i1 i2
    obtain⟨rfl,rfl,rfl⟩:=i1
    obtain⟨rfl,rfl,rfl⟩:=i2
    split at ha
    ·split at ha
     ·split at ha
      ·rename_i h0
       cases ha
       have hm:(m != 0)=true:=by simp;omega
       refine⟨mkI k1 (a1.tmod m) lit,by simp [mD,hm,T.val],fun ρ=>?_,dm rfl⟩
       rw [rJ];rfl
      ·cases ha
     ·cases ha
    ·cases ha
   ·rename_i k1 c k2 n lo hi hh e1 e2
    cases e1;cases e2
    simp only [jD,Option.some.injEq,Prod.mk.injEq] at i1 i2
    obtain⟨rfl,rfl,rfl⟩:=i1
    obtain⟨rfl,rfl,rfl⟩:=i2
    split at ha
    ·split at ha
     ·rename_i hd
      have hd:=of_decide_eq_true hd
      cases ha
      refine⟨mkI .i64 (IntKind.i64.wrap (c+n)) lit,by simp [mD,T.val],fun ρ=>?_,dm rfl⟩
      rw [rJ,FH (by omega)];rfl
     ·cases ha
    ·cases ha
   ·cases ha
  ·split at h
   ·rename_i l1 h1 l2 h2 r1 r2
    split at h
    ·rename_i bb hc
     cases h
     obtain⟨_,n1,_,j1,p1,p2,_⟩:=zd r1
     obtain⟨_,n2,_,j2,q1,q2,_⟩:=zd r2
     simp only at j1 j2
     rw [i1] at j1
     rw [i2] at j2
     simp only [Option.some.injEq,Prod.mk.injEq] at j1 j2
     obtain⟨rfl,rfl,rfl⟩:=j1
     obtain⟨rfl,rfl,rfl⟩:=j2
     exact⟨_,Nh hc p1 p2 q1 q2 lit,fun ρ=>by rw [mS];rfl,dm rfl⟩
    ·cases h
   ·cases h
 unfold Tu at h
 split at h
 ·cases h
 ·exact main r h
theorem Jc (ρ:Nm) {a b:V1} {s u:ByteArray} {k q:Bool} (h:Nx a b=some (s,k,u,q)):a.den ρ=.string s /\ b.den ρ=.string u:=by
 unfold Nx at h
 split at h
 ·split at h
  ·split at h
   ·rename_i _ _ h1 _ _ _ h2
    cases h
    exact⟨nL ρ h1,nL ρ h2⟩
   ·cases h
  ·cases h
 ·cases h
theorem strCat_eq (a b:ByteArray):D5 a b=a++b:=by
 apply ByteArray.ext
 rw [ByteArray.data_append]
 apply Array.toList_inj.1
 simp [D5]
theorem strLen_eq (a:ByteArray):gF a=a.size:=by rw [gF,Array.length_toList];rfl
theorem D6 {op:BinOp} {t:TypeId} {x y:Operand} {s u:ByteArray} {lit:Bool} {r:V1} {H:Hp AV} {ρ:Nm} (h:(D7 op s u lit).val=some r) (w:World) :
 (do eqGuard op t x y (.string s) (.string u);binOp op t (.string s) (.string u)).run P w=.ok (r.den ρ) w /\ ClV1 H r:=by
 have eq:(s.toList==u.toList)=wu s u:=by rw [ByteArray.toList_eq,ByteArray.toList_eq,wu,bsEq_eq]
 unfold D7 at h
 split at h
 ·simp only [T.val,Option.some.injEq] at h
  subst h
  refine⟨?_,tz _ _⟩
  rw [Sem.run_bind]
  simp [eqGuard,binOp,Op.stringOp,eq,mS]
 ·simp only [T.val,Option.some.injEq] at h
  subst h
  refine⟨?_,tz _ _⟩
  rw [Sem.run_bind]
  simp [eqGuard,binOp,Op.stringOp,eq,mS]
 ·obtain⟨h1,rfl⟩:=kM h
  refine⟨?_,S5 _ _⟩
  have h1:=Nat.le_of_ble_eq_true h1
  rw [strLen_eq,strLen_eq] at h1
  rw [Sem.run_bind]
  simp [eqGuard,binOp,Op.stringOp,Po,strCat_eq]
  omega
 ·simp [T.val] at h
theorem Qr (hT:TblOk P N) {op:BinOp} {t:TypeId} {x y:Operand} {a b r:V1} (h:(bin N op t (match Sx.isConst x with | true=>true | false=>Sx.isConst y) a b).val=some r) (hs:pa op=false) (w:World) :
 (do eqGuard op t x y (a.den ρ) (b.den ρ);binOp op t (a.den ρ) (b.den ρ)).run P w=.ok (r.den ρ) w /\ ClV1 H r:=by
 unfold bin at h
 split at h
 ·rename_i k a' ka k' b' kb hb
  obtain⟨e1,e2⟩:=Ay ρ hb
  split at h
  ·rename_i hk
   have hk:=of_decide_eq_true hk
   subst hk
   split at h
   ·rename_i r' hiv
    simp only [T.val,Option.some.injEq] at h
    subst h
    unfold WM at hiv
    split at hiv
    ·rename_i k1 n1 cs h1 k2 c2
     simp only [V1.den,Cell.den,Value.int.injEq] at e1 e2
     obtain⟨rfl,rfl⟩:=e1
     obtain⟨rfl,rfl⟩:=e2
     split at hiv
     ·cases hiv
     ·rename_i hin
      have hmem:∀(l:List Int) (m:Int),MK l m=true->m∈l:=by
       intro l
       induction l with
       | nil=>intro m hm;simp [MK] at hm
       | cons y l ih =>
         intro m hm
         simp only [MK] at hm
         split at hm
         ·rename_i hd;rw [of_decide_eq_true hd];simp
         ·exact List.mem_cons_of_mem _ (ih m hm)
      have hne:=h1 c2 (hmem cs c2 hin)
      have hne':¬n1=c2:=by simpa using hne
      split at hiv
      ·cases hiv
       refine⟨?_,dm rfl⟩
       rw [Sem.run_bind]
       simp [eqGuard,binOp,Op.intCmp,V1.den,Cell.den,hne']
      ·cases hiv
       refine⟨?_,dm rfl⟩
       rw [Sem.run_bind]
       simp [eqGuard,binOp,Op.intCmp,V1.den,Cell.den,hne']
      ·cases hiv
    ·cases hiv
   ·split at h
    ·rename_i r' hir
     simp only [T.val,Option.some.injEq] at h
     subst h
     rw [e1,e2]
     obtain⟨r0,h0,h1,h2⟩:=Mz hir hb (match ka with | true=>kb | false=>false)
     obtain⟨g1,g2⟩:=DD (ρ:=ρ) (H:=H) (t:=t) h0 hs x y w
     exact⟨by rw [g1,h1 ρ],h2⟩
    ·rw [e1,e2]
     exact DD h hs x y w
  ·simp [T.val] at h
 ·split at h
  ·rename_i a' ka b' kb hb
   obtain⟨e1,e2⟩:=Jc ρ hb
   rw [e1,e2]
   exact D6 h w
  ·split at h
   ·-- ==
    unfold Wc at h
    split at h
    ·rename_i r' k' he
     simp only [T.val,Option.some.injEq] at h
     subst h
     obtain⟨hg,heq,n1,n2,n3,n4⟩:=G2 (ρ:=ρ) hT he w
     refine⟨?_,tz _ _⟩
     rw [Sem.run_bind,hg .eql (.inl rfl),Result.andThen_ok]
     have:binOp .eql t (a.den ρ) (b.den ρ)=(do pure (.bool (<- Op.equal t (a.den ρ) (b.den ρ)))):=by
      cases hv:a.den ρ<;>simp_all [binOp]
     rw [this,Sem.run_bind,heq]
     simp [mS]
    ·simp [T.val] at h
   ·unfold Wa at h
    split at h
    ·rename_i r' k' he
     simp only [T.val,Option.some.injEq] at h
     subst h
     obtain⟨hg,heq,n1,n2,n3,n4⟩:=G2 (ρ:=ρ) hT he w
     refine⟨?_,tz _ _⟩
     rw [Sem.run_bind,hg .neq (.inr rfl),Result.andThen_ok]
     have:binOp .neq t (a.den ρ) (b.den ρ)=(do pure (.bool (!(<- Op.equal t (a.den ρ) (b.den ρ))))):=by
      cases hv:a.den ρ<;>simp_all [binOp]
     rw [this,Sem.run_bind,heq]
     simp [mS]
    ·simp [T.val] at h
   ·simp [T.val] at h
theorem mw {ρ:Nm} {H:Hp AV} {ev:Operand->Option SV} {e:Operand->Value} (hev:EvOk ρ H ev e):∀{l:List Operand} {vs:List SV},yU ev l=some vs->l.map e=vs.map (SV.den ρ) /\ ∀v∈vs,ClV H v
 | [],vs,h=>by cases h;simp
 | x::r,vs,h=>by
   simp only [yU] at h
   split at h
   ·rename_i v hx
    split at h
    ·rename_i l hl
     cases h
     have ih:=mw hev hl
     refine⟨by simp [ih.1,hev.den _ _ hx],fun y hy=>?_⟩
     rcases List.mem_cons.1 hy with rfl | hy
     ·exact hev.cl _ _ hx
     ·exact ih.2 y hy
    ·cases h
   ·cases h
end
section
variable {AV:Type} {P:Program} {N:Env AV} {ρ:Nm} {H:Hp AV} {ev:Operand->Option SV} {e:Operand->Value}
theorem j9 {H:Hp AV} {c d:Cell} (h:ClV H (.v (.c c))) (hn:d.name=c.name):ClV H (.v (.c d)):=by
 intro x hx n hxn
 simp [V1.cells] at hx
 subst hx
 exact h c (by simp [V1.cells]) n (by rw [<- hn];exact hxn)
theorem Jb (hT:TblOk P N) (hev:EvOk ρ H ev e) {t:TypeId} {parts:Array (Nat×Operand)} {fs:List FdI} {sz:Nat} {z l:List Cell} {fl:Option (List FK)} {ps:List (Nat×V1)}
 (ht:N.tt.get t=some ⟨.struct fs,sz,some z,fl⟩) (hp:sa ev parts.toList=some ps) (hf:zW fs z ps=some l) (w:World) :
 (Instr.build t (parts.map fun(i,x)=>(i,e x))).run P w=.ok (.agg (ah ρ l).toArray) w /\ ClL H l:=by
 obtain⟨a,hu,hfd⟩:=tH (b7 hT ht)
 obtain⟨v,hz,hzc,hzn⟩:=qV hT ht rfl ρ
 obtain⟨hp1,hp2⟩:=rZ hev hp
 have hpl:∀(r:List Field) (q:List FdI),BG P r=some q->∀w,(r.mapM (fun(f:Field)=>do pure (f.offset,<- sizeOf f.type)):Sem (List (Nat×Nat))).run P w=.ok (q.map fun f=>(f.off,f.size)) w:=by
  intro r
  induction r with
  | nil=>intro q h w;cases h;simp
  | cons g r ih =>
    intro q h w
    simp only [BG] at h
    split at h
    ·rename_i n ag q' h1 h2 h3
     cases h
     have:=ih q' h3 w
     simp only [List.mapM_cons,Sem.run_bind,bM h1 w,Result.andThen_ok,Sem.run_pure,this,List.map_cons]
    ·cases h
 have hpl':=hpl a.toList fs hfd w
 have hmap:(a.mapM (fun(f:Field)=>do pure (f.offset,<- sizeOf f.type)):Sem (Array (Nat×Nat)))=(fun l=>l.toArray) <$> (a.toList.mapM (fun(f:Field)=>do pure (f.offset,<- sizeOf f.type)):Sem (List (Nat×Nat))):=by
  rw [<- Array.toArray_toList (xs:=a),List.mapM_toArray]
 have hfill:=Dg (P:=P) (ρ:=ρ) (H:=H) (fs:=a.toList) (l:=fs) hfd (fun i=>((fs.map fun f=>(f.off,f.size)).toArray)[i]?) (by
  intro i f hi
  have:=xa hi
  simp [this]) ps z l hf (eh hzn) hp2
 refine⟨?_,hfill.2⟩
 have hzc':v.cells=(ah ρ z).toArray:=by rw [<- hzc]
 have hparts:(parts.map fun(x:Nat×Operand)=>match x with | (i,x)=>(i,e x)).toList=ps.map fun p=>(p.1,p.2.den ρ):=by
  rw [<- hp1]
  simp
 unfold Instr.build
 simp only [Sem.run_bind,hz,Result.andThen_ok,aU hu,hmap,Sem.run_map,hpl']
 rw [hzc']
 have h3:=hfill.1
 rw [<- hparts] at h3
 simp only [h3]
 rfl
theorem Ft (hT:TblOk P N) (hev:EvOk ρ H ev e) {t:TypeId} {parts:Array (Nat×Operand)} {len esz sz:Nat} {ag:Bool} {z l:List Cell} {fl:Option (List FK)} {ps:List (Nat×V1)}
 (ht:N.tt.get t=some ⟨.arr len esz ag,sz,some z,fl⟩) (hp:sa ev parts.toList=some ps) (hf:p8 esz z ps=some l) (w:World) :
 (Instr.build t (parts.map fun(i,x)=>(i,e x))).run P w=.ok (.agg (ah ρ l).toArray) w /\ ClL H l:=by
 obtain⟨el,hu,hsz,hag⟩:=tK (b7 hT ht)
 obtain⟨v,hz,hzc,hzn⟩:=qV hT ht rfl ρ
 obtain⟨hp1,hp2⟩:=rZ hev hp
 have hfill:=tX (ρ:=ρ) (H:=H) esz ps z l hf (eh hzn) hp2
 refine⟨?_,hfill.2⟩
 have hzc':v.cells=(ah ρ z).toArray:=by rw [<- hzc]
 have hparts:(parts.map fun(x:Nat×Operand)=>match x with | (i,x)=>(i,e x)).toList=ps.map fun p=>(p.1,p.2.den ρ):=by
  rw [<- hp1]
  simp
 unfold Instr.build
 simp only [Sem.run_bind,hz,Result.andThen_ok,aU hu,bM hsz]
 rw [hzc']
 have h3:=hfill.1
 rw [<- hparts] at h3
 simp only [h3]
 rfl
theorem uR:∀{l:List SV} {cs:List Cell},BP l=some cs->(∀ρ:Nm,l.map (SV.den ρ)=ah ρ cs) /\ ∀c∈cs,∀{H:Hp AV},(∀x∈l,ClV H x)->ClC H c
 | [],cs,h=>by cases h;exact⟨fun _=>rfl,fun c hc=>by cases hc⟩
 | .v (.c c)::r,cs,h=>by
   simp only [BP] at h
   split at h
   ·rename_i q hq
    cases h
    obtain⟨h1,h2⟩:=uR hq
    refine⟨fun ρ=>by rw [List.map_cons,h1 ρ];rfl,fun d hd H hx=>?_⟩
    rcases List.mem_cons.1 hd with rfl | hd
    ·exact hx (.v (.c d)) (by simp) d (by simp [V1.cells])
    ·exact h2 d hd fun x hx'=>hx x (by simp [hx'])
   ·cases h
 | .v (.agg _)::_,cs,h=>by cases h
 | .tup _::_,cs,h=>by cases h
 | .unk::_,cs,h=>by cases h
 | .clo _ _::_,cs,h=>by cases h
theorem cutTx_eq (s:ByteArray) (l h:Nat):G8 s l h=s.extract l h:=by
 apply ByteArray.ext
 apply Array.toList_inj.1
 simp [G8,ByteArray.data_extract,List.drop_take]
theorem AD {x:SV} {n:Int} {k:Bool} (h:Ub x=some (n,k)) (ρ:Nm):∃ik,x.den ρ=.int ik n:=by
 unfold Ub at h
 split at h
 ·rename_i c
  split at h
  ·rename_i ik m k' hc
   cases h
   exact⟨ik,cR ρ hc⟩
  ·cases h
 ·cases h
theorem Pn (H:Hp AV) (s:ByteArray) (k:Bool):ClV H (.v (mkS s k)):=by
 intro c hc m hm
 cases k<;>· simp [mkS,V1.cells] at hc;subst hc;cases hm
theorem LP (ρ:Nm) (s:ByteArray) (k:Bool):(SV.v (mkS s k)).den ρ=.string s:=by
 cases k<;>rfl
theorem E7 {ev:Operand->Value} {o:Oper} {t:TypeId} {x:Operand} {lo hi:Option Operand} {w:World} (ho:o.op=.slice t x lo hi none) (hu:P.underlying t=some .string)
 {s:ByteArray} {l h:Nat} {m:Nat} (hx:ev x=.string s) (hb:(Instr.sliceBounds false s.size s.size (lo.map ev) (hi.map ev) none).run P w=.ok (l,h,m) w) :
 (execOp ev o).run P w=.ok (.value (.string (G8 s l h))) w:=by
 obtain⟨dst,op,ty,pos,after,guard⟩:=o
 simp only at ho
 subst ho
 rw [cutTx_eq]
 simp [execOp,hx,run_sliceAt_string w t _ _ _ _ hu,Instr.slice,run_underlying hu,hb,Result.andThen]
theorem Fg (w:World) {e:Operand->Value} {lo hi:Option Operand} {ev:Operand->Option SV} {H:Hp AV} {ρ:Nm} (hev:EvOk ρ H ev e) {s:ByteArray} {l h:Int} {k k':Bool} (hl:u9 ev 0 lo=some (l,k)) (hh:u9 ev (gF s) hi=some (h,k')) (b:0<=l /\ l<=h /\ h<=(gF s:Int)) :
 ∃m,(Instr.sliceBounds false s.size s.size (lo.map e) (hi.map e) none).run P w=.ok (l.toNat,h.toNat,m) w:=by
 obtain⟨b1,b2,b3⟩:=b
 have es:(gF s)=s.size:=strLen_eq s
 rw [es] at b3
 have gl:∀x,lo=some x->∃ik,e x=.int ik l:=fun x hx=>by
  subst hx
  unfold u9 at hl
  split at hl
  ·rename_i hx;cases hx
  ·rename_i y v hv
   cases hv
   split at hl
   ·rename_i v' hv'
    rw [hev.den _ _ hv']
    exact AD hl ρ
   ·cases hl
 have gh:∀x,hi=some x->∃ik,e x=.int ik h:=fun x hx=>by
  subst hx
  unfold u9 at hh
  split at hh
  ·rename_i hx;cases hx
  ·rename_i y v hv
   cases hv
   split at hh
   ·rename_i v' hv'
    rw [hev.den _ _ hv']
    exact AD hh ρ
   ·cases hh
 cases lo with
 | none =>
   cases hl
   cases hi with
   | none =>
     cases hh
     refine⟨s.size,?_⟩
     have e4:(gF s:Int).toNat=s.size:=by rw [strLen_eq];rfl
     rw [e4]
     simp [Instr.sliceBounds,Result.andThen]
   | some y =>
     obtain⟨jk,e5⟩:=gh y rfl
     have hb:=run_sliceBound (P:=P) w jk h s.size .sliceAlen b2 (by omega)
     exact⟨s.size,by simp [Instr.sliceBounds,e5,hb,Result.andThen]⟩
 | some x =>
   obtain⟨ik,e3⟩:=gl x rfl
   cases hi with
   | none =>
     cases hh
     have e4:(gF s:Int).toNat=s.size:=by rw [strLen_eq];rfl
     rw [e4]
     have hb:=run_sliceBound (P:=P) w ik l s.size .sliceB b1 (by rw [es] at b2;omega)
     exact⟨s.size,by simp [Instr.sliceBounds,e3,hb,Result.andThen]⟩
   | some y =>
     obtain⟨jk,e5⟩:=gh y rfl
     have hb:=run_sliceBound (P:=P) w jk h s.size .sliceAlen (by omega) (by omega)
     have hb2:=run_sliceBound (P:=P) w ik l h.toNat .sliceB b1 (by omega)
     exact⟨s.size,by simp [Instr.sliceBounds,e3,e5,hb,hb2,Result.andThen]⟩
theorem wT (hT:TblOk P N) (hev:EvOk ρ H ev e) {o:Oper} {t:T SV} {v:SV} (h:nX N ev o.op=some t) (hv:t.val=some v) (w:World) :
 (execOp e o).run P w=.ok (.value (v.den ρ)) w /\ ClV H v:=by
 obtain⟨dst,op,ty,pos,after,guard⟩:=o
 simp only at h
 unfold nX at h
 split at h
 ·-- move
  cases h
  split at hv
  ·rename_i x v' hx
   simp only [T.val,Option.some.injEq] at hv
   subst hv
   exact⟨by simp [execOp,hev.den _ _ hx],hev.cl _ _ hx⟩
  ·simp [T.val] at hv
 ·-- assign
  cases h
  split at hv
  ·rename_i x v' hx
   simp only [T.val,Option.some.injEq] at hv
   subst hv
   exact⟨by simp [execOp,hev.den _ _ hx],hev.cl _ _ hx⟩
  ·simp [T.val] at hv
 ·-- pick
  cases h
  split at hv
  ·rename_i c x y h1 h2 h3
   have e1:=hev.den _ _ h1
   have e2:=hev.den _ _ h2
   have e3:=hev.den _ _ h3
   split at hv
   ·rename_i t' hb
    have hb':=cK ρ hb
    split at hv
    ·simp only [T.val,Option.some.injEq] at hv;subst hv
     exact⟨by simp [execOp,e1,e2,SV.den,V1.den,hb',asBool],hev.cl _ _ h2⟩
    ·simp only [T.val,Option.some.injEq] at hv;subst hv
     exact⟨by simp [execOp,e1,e3,SV.den,V1.den,hb',asBool],hev.cl _ _ h3⟩
   ·rename_i t' hb
    have hb':=cK ρ hb
    cases t' with
    | true=>simp only [T.val,Option.some.injEq] at hv;subst hv;exact⟨by simp [execOp,e1,e2,SV.den,V1.den,hb',asBool],hev.cl _ _ h2⟩
    | false=>simp only [T.val,Option.some.injEq] at hv;subst hv;exact⟨by simp [execOp,e1,e3,SV.den,V1.den,hb',asBool],hev.cl _ _ h3⟩
   ·simp [T.val] at hv
  ·simp [T.val] at hv
 ·-- build
  cases h
  split at hv
  ·rename_i fs sz z fl ps h1 h2
   split at hv
   ·rename_i l hl
    simp only [T.val,Option.some.injEq] at hv
    subst hv
    obtain⟨b1,b2⟩:=Jb hT hev h1 h2 hl w
    refine⟨?_,b2⟩
    simp only [execOp,Sem.run_bind]
    erw [b1]
    rfl
   ·simp [T.val] at hv
  ·rename_i len esz sz z fl ps h1 h2
   split at hv
   ·rename_i l hl
    simp only [T.val,Option.some.injEq] at hv
    subst hv
    obtain⟨b1,b2⟩:=Ft hT hev h1 h2 hl w
    refine⟨?_,b2⟩
    simp only [execOp,Sem.run_bind]
    erw [b1]
    rfl
   ·simp [T.val] at hv
  ·simp [T.val] at hv
 ·-- nilCheck
  cases h
  split at hv
  ·rename_i n off h1
   simp only [T.val,Option.some.injEq] at hv;subst hv
   exact⟨by simp [execOp,hev.den _ _ h1,SV.den,V1.den,Cell.den],hev.cl _ _ h1⟩
  ·rename_i h1
   simp only [T.val,Option.some.injEq] at hv;subst hv
   exact⟨by simp [execOp,hev.den _ _ h1,SV.den,V1.den,Cell.den],hev.cl _ _ h1⟩
  ·rename_i h1
   simp only [T.val,Option.some.injEq] at hv;subst hv
   exact⟨by simp [execOp,hev.den _ _ h1,SV.den,V1.den,Cell.den],hev.cl _ _ h1⟩
  ·rename_i h1
   simp only [T.val,Option.some.injEq] at hv;subst hv
   exact⟨by simp [execOp,hev.den _ _ h1,SV.den,V1.den,Cell.den],hev.cl _ _ h1⟩
  ·rename_i h1
   simp only [T.val,Option.some.injEq] at hv;subst hv
   exact⟨by simp [execOp,hev.den _ _ h1,SV.den],hev.cl _ _ h1⟩
  ·simp [T.val] at hv
 ·-- makeFunc
  rename_i fn0 first0 captured0
  cases h
  split at hv
  ·rename_i f l h1 h2
   split at hv
   ·rename_i cs hcs
    simp only [T.val,Option.some.injEq] at hv;subst hv
    obtain⟨e1,e2⟩:=mw hev h2
    obtain⟨e3,e4⟩:=uR hcs
    refine⟨?_,fun c hc=>e4 c hc (fun x hx=>e2 x hx)⟩
    have hcap:captured0.map e=(ah ρ cs).toArray:=by
     rw [<- e3 ρ,<- e1,<- Array.toList_map,Array.toArray_toList]
    have hfirst:first0.map e=#[]:=by
     rw [<- Array.toArray_toList (xs:=first0.map e),Array.toList_map,h1];rfl
    simp only [execOp,Sem.run_bind,Instr.makeFunc,Sem.run_pure,Result.andThen_ok,SV.den,hcap,hfirst]
   ·simp [T.val] at hv
  ·simp [T.val] at hv
 ·-- fieldAddr
  rename_i t0 x0 i0
  cases h
  have hfs:∀{t:TypeId} {fs:List FdI},rX N t=some fs->∃a,P.underlying t=some (.struct a) /\ BG P a.toList=some fs:=by
   intro t fs hf
   unfold rX at hf
   split at hf
   ·rename_i ht;cases hf;exact tH (b7 hT ht)
   ·cases hf
  split at hv
  ·rename_i n off fs h1 h2
   obtain⟨a,hu,hfd⟩:=hfs h2
   split at hv
   ·rename_i f hf
    obtain⟨g,hg,ho,hsz,_⟩:=vB hfd hf
    split at hv
    ·rename_i hz
     have hz:=(aR _ _).1 hz
     simp only [T.val,Option.some.injEq] at hv;subst hv
     refine⟨?_,j9 (hev.cl _ _ h1) rfl⟩
     have hg':a[i0]?=some g:=by simpa using hg
     simp only [execOp,Sem.run_bind,Instr.fieldAt,aU hu,Result.andThen_ok,hg',hev.den _ _ h1,SV.den,V1.den,Cell.den,Instr.sureAddr,Sem.run_pure,fieldPlace,bM hsz,if_neg hz]
     simp only [Addr.add]
     split
     ·rename_i h0;simp [ho,h0]
     ·simp [ho]
    ·simp [T.val] at hv
   ·simp [T.val] at hv
  ·rename_i n o' k' es off fs h1 h2
   obtain⟨a,hu,hfd⟩:=hfs h2
   split at hv
   ·rename_i f hf
    obtain⟨g,hg,ho,hsz,_⟩:=vB hfd hf
    split at hv
    ·rename_i hz
     have hz:=(aR _ _).1 hz
     simp only [T.val,Option.some.injEq] at hv;subst hv
     refine⟨?_,j9 (hev.cl _ _ h1) rfl⟩
     have hg':a[i0]?=some g:=by simpa using hg
     simp only [execOp,Sem.run_bind,Instr.fieldAt,aU hu,Result.andThen_ok,hg',hev.den _ _ h1,SV.den,V1.den,Cell.den,Instr.sureAddr,Sem.run_pure,fieldPlace,bM hsz,if_neg hz]
     simp only [Addr.add]
     split
     ·rename_i h0;simp [ho,h0]
     ·simp [ho,Nat.add_assoc]
    ·simp [T.val] at hv
   ·simp [T.val] at hv
  ·simp [T.val] at hv
 ·-- field
  rename_i t0 x0 i0
  cases h
  split at hv
  ·rename_i l fs h1 h2
   unfold rX at h2
   split at h2
   ·rename_i ht
    cases h2
    obtain⟨a,hu,hfd⟩:=tH (b7 hT ht)
    split at hv
    ·rename_i f hf
     obtain⟨g,hg,ho,hsz,hag⟩:=vB hfd hf
     unfold one at hv
     split at hv
     ·rename_i x hx
      simp only [T.val,Option.some.injEq] at hv;subst hv
      have hpr:=rB (ρ:=ρ) hag hsz hx w
      refine⟨?_,wV hx (hev.cl _ _ h1)⟩
      have hg':a[i0]?=some g:=by simpa using hg
      simp only [execOp,Sem.run_bind,Instr.field,aU hu,Result.andThen_ok,hg',hev.den _ _ h1,SV.den,V1.den,asAgg,Sem.run_pure,<- ho,hpr]
     ·simp [T.val] at hv
    ·simp [T.val] at hv
   ·cases h2
  ·simp [T.val] at hv
 ·-- binOp
  cases h
  split at hv
  ·rename_i a b h1 h2
   split at hv
   ·rename_i hs
    rw [T.val_map] at hv
    obtain⟨r,hr,rfl⟩:=Option.map_eq_some_iff.1 hv
    unfold Kz at hr
    split at hr
    ·rename_i k' a' ka kk b' kb hb
     obtain⟨e1,e2⟩:=Ay ρ hb
     obtain⟨hk,rfl⟩:=kM hr
     have hk:¬b' < 0:=by have:=of_decide_eq_true hk;omega
     refine⟨?_,Bs _ _ _⟩
     simp only [execOp,hev.den _ _ h1,hev.den _ _ h2,SV.den,e1,e2]
     rw [Sem.run_bind,HT hs hk,rJ]
     rfl
    ·simp [T.val] at hr
   ·rename_i hs
    rw [T.val_map] at hv
    obtain⟨r,hr,rfl⟩:=Option.map_eq_some_iff.1 hv
    obtain⟨b1,b2⟩:=Qr (ρ:=ρ) (H:=H) hT hr hs w
    refine⟨?_,b2⟩
    simp only [execOp,hev.den _ _ h1,hev.den _ _ h2,SV.den]
    rw [Sem.run_bind,b1]
    rfl
  ·simp [T.val] at hv
 ·-- not
  cases h
  split at hv
  ·rename_i c h1
   split at hv
   ·rename_i b k hb
    simp only [T.val,Option.some.injEq] at hv;subst hv
    refine⟨?_,tz _ _⟩
    have e1:e _=.bool b:=(hev.den _ _ h1).trans (cK ρ hb)
    simp [execOp,e1,Op.unary,SV.den,mS]
   ·simp [T.val] at hv
  ·simp [T.val] at hv
 ·-- neg
  cases h
  split at hv
  ·rename_i c h1
   split at hv
   ·rename_i k n l hb
    simp only [T.val,Option.some.injEq] at hv;subst hv
    refine⟨?_,fun c hc=>Bs _ _ _ c hc⟩
    have e1:e _=.int k n:=(hev.den _ _ h1).trans (cR ρ hb)
    simp [execOp,e1,Op.unary,Op.intArith,SV.den,rJ]
   ·simp [T.val] at hv
  ·simp [T.val] at hv
 ·-- a part of a text
  rename_i t' x lo hi mx
  split at h
  ·rename_i htx
   cases h
   cases mx with
   | some _=>cases htx
   | none =>
     unfold T7 at hv
     split at hv
     ·rename_i h1 h2
      split at hv
      ·rename_i s ks hs
       split at hv
       ·rename_i l k h' k' hl hh
        obtain⟨hb,hv⟩:=cZ hv
        simp only [T.val,Option.some.injEq] at hv
        subst hv
        obtain⟨m,hm⟩:=Fg (P:=P) w hev hl hh (of_decide_eq_true hb)
        refine⟨?_,Pn _ _ _⟩
        have e1:e x=.string s:=(hev.den _ _ h2).trans (nL ρ hs)
        have:=E7 (P:=P) (ev:=e) (o:=⟨dst,.slice t' x lo hi none,ty,pos,after,guard⟩) (w:=w) rfl (xN (b7 hT h1)) e1 hm
        rw [LP]
        exact this
       ·simp [T.val] at hv
      ·simp [T.val] at hv
     ·simp [T.val] at hv
  ·cases h
 ·-- extract
  cases h
  split at hv
  ·rename_i l h1
   split at hv
   ·rename_i x hx
    simp only [T.val,Option.some.injEq] at hv;subst hv
    have:=xa hx
    refine⟨?_,(hev.cl _ _ h1) x (List.mem_of_getElem? this)⟩
    simp [execOp,hev.den _ _ h1,SV.den,Instr.extract,this]
   ·simp [T.val] at hv
  ·simp [T.val] at hv
 ·-- makeInterface
  cases h
  split at hv
  ·rename_i c k _ _ _ h1 h2
   split at hv
   ·simp [T.val] at hv
   ·rename_i hne
    simp only [T.val,Option.some.injEq] at hv;subst hv
    obtain⟨d,hd,hno⟩:=Bx (b7 hT h2) (fun hk=>hne hk)
    refine⟨?_,j9 (hev.cl _ _ h1) rfl⟩
    simp only [execOp,Sem.run_bind,Instr.makeInterface,aU hd,Result.andThen_ok,hev.den _ _ h1,SV.den,V1.den,Cell.den]
    cases d<;>first | rfl | exact absurd rfl (hno _)
  ·simp [T.val] at hv
 ·-- indexAddr
  cases h
  split at hv
  ·rename_i n off kk k len sz ag _ _ _ h1 h2 h3
   obtain⟨el,hu,hsz,hag⟩:=tK (b7 hT h3)
   split at hv
   ·rename_i hk
    have hk:=of_decide_eq_true hk
    simp only [T.val,Option.some.injEq] at hv;subst hv
    refine⟨?_,j9 (hev.cl _ _ h1) rfl⟩
    simp only [execOp,Sem.run_bind,Instr.indexAt,hev.den _ _ h1,hev.den _ _ h2,SV.den,V1.den,Cell.den,asIntOf,Sem.run_pure,Result.andThen_ok,aU hu,Instr.sureAddr,hk,and_self,if_true,bM hsz]
    simp only [Addr.add]
    split
    ·rename_i h0;simp [h0]
    ·rfl
   ·simp [T.val] at hv
  ·rename_i n k0 e0 off kk k len sz ag _ _ _ h1 h2 h3
   obtain⟨el,hu,hsz,hag⟩:=tK (b7 hT h3)
   split at hv
   ·rename_i hk
    have hk:=of_decide_eq_true hk
    simp only [T.val,Option.some.injEq] at hv;subst hv
    refine⟨?_,j9 (hev.cl _ _ h1) rfl⟩
    simp only [execOp,Sem.run_bind,Instr.indexAt,hev.den _ _ h1,hev.den _ _ h2,SV.den,V1.den,Cell.den,asIntOf,Sem.run_pure,Result.andThen_ok,aU hu,Instr.sureAddr,hk,and_self,if_true,bM hsz]
    simp only [Addr.add]
    split
    ·rename_i h0;simp [h0]
    ·simp [Nat.add_assoc]
   ·simp [T.val] at hv
  ·rename_i n o' len cp kk k sz _ _ _ h1 h2 h3
   obtain⟨el,hu,hsz⟩:=jB (b7 hT h3)
   split at hv
   ·rename_i hk
    have hk:=of_decide_eq_true hk
    simp only [T.val,Option.some.injEq] at hv;subst hv
    refine⟨?_,j9 (hev.cl _ _ h1) rfl⟩
    simp only [execOp,Sem.run_bind,Instr.indexAt,hev.den _ _ h1,hev.den _ _ h2,SV.den,V1.den,Cell.den,asIntOf,Sem.run_pure,Result.andThen_ok,aU hu,hk,and_self,if_true,bM hsz]
    simp only [Addr.add]
    split
    ·rename_i h0;simp [h0]
    ·rfl
   ·simp [T.val] at hv
  ·rename_i n o' len es kn ix sz _ _ _ h1 h2 h3
   obtain⟨el,hu,hsz⟩:=jB (b7 hT h3)
   split at hv
   ·rename_i hes
    have hes:=(ai _ _).1 hes
    subst hes
    split at hv
    ·rename_i kk k lit hi
     obtain⟨hk,hv⟩:=kM hv
     have hk:=of_decide_eq_true hk
     subst hv
     refine⟨?_,j9 (hev.cl _ _ h1) rfl⟩
     have hl0:¬(len=0 /\ (ρ.L n).c=0):=by omega
     simp only [execOp,Sem.run_bind,Instr.indexAt,hev.den _ _ h1,hev.den _ _ h2,SV.den,V1.den,Cell.den,aW,if_neg hl0,cR ρ hi,asIntOf,Sem.run_pure,Result.andThen_ok,aU hu,hk,and_self,if_true,bM hsz]
     simp only [Addr.add,Nat.add_mul]
     split
     ·rename_i h0;simp [h0,Nm.f]
     ·simp [Nm.f,Nat.add_assoc]
    ·simp [T.val] at hv
   ·simp [T.val] at hv
  ·rename_i n off ix len sz ag _ _ _ _ h1 h2 h3
   obtain⟨el,hu,hsz,hag⟩:=tK (b7 hT h3)
   split at hv
   ·rename_i kk k lit hi _
    rw [T.val_map] at hv
    obtain⟨j,hj,rfl⟩:=Option.map_eq_some_iff.1 hv
    obtain⟨rfl,hlt⟩:=E0 hj
    have hk:(0:Int)<=(j:Int) /\ (j:Int) < (len:Int):=by omega
    refine⟨?_,j9 (hev.cl _ _ h1) rfl⟩
    simp only [execOp,Sem.run_bind,Instr.indexAt,hev.den _ _ h1,hev.den _ _ h2,SV.den,V1.den,Cell.den,cR ρ hi,asIntOf,Sem.run_pure,Result.andThen_ok,aU hu,Instr.sureAddr,hk,and_self,if_true,bM hsz]
    simp only [Addr.add,Int.toNat_natCast]
    split
    ·rename_i h0;simp [h0]
    ·rfl
   ·simp [T.val] at hv
  ·rename_i n k0 e0 off ix len sz ag _ _ _ _ h1 h2 h3
   obtain⟨el,hu,hsz,hag⟩:=tK (b7 hT h3)
   split at hv
   ·rename_i kk k lit hi
    obtain⟨hk,hv⟩:=cZ hv
    have hk:=of_decide_eq_true hk
    simp only [T.val,Option.some.injEq] at hv;subst hv
    refine⟨?_,j9 (hev.cl _ _ h1) rfl⟩
    simp only [execOp,Sem.run_bind,Instr.indexAt,hev.den _ _ h1,hev.den _ _ h2,SV.den,V1.den,Cell.den,cR ρ hi,asIntOf,Sem.run_pure,Result.andThen_ok,aU hu,Instr.sureAddr,hk,and_self,if_true,bM hsz]
    simp only [Addr.add]
    split
    ·rename_i h0;simp [h0,offN_eq]
    ·simp only [offN_eq,Nat.add_assoc,Nat.add_comm off]
   ·simp [T.val] at hv
  ·simp [T.val] at hv
 ·-- convert
  cases h
  split at hv
  ·rename_i c i0 k sz z fl h1 h2 h3
   split at hv
   ·rename_i kk n lit hi
    simp only [T.val,Option.some.injEq] at hv;subst hv
    obtain⟨d0,hd0⟩:=PF (b7 hT h2)
    have hd1:=Tq (b7 hT h3)
    refine⟨?_,Nf _ _ _ _⟩
    simp only [execOp,Sem.run_bind,convert,aU hd0,aU hd1,Result.andThen_ok,hev.den _ _ h1,SV.den,V1.den,cR ρ hi,Conv.intToInt,Sem.run_pure]
    exact congrArg (fun v=>Result.ok (Next.value v) w) (I2 ρ hi).symm
   ·simp [T.val] at hv
  ·simp [T.val] at hv
 ·-- index
  cases h
  split at hv
  ·rename_i s ix sz z fl h1 h2 h3
   split at hv
   ·rename_i kk n lit hi
    rw [T.val_map] at hv
    obtain⟨v',hv',rfl⟩:=Option.map_eq_some_iff.1 hv
    obtain⟨hk,rfl⟩:=kM hv'
    have hk:=of_decide_eq_true hk
    have hd:=xN (b7 hT h3)
    refine⟨?_,Bs _ _ _⟩
    have hlt:n.toNat < s.data.toList.length:=by omega
    have e1:s[n.toNat]?=some (s.data.toList[n.toNat]):=by
     have hlt':=hlt
     rw [Array.length_toList] at hlt'
     have:n.toNat < s.size:=hlt'
     rw [getElem?_pos s n.toNat this]
     rfl
    have e2:Ax s n=((s.data.toList[n.toNat]).toNat:Int):=by
     unfold Ax
     rw [nth_eq,List.getElem?_eq_getElem hlt]
    simp only [execOp,Sem.run_bind,Instr.index,hev.den _ _ h1,hev.den _ _ h2,SV.den,V1.den,Cell.den,cR ρ hi,asIntOf,Sem.run_pure,Result.andThen_ok,aU hd,hk.1,if_true,e1,e2]
    cases lit<;>rfl
   ·simp [T.val] at hv
  ·rename_i s ix sz z fl h1 h2 h3
   split at hv
   ·rename_i kk n lit hi
    rw [T.val_map] at hv
    obtain⟨v',hv',rfl⟩:=Option.map_eq_some_iff.1 hv
    obtain⟨hk,rfl⟩:=kM hv'
    have hk:=of_decide_eq_true hk
    have hd:=xN (b7 hT h3)
    refine⟨?_,dm rfl⟩
    have hlt:n.toNat < s.data.toList.length:=by omega
    have e1:s[n.toNat]?=some (s.data.toList[n.toNat]):=by
     have hlt':=hlt
     rw [Array.length_toList] at hlt'
     have:n.toNat < s.size:=hlt'
     rw [getElem?_pos s n.toNat this]
     rfl
    have e2:Ax s n=((s.data.toList[n.toNat]).toNat:Int):=by
     unfold Ax
     rw [nth_eq,List.getElem?_eq_getElem hlt]
    simp only [execOp,Sem.run_bind,Instr.index,hev.den _ _ h1,hev.den _ _ h2,SV.den,V1.den,Cell.den,cR ρ hi,asIntOf,Sem.run_pure,Result.andThen_ok,aU hd,hk.1,if_true,e1,e2]
   ·simp [T.val] at hv
  ·rename_i l kk k len sz ag _ _ _ h1 h2 h3
   obtain⟨el,hu,hsz,hag⟩:=tK (b7 hT h3)
   split at hv
   ·rename_i hk
    have hk:=of_decide_eq_true hk
    unfold one at hv
    split at hv
    ·rename_i x hx
     simp only [T.val,Option.some.injEq] at hv;subst hv
     have hpr:=rB (ρ:=ρ) hag hsz hx w
     refine⟨?_,wV hx (hev.cl _ _ h1)⟩
     simp only [execOp,Sem.run_bind,Instr.index,hev.den _ _ h1,hev.den _ _ h2,SV.den,V1.den,Cell.den,asIntOf,Sem.run_pure,Result.andThen_ok,aU hu,hk,and_self,if_true,bM hsz,hpr]
    ·simp [T.val] at hv
   ·simp [T.val] at hv
  ·simp [T.val] at hv
 ·-- len
  rename_i c
  split at h
  ·rename_i hcal
   cases h
   obtain⟨cal,args,tys⟩:=c
   simp only at hcal hv
   subst hcal
   split at hv
   ·rename_i x t hx ht
    obtain rfl:args=#[x]:=by cases args;simp at hx;simp [hx]
    obtain rfl:tys=#[t]:=by cases tys;simp at ht;simp [ht]
    split at hv
    ·rename_i len _ _ _ _ _ h1 h2
     obtain⟨el,hu,_⟩:=jB (b7 hT h2)
     simp only [T.val,Option.some.injEq] at hv;subst hv
     refine⟨?_,dm rfl⟩
     simp [execOp,resolve,invoke,builtin,Builtin.len_,hev.den _ _ h1,SV.den,V1.den,Cell.den,aU hu,goInt]
    ·rename_i h1 h2
     obtain⟨el,hu,_⟩:=jB (b7 hT h2)
     simp only [T.val,Option.some.injEq] at hv;subst hv
     refine⟨?_,dm rfl⟩
     simp [execOp,resolve,invoke,builtin,Builtin.len_,hev.den _ _ h1,SV.den,V1.den,Cell.den,aU hu,goInt]
    ·rename_i h1 h2
     obtain⟨el,hu,_⟩:=jB (b7 hT h2)
     simp only [T.val,Option.some.injEq] at hv;subst hv
     refine⟨?_,dm rfl⟩
     simp [execOp,resolve,invoke,builtin,Builtin.len_,hev.den _ _ h1,SV.den,V1.den,Cell.den,aU hu,goInt]
    ·rename_i n0 o0 es0 z0 f0 p0 _ _ _ _ h1 h2
     obtain⟨el,hu,_⟩:=jB (b7 hT h2)
     simp only [T.val,Option.some.injEq] at hv;subst hv
     refine⟨?_,dm rfl⟩
     have hbc:∃b c,aW (f0.ap (ρ.L n0)) 0 0 es0=.slice b 0 c:=by
      unfold aW
      split
      ·exact⟨_,_,rfl⟩
      ·exact⟨_,_,rfl⟩
     obtain⟨b,c,hbc⟩:=hbc
     simp [execOp,resolve,invoke,builtin,Builtin.len_,hev.den _ _ h1,SV.den,V1.den,Cell.den,hbc,aU hu,goInt]
    ·rename_i n0 o0 len es0 kn _ _ _ _ h1 h2
     obtain⟨el,hu,_⟩:=jB (b7 hT h2)
     simp only [T.val,Option.some.injEq] at hv;subst hv
     refine⟨?_,by cases kn<;>exact dm rfl⟩
     have:∀l:Loc,∀o e,∃b c,aW l o len e=.slice b len c:=by
      intro l o e
      unfold aW
      split
      ·rename_i h0;rw [h0.1];exact⟨_,_,rfl⟩
      ·exact⟨_,_,rfl⟩
     obtain⟨b,c,hbc⟩:=this (ρ.L n0) o0 es0
     cases kn<;>simp [execOp,resolve,invoke,builtin,Builtin.len_,hev.den _ _ h1,SV.den,V1.den,Cell.den,hbc,mkI,aU hu,goInt]
    ·rename_i s _ _ _ _ h1 h2
     have hu:=xN (b7 hT h2)
     simp only [T.val,Option.some.injEq] at hv;subst hv
     refine⟨?_,dm rfl⟩
     simp [execOp,resolve,invoke,builtin,Builtin.len_,hev.den _ _ h1,SV.den,V1.den,Cell.den,aU hu,goInt,gF,ByteArray.size_data,Array.length_toList]
    ·rename_i s _ _ _ _ h1 h2
     have hu:=xN (b7 hT h2)
     simp only [T.val,Option.some.injEq] at hv;subst hv
     refine⟨?_,dm rfl⟩
     simp [execOp,resolve,invoke,builtin,Builtin.len_,hev.den _ _ h1,SV.den,V1.den,Cell.den,aU hu,goInt,gF,ByteArray.size_data,Array.length_toList]
    ·simp [T.val] at hv
   ·simp [T.val] at hv
  ·cases h
 ·cases h
end
end Go.Sx
