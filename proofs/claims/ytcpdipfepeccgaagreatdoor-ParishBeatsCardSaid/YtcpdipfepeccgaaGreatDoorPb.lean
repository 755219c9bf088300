import Derived.Test.YtcpdipfepeccgaaGreatDoorFr
import Derived.Test.YtcpdipfepeccgaaGreatDoorOa
import Derived.Test.YtcpdipfepeccgaaGreatDoorMd
import Derived.Test.YtcpdipfepeccgaaGreatDoorSxM
import Derived.Test.YtcpdipfepeccgaaGreatDoorSxN
import Derived.Test.YtcpdipfepeccgaaGreatDoorSxAr
set_option linter.unusedVariables false
set_option linter.unusedSimpArgs false
set_option maxHeartbeats 4000000
namespace Go.Proofs.YtcpdipfepeccgaaGreatDoor
open Go Go.Sx Go.Proofs
def rdA {α:Type} (K:AK α) (ex:AV->Option (List α)) (mk:List α->AV):Rd AV:=fun H c=>match xx K ex H c with
 | some (l,len,nm)=>some (mk l,len,nm)
 | none=>none
theorem xR {σ:Sg} {N:Env AV} (hF:N.F=F6 σ) {α:Type} {K:AK α} {ex:AV->Option (List α)} {mk:List α->AV} (hex:∀a l,ex a=some l->a=mk l) (hd:∀l,(mk l).dep=0) (hq:∀l lc S w,AV.q σ (mk l) lc S w↔K.q l lc S w) (hl:∀l,(mk l).len=l.length):CJ N (rdA K ex mk) K.es:=by
 intro H c a len nm h hlen ρ w hO
 unfold rdA at h
 split at h
 ·rename_i l' len' nm' ha
  simp only [Option.some.injEq,Prod.mk.injEq] at h
  obtain⟨rfl,rfl,rfl⟩:=h
  have el:N.F.len (mk l')=l'.length:=by rw [hF];exact hl l'
  rw [el] at hlen ⊢
  obtain⟨lc,S,h1,h2,h3⟩:=pK (N:=N) (fun a l he lc S w hqa=>by rw [hex a l he] at hqa;exact(hq l lc S w).1 ((kS hF (hd l) lc S w).1 hqa)) ha hlen hO
  exact⟨lc,S,h1,(kS hF (hd l') lc S w).2 ((hq l' lc S w).2 h2),h3⟩
 ·cases h
def exN:AV->Option (List Nt) | .notes l=>some l | _=>none
def exO:AV->Option (List O) | .ops l=>some l | _=>none
def exB:AV->Option (List Bt) | .beats l=>some l | _=>none
abbrev KS:=List (Option (Rd AV×Nat))
def qb:Nat->KS->KS
 | 0,r=>r
 | n+1,r=>none::qb n r
def KF:Option (Rd AV×Nat):=some (rdA kwords exW .words,kwords.es)
def Db:Option (Rd AV×Nat):=some (rdA knotes exN .notes,knotes.es)
def Rn:Option (Rd AV×Nat):=some (rdA kops exO .ops,kops.es)
def KG:Option (Rd AV×Nat):=some (rdA kbeats exB .beats,kbeats.es)
def HC (es:Nat):Rd AV:=fun H c=>match c with
 | .vs n 0 len e _=>match Nat.beq e es with
   | true=>match hget H n with
     | some (.abs (.oba d e2 ty gs))=>match Nat.beq e2 es with
       | true=>some (.oba d e2 ty gs,len,some n)
       | false=>none
     | _=>none
   | false=>none
 | _=>none
theorem Hz {σ:Sg} {N:Env AV} (es:Nat):CJ N (HC es) es:=by
 intro H c a len nm h hlen ρ w hO
 unfold HC at h
 split at h
 ·rename_i n len' e kn
  split at h
  ·rename_i he
   have he:=(af _ _).1 he
   subst he
   split at h
   ·rename_i d e2 ty gs hn
    split at h
    ·simp only [Option.some.injEq,Prod.mk.injEq] at h
     obtain⟨rfl,rfl,rfl⟩:=h
     exact⟨ρ.L n,ρ.S n,by rw [<- hlen];rfl,hO.q n _ hn,_,hn,fun k=>Iff.rfl⟩
    ·cases h
   ·cases h
  ·cases h
 ·cases h
def Ro (es:Nat):Option (Rd AV×Nat):=some (HC es,es)
def IJ (ty:TypeId):Option (Nat×KS) :=
 match Nat.beq ty b8 with
 | true=>some (1,qb 44 ((KF::(Db::qb 52 ((Db::qb 7 []))))))
 | false=>match Nat.beq ty y9 with
 | true=>some (1,qb 34 [])
 | false=>match Nat.beq ty zb with
 | true=>some (1,qb 44 [])
 | false=>match Nat.beq ty oE with
 | true=>some (1,qb 38 [])
 | false=>match Nat.beq ty Bm with
 | true=>some (2,qb 34 [])
 | false=>match Nat.beq ty fD with
 | true=>some (1,qb 64 [])
 | false=>match Nat.beq ty lg with
 | true=>some (2,qb 32 [])
 | false=>match Nat.beq ty y7 with
 | true=>some (3,qb 51 [])
 | false=>match Nat.beq ty kX with
 | true=>some (4,qb 29 [])
 | false=>match Nat.beq ty Bl with
 | true=>some (6,none::none::Ro 4::KG::[])
 | false=>none
def IL (ty:TypeId):Option (Nat×Nat×KS) :=
 match Nat.beq ty Ox with
 | true=>some (5,4,none::Rn::none::none::[])
 | false=>none
def IH (ks:KS):Nat->KS
 | 0=>[]
 | n+1=>ks++IH ks n
theorem Dh {σ:Sg} {a:AV} {d:Nat} {ty:TypeId} {gs:Gs} (h:a.ob=some (d,ty,gs)):ia σ a=some (cD AV.len ty gs) /\ a.okD=true:=by
 cases a<;>first | (cases h;done) | skip
 all_goals (cases h;exact⟨rfl,rfl⟩)
def MM (σ:Sg) (H:Hp AV) (n:Nat) (l:List Cell) (ty:TypeId):T (AV×List Nat):=match IJ ty with
 | some (d,ks)=>match gx (F6 σ) H ks l with
   | some (gs,b,ns)=>match qe (n::cr ns) with
     | true=>match mkO ty gs with
       | some a=>.need b (.leaf (a,cr ns))
       | none=>match AV.okD (.obj d ty gs) with
         | true=>.need b (.leaf (.obj d ty gs,cr ns))
         | false=>.fail "object: depths"
     | false=>.fail "object: names"
   | none=>.fail "object: fields"
 | none=>.fail "object: type"
def MO (σ:Sg) (H:Hp AV) (n:Nat) (l:List Cell) (es:Nat) (ty:TypeId):T (AV×List Nat):=match IL ty with
 | some (d,e,ks)=>match Nat.beq es e,gx (F6 σ) H (IH ks (l.length / e)) l with
   | true,some (gs,b,ns)=>match qe (n::cr ns),AV.okD (.oba d es ty gs) with
     | true,true=>.need b (.leaf (.oba d es ty gs,cr ns))
     | _,_=>.fail "array: names"
   | _,_=>.fail "array: fields"
 | none=>.fail "array: type"
def ox (σ:Sg) (H:Hp AV) (n:Nat):T (AV×List Nat):=match hget H n with
 | some (.cells l ty)=>match Nat.beq ty y8 with
   | true=>FT σ H n
   | false=>MM σ H n l ty
 | some (.vec l es ty)=>MO σ H n l es ty
 | _=>.fail "object"
theorem eX {N:Env AV}:∀n {r:KS},nY N r->nY N (qb n r)
 | 0,r,h=>h
 | n+1,r,h=>eX n h
theorem uc {N:Env AV}:∀{a b:KS},nY N a->nY N b->nY N (a++b)
 | [],b,_,hb=>hb
 | none::r,b,ha,hb=>uc (a:=r) ha hb
 | some (rd,es)::r,b,ha,hb=>⟨ha.1,uc (a:=r) ha.2 hb⟩
theorem Ai {N:Env AV} {ks:KS} (h:nY N ks):∀n,nY N (IH ks n)
 | 0=>trivial
 | n+1=>uc h (Ai h n)
theorem Rv {σ:Sg} {N:Env AV} (hF:N.F=F6 σ):CJ N (rdA kwords exW .words) kwords.es:=xR hF (fun a l h=>by cases a<;>first | (cases h;done) | (cases h;rfl)) (fun _=>rfl) (fun _ _ _ _=>Iff.rfl) (fun _=>rfl)
theorem NK {σ:Sg} {N:Env AV} (hF:N.F=F6 σ):CJ N (rdA knotes exN .notes) knotes.es:=xR hF (fun a l h=>by cases a<;>first | (cases h;done) | (cases h;rfl)) (fun _=>rfl) (fun _ _ _ _=>Iff.rfl) (fun _=>rfl)
theorem Rw {σ:Sg} {N:Env AV} (hF:N.F=F6 σ):CJ N (rdA kops exO .ops) kops.es:=xR hF (fun a l h=>by cases a<;>first | (cases h;done) | (cases h;rfl)) (fun _=>rfl) (fun _ _ _ _=>Iff.rfl) (fun _=>rfl)
theorem Rx {σ:Sg} {N:Env AV} (hF:N.F=F6 σ):CJ N (rdA kbeats exB .beats) kbeats.es:=xR hF (fun a l h=>by cases a<;>first | (cases h;done) | (cases h;rfl)) (fun _=>rfl) (fun _ _ _ _=>Iff.rfl) (fun _=>rfl)
theorem Aj {σ:Sg} {N:Env AV} (hF:N.F=F6 σ) {ty:TypeId} {d:Nat} {ks:KS} (h:IJ ty=some (d,ks)):nY N ks:=by
 unfold IJ at h
 split at h
 ·simp only [Option.some.injEq,Prod.mk.injEq] at h
  obtain⟨_,rfl⟩:=h
  exact eX 44 ⟨Rv hF,NK hF,eX 52 ⟨NK hF,eX 7 trivial⟩⟩
 ·split at h
  ·simp only [Option.some.injEq,Prod.mk.injEq] at h
   obtain⟨_,rfl⟩:=h
   exact eX 34 trivial
  ·split at h
   ·simp only [Option.some.injEq,Prod.mk.injEq] at h
    obtain⟨_,rfl⟩:=h
    exact eX 44 trivial
   ·split at h
    ·simp only [Option.some.injEq,Prod.mk.injEq] at h
     obtain⟨_,rfl⟩:=h
     exact eX 38 trivial
    ·split at h
     ·simp only [Option.some.injEq,Prod.mk.injEq] at h
      obtain⟨_,rfl⟩:=h
      exact eX 34 trivial
     ·split at h
      ·simp only [Option.some.injEq,Prod.mk.injEq] at h
       obtain⟨_,rfl⟩:=h
       exact eX 64 trivial
      ·split at h
       ·simp only [Option.some.injEq,Prod.mk.injEq] at h
        obtain⟨_,rfl⟩:=h
        exact eX 32 trivial
       ·split at h
        ·simp only [Option.some.injEq,Prod.mk.injEq] at h
         obtain⟨_,rfl⟩:=h
         exact eX 51 trivial
        ·split at h
         ·simp only [Option.some.injEq,Prod.mk.injEq] at h
          obtain⟨_,rfl⟩:=h
          exact eX 29 trivial
         ·split at h
          ·simp only [Option.some.injEq,Prod.mk.injEq] at h
           obtain⟨_,rfl⟩:=h
           exact⟨Hz (σ:=σ) 4,Rx hF,trivial⟩
          ·cases h
theorem IK {σ:Sg} {N:Env AV} (hF:N.F=F6 σ) {ty:TypeId} {d e:Nat} {ks:KS} (h:IL ty=some (d,e,ks)):nY N ks:=by
 unfold IL at h
 split at h
 ·simp only [Option.some.injEq,Prod.mk.injEq] at h
  obtain⟨_,_,rfl⟩:=h
  exact⟨Rw hF,trivial⟩
 ·cases h
theorem fB {σ:Sg} {N:Env AV} (hF:N.F=F6 σ):uZ N (ox σ):=by
 intro H n a ns h ρ w hO
 unfold ox at h
 split at h
 ·rename_i l ty hH
  split at h
  ·exact FR hF H n a ns h ρ w hO
  ·unfold MM at h
   split at h
   ·rename_i d ks hk
    split at h
    ·rename_i gs b ms hf
     split at h
     ·rename_i hnd
      split at h
      ·rename_i a' ha'
       obtain⟨rfl,h⟩:=ah h
       simp only [T.val,Option.some.injEq,Prod.mk.injEq] at h
       obtain⟨rfl,rfl⟩:=h
       rw [<- hF] at hf
       have hq:=Dt (Aj hF hk) hH hf (gJ hnd) hO
       rw [show N.F.len=AV.len by rw [hF];rfl] at hq
       obtain⟨d',hd'⟩:=Pf ha'
       exact(jW hF (Dh hd').1 (Dh (σ:=σ) hd').2 _ _ _).2 hq
      ·split at h
       ·rename_i ho
        obtain⟨rfl,h⟩:=ah h
        simp only [T.val,Option.some.injEq,Prod.mk.injEq] at h
        obtain⟨rfl,rfl⟩:=h
        rw [<- hF] at hf
        have hq:=Dt (Aj hF hk) hH hf (gJ hnd) hO
        rw [show N.F.len=AV.len by rw [hF];rfl] at hq
        exact(jW hF (a:=.obj d ty gs) rfl ho _ _ _).2 hq
       ·simp [T.val] at h
     ·simp [T.val] at h
    ·simp [T.val] at h
   ·simp [T.val] at h
 ·rename_i l es ty hH
  unfold MO at h
  split at h
  ·rename_i d e ks hk
   split at h
   ·rename_i gs b ms he hf
    split at h
    ·rename_i hnd ho
     obtain⟨rfl,h⟩:=ah h
     simp only [T.val,Option.some.injEq,Prod.mk.injEq] at h
     obtain⟨rfl,rfl⟩:=h
     rw [<- hF] at hf
     have hq:=Lf (Ai (IK hF hk) _) hH hf (gJ hnd) hO
     rw [show N.F.len=AV.len by rw [hF];rfl] at hq
     exact(jW hF (a:=.oba d es ty gs) rfl ho _ _ _).2 hq
    ·simp [T.val] at h
   ·simp [T.val] at h
  ·simp [T.val] at h
 ·simp [T.val] at h
noncomputable def NV (σ:Sg):Env AV:={tt:=tt,ft:=ft,gu:=gu,G:=8,F:=F6 σ,hv:=hvG (F6 σ) slT 8,mt:=mtF,sl:=slT}
variable {σ:Sg}
theorem okV:TblOk Tryz.prog (NV σ):=Gc (QZ 8 (F6 σ) (hvG (F6 σ) slT 8) (fun _ _=>none)) rfl rfl rfl rfl
theorem mQ:bS Tryz.prog (NV σ):=fun f fn c _ _ id b _ g hg=>by cases hg
theorem hvV:FI Tryz.prog (NV σ):=Cd G1 rfl
abbrev Tab:=FuncId->Option (List SV->Hp AV->T (SV×Hp AV))
theorem fnV {tab:Tab} (ht:bm Tryz.prog (NV σ) tab) (n:Nat) (f:FuncId):FnOk Tryz.prog (NV σ) f (lv (NV σ) tab n (.fn f)):=NR okV mQ hvV ht n f
def isS:AV->Nat->Bool
 | .sent i,j=>Nat.beq i j
 | _,_=>false
theorem bk:∀a i,isS a i=true->a=.sent i:=fun a i h=>by
 cases a<;>first
  | (have h:=(af _ _).1 h;subst h;rfl)
  | cases h
def allM:List Bool:=List.replicate 8 true
def zZ (l:List Nat):Nat->Nat->List Bool
 | 0,_=>[]
 | n+1,i=>hasN l i::zZ l n (i+1)
noncomputable def mkM (f:FuncId):List Bool:=match gu.get f with | some l=>zZ l 8 0 | none=>zZ [] 8 0
theorem wB (l:List Nat):∀n i,(zZ l n i).length=n
 | 0,_=>rfl
 | n+1,i=>by rw [zZ,List.length_cons,wB l n]
theorem bQ (f:FuncId):8=(mkM f).length:=by
 unfold mkM;split<;>exact(wB ..).symm
def hpO (M:List Bool) (l:List AV):Hp AV:=aX AV.sent 0 M++bq l
noncomputable def G9 (σ:Sg) (tab:Tab) (f:FuncId) (M:List Bool) (args:List SV) (l:List AV) (K:Hp AV):T (SV×List AV×List AV) :=
 match g0 (hpO M l) M.length K with
 | H=>match Q.clVs H args,Q.clHs H H with
   | true,true=>(Q.bind (Q.lv (NV σ) tab 14 (.fn f) args H) (ou (ox σ) isS M l.length [M.length])).map B4
   | _,_=>.fail "run: names"
noncomputable def eG (σ:Sg) (tab:Tab) (f:FuncId) (M:List Bool) (args:List SV) (l:List AV):T (SV×List AV×List AV) :=
 (Q.bind (Q.lv (NV σ) tab 14 (.fn f) args (hpO M l)) (ou (ox σ) isS M l.length [])).map B4
theorem mo {β:Type} {t:T (SV×β)} {v:SV} {r:β} (h:(t.map B4).val=some (v,r)):∃v0,v=Ig v0 /\ t.val=some (v0,r):=by
 rw [T.val_map] at h
 obtain⟨⟨v0,r0⟩,h1,h2⟩:=Option.map_eq_some_iff.1 h
 cases h2
 exact⟨v0,rfl,h1⟩
theorem n6 (M:List Bool) (l:List AV):bB (NV σ) (hpO M l):=by
 refine⟨fun n c h=>?_,trivial⟩
 unfold hpO at h
 rw [ax] at h
 split at h
 ·rw [((ga _ _ _ _ _).1 h).2];intro c hc;cases hc
 ·obtain⟨a,_,rfl⟩:=(aW _ _ _).1 h;intro c hc;cases hc
theorem qF {H:Hp AV} (h:clHs H H=true):bB (NV σ) H:=⟨cn.1 h,trivial⟩
theorem Dc {tab:Tab} (ht:bm Tryz.prog (NV σ) tab) {f:FuncId} {M:List Bool} (hM:8=M.length) {args:List SV} {a:AV} {l:List AV} {K:Hp AV} (hK0:∃c,hget K 0=some c) (hKq:∀l S w,(NV σ).F.q a l S w->fI (NV σ) K l S w) {v:SV} {l' nw:List AV}
 (hargs:∀x∈args,ClV (hpO M (a::l)) x) (h:(G9 σ tab f M args (a::l) K).val=some (v,l',nw)):Ctr Tryz.prog (NV σ) f args (hpO M (a::l)) v (hpO M (l'++nw)) /\ l'.length=(a::l).length:=by
 unfold G9 at h
 dsimp only at h
 split at h
 ·rename_i h1 h2
  rw [Q.clVs_eq] at h1
  rw [Q.clHs_eq] at h2
  obtain⟨v0,rfl,h0⟩:=mo h
  rw [Q.bind_eq,Q.lv_eq] at h0
  obtain⟨⟨v1,H2⟩,hr,hc⟩:=T.bind_some h0
  have hn:hget (hpO M (a::l)) M.length=some (.abs a):=by
   unfold hpO
   rw [ax,cC,if_neg (by omega),Nat.sub_self]
   rfl
  have hopn:Opn (NV σ) (hpO M (a::l)) (g0 (hpO M (a::l)) M.length K):=oZ (n6 M _) hn hK0 (by show 8<=M.length;omega) hKq
  have hctr:=(fnV ht 14 f).ctr hr (eP.1 h1) (qF h2)
  refine(fun x=>⟨mH x.1,x.2⟩) (iz (N:=NV σ) (fB rfl) bk hM hargs hopn (fun m c h=>?_) hctr hc)
  have hlt:=aH hn
  have h:hget (hpO M (a::l)) m=some c:=h
  rw [mu hlt (by rintro rfl;obtain⟨c,hc⟩:=hK0;cases hc)]
  by_cases e:m=M.length
  ·obtain⟨c0,hc0⟩:=hK0
   rw [if_pos e,hc0];exact⟨_,rfl⟩
  ·rw [if_neg e,if_pos (aH h)];exact⟨c,h⟩
 ·simp [T.val] at h
theorem KI {tab:Tab} (ht:bm Tryz.prog (NV σ) tab) {f:FuncId} {M:List Bool} (hM:8=M.length) {args:List SV} {a:AV} {l:List AV} {K:Hp AV} (hK:ia σ a=some K) (hK0:∃c,hget K 0=some c) (ho:a.okD=true) {v:SV} {l' nw:List AV}
 (hargs:∀x∈args,ClV (hpO M (a::l)) x) (h:(G9 σ tab f M args (a::l) K).val=some (v,l',nw)):Ctr Tryz.prog (NV σ) f args (hpO M (a::l)) v (hpO M (l'++nw)) /\ l'.length=(a::l).length :=
 Dc ht hM hK0 (fun l S w hq=>(jW (N:=NV σ) rfl hK ho l S w).1 hq) hargs h
theorem mh {tab:Tab} (ht:bm Tryz.prog (NV σ) tab) {f:FuncId} {M:List Bool} (hM:8=M.length) {args:List SV} {l:List AV} {v:SV} {l' nw:List AV}
 (hargs:∀x∈args,ClV (hpO M l) x) (h:(eG σ tab f M args l).val=some (v,l',nw)):Ctr Tryz.prog (NV σ) f args (hpO M l) v (hpO M (l'++nw)) /\ l'.length=l.length:=by
 unfold eG at h
 obtain⟨v0,rfl,h0⟩:=mo h
 rw [Q.bind_eq,Q.lv_eq] at h0
 obtain⟨⟨v1,H2⟩,hr,hc⟩:=T.bind_some h0
 exact(fun x=>⟨mH x.1,x.2⟩) (iz (N:=NV σ) (fB rfl) bk hM hargs (Opn.refl _) (fun m c h=>⟨c,h⟩) ((fnV ht 14 f).ctr hr hargs (n6 M l)) hc)
end Go.Proofs.YtcpdipfepeccgaaGreatDoor

namespace Go.Proofs.YtcpdipfepeccgaaGreatDoor
open Go Go.Sx Go.Proofs
variable {σ:Sg}
def aQ:Tab:=fun _=>none
theorem au:bm Tryz.prog (NV σ) aQ:=fun f g h=>by cases h
def aC (f:FuncId) (g:List SV->Hp AV->T (SV×Hp AV)) (tab:Tab):Tab:=fun x=>match Nat.beq x f with
 | true=>some g
 | false=>tab x
theorem aj {f:FuncId} {g:List SV->Hp AV->T (SV×Hp AV)} {tab:Tab} (hg:FnOk Tryz.prog (NV σ) f g) (ht:bm Tryz.prog (NV σ) tab):bm Tryz.prog (NV σ) (aC f g tab):=by
 intro x y h
 unfold aC at h
 split at h
 ·rename_i e
  have e:=(af _ _).1 e
  subst e
  cases h
  exact hg
 ·exact ht x y h
def Ow:Tab:=aC 9 GB aQ
theorem CX:bm Tryz.prog (NV σ) Ow:=aj SQ au
def yK:T (SV×List AV×List AV)->Bool
 | .leaf (.v (.c c),[],[])=>match di c with | some _=>true | none=>false
 | .ite _ t e=>match yK t with | true=>yK e | false=>false
 | .need b t=>match b with | true=>yK t | false=>false
 | _=>false
def CV (args:List SV) (l:List AV):T (SV×List AV×List AV) :=
 match args,l with
 | [],[]=>.leaf (.v (.c (.bl true)),[],[])
 | _,_=>.fail "arguments"
end Go.Proofs.YtcpdipfepeccgaaGreatDoor

namespace Go.Sx
variable {AV:Type} {P:Program}
end Go.Sx

namespace Go.Sx
variable {AV:Type} {P:Program} {N:Env AV}
def Lesser (N:Env AV) (d c:Chunk AV):Prop:=∀ρ n w,(d.q N ρ n w->c.q N ρ n w) /\ ∀k,c.fp ρ n k↔d.fp ρ n k
theorem Lesser.refl (d:Chunk AV):Lesser N d d:=fun _ _ _=>⟨id,fun _=>Iff.rfl⟩
structure Back (N:Env AV) (L nt:Nat) (s t:St AV) (π:Nat->Nat):Prop where
 E:∀k,k < nt->look t.E k≠.unk->look s.E k=(look t.E k).ren π
 Eo:∀k,nt<=k->look t.E k=bc
 H:∀n c,hget t.H n=some c->∃d,hget s.H (π n)=some d /\ Lesser N d (c.ren π)
 inj:∀n m c d,hget t.H n=some c->hget t.H m=some d->π n=π m->n=m
 fix:∀n,n < L->π n=n
 keep:∀n c,n < L->hget s.H n=some c->∃c',hget t.H n=some c'
 len:L<=t.H.length
 G:N.G<=L
 cl:Closed N t
theorem KN {π:Nat->Nat} {v:SV} (h:v.ren π=.unk):v=.unk:=by
 cases v<;>first | rfl | (simp [SV.ren] at h)
theorem Back.at {L nt:Nat} {s t:St AV} {π:Nat->Nat} (h:Back N L nt s t π) {ρ:Nm} {a:Act} {w:World} (hat:At N nt ρ s a w):At N nt (ρ.ren π) t a w:=by
 refine⟨⟨hat.em.size,fun k hk=>?_⟩,⟨⟨fun n c hc=>?_,fun n m c d hnm hc hd k hk hk'=>?_,fun g hg=>?_⟩,hat.own.ro.1,fun n c k hc hk=>?_⟩⟩
 ·rcases Nat.lt_or_ge k nt with hlt | hge
  case inr =>
   rw [h.Eo k hge]
   have:¬k < a.tmps.size:=by rw [hat.em.size];omega
   simp [Array.getD,this,bc,SV.den,undef]
  have he:=h.E k hlt hk
  have hs:look s.E k≠.unk:=fun e=>hk (KN (he.symm.trans e))
  rw [hat.em.get k hs,he,SV.den_ren]
 ·obtain⟨d,g1,g2⟩:=h.H n c hc
  exact zw.1 ((g2 ρ (π n) w).1 (hat.own.q _ _ g1))
 ·obtain⟨c',g1,g2⟩:=h.H n c hc
  obtain⟨d',g3,g4⟩:=h.H m d hd
  rw [<- gX] at hk hk'
  exact hat.own.dis (π n) (π m) _ _ (fun e=>hnm (h.inj n m c d hc hd e)) g1 g3 k (((g2 ρ (π n) w).2 k).1 hk) (((g4 ρ (π m) w).2 k).1 hk')
 ·show ρ (π g)=g
  rw [h.fix g (by have:=h.G;omega)]
  exact hat.own.glb g hg
 ·obtain⟨d,g1,g2⟩:=h.H n c hc
  rw [<- gX] at hk
  exact hat.own.ro.2 (π n) _ k g1 (((g2 ρ (π n) w).2 k).1 hk)
theorem Back.evo {L nt:Nat} {s t:St AV} {π:Nat->Nat} (h:Back N L nt s t π) {ρ0 ρ:Nm} {H0:Hp AV} {w0 w:World} (hL:H0.length=L) (he:Evo N L ρ0 H0 w0 ρ s.H w):Evo N L ρ0 H0 w0 (ρ.ren π) t.H w:=by
 refine⟨fun n c hc=>?_,fun n c hc=>?_,fun n hn hc=>?_,by rw [hL];exact h.len,he.frame,fun n c k hc hk=>?_,he.os,he.tape,he.output,he.size⟩
 ·obtain⟨c',hc'⟩:=he.pers n c hc
  exact h.keep n c' (by have:=aH hc;omega) hc'
 ·show ρ.L (π n)=_
  rw [h.fix n (by have:=aH hc;omega)]
  exact he.agree n c hc
 ·cases ht:hget t.H n with
  | none=>rfl
  | some c =>
    obtain⟨d,g1,_⟩:=h.H n c ht
    rw [h.fix n hn,he.non n hn hc] at g1
    cases g1
 ·obtain⟨d,g1,g2⟩:=h.H n c hc
  rw [<- gX] at hk
  exact he.new (π n) _ k g1 (((g2 ρ (π n) w).2 k).1 hk)
theorem z7 {nt:Nat} {c:Code} {ι:Type} (fam:ι->St AV) (μ:ι->Nat) (Fin:Ex->St AV->Prop) (L:Nat)
 (hstep:∀i,∃ex s',Rnd P N nt c (fam i) ex s' /\ match ex with
   | .normal=>∃i' π,μ i' < μ i /\ Back N L nt s' (fam i') π
   | e=>Fin e s')
 {ρ0:Nm} {H0:Hp AV} {w0:World} (hL:H0.length=L):∀(n:Nat) (i:ι),μ i < n->Closed N (fam i)->L<=(fam i).H.length->∀(ρ:Nm) (a:Act) (w:World),At N nt ρ (fam i) a w->Evo N L ρ0 H0 w0 ρ (fam i).H w->∀(Q:Exit->Act->World->Prop),
   (∀ex s' ρ' a' w',Fin ex s'->Closed N s'->L<=s'.H.length->At N nt ρ' s' a' w'->Evo N L ρ0 H0 w0 ρ' s'.H w'->a'.defers=a.defers->Q (Fh ex) a' w')->Code.rounds P c Q n a w
 | 0,i,h,_,_,_,_,_,_,_,_,_=>by omega
 | n+1,i,hm,hcl,hH,ρ,a,w,hat,hev,Q,hQ=>by
   obtain⟨ex,s',h1,h2⟩:=hstep i
   obtain⟨c1,l1,k1⟩:=h1 L hcl hH
   refine wp_mono (k1 hat) ?_
   rintro e a₁ w₁ ⟨rfl,hl⟩
   obtain⟨⟨ρ₁,e1,o1,v1⟩,d1⟩:=hl
   cases ex with
   | normal =>
     obtain⟨i',π,hmu,hb⟩:=h2
     have hat':=hb.at (At.mk e1 o1)
     have hev':=hb.evo hL (hev.trans v1)
     exact z7 fam μ Fin L hstep hL n i' (by omega) hb.cl hb.len _ a₁ w₁ hat' hev' Q fun ex s'' ρ' a' w' hf hc hh ha he hd=>hQ ex s'' ρ' a' w' hf hc hh ha he (hd.trans d1)
   | exit id=>exact hQ _ s' ρ₁ a₁ w₁ h2 c1 l1 ⟨e1,o1⟩ (hev.trans v1) d1
   | ret=>exact hQ _ s' ρ₁ a₁ w₁ h2 c1 l1 ⟨e1,o1⟩ (hev.trans v1) d1
def qg (nl:List Nat) (n:Nat):Nat:=match nth nl n with | some m=>m | none=>n
def js:List Nat->Nat->Nat
 | [],_=>0
 | x::r,n=>match Nat.beq x n with | true=>0 | false=>js r n+1
theorem nP:∀{nl:List Nat} {n:Nat},n∈nl->qg nl (js nl n)=n
 | x::r,n,h=>by
   simp only [js]
   cases hb:Nat.beq x n with
   | true=>exact(af _ _).1 hb
   | false =>
     rcases List.mem_cons.1 h with rfl | h
     ·rw [Nat.beq_refl] at hb;cases hb
     ·have:=nP h
      unfold qg at this ⊢
      simp only [nth]
      cases hn:nth r (js r n) with
      | some m=>rw [hn] at this;exact this
      | none =>
        rw [hn] at this
        exfalso
        rw [nth_eq] at hn
        have hlen:r.length<=js r n:=by
         rcases Nat.lt_or_ge (js r n) r.length with hh | hh
         ·rw [List.getElem?_eq_getElem hh] at hn;cases hn
         ·exact hh
        have hlt:∀{l:List Nat},n∈l->js l n < l.length:=by
         intro l
         induction l with
         | nil=>intro h;cases h
         | cons y l ih =>
           intro h
           simp only [js]
           cases hy:Nat.beq y n with
           | true=>simp
           | false =>
             rcases List.mem_cons.1 h with rfl | h
             ·rw [Nat.beq_refl] at hy;cases hy
             ·have:=ih h;simp;omega
        have:=hlt h
        omega
def gU (nl ks:List Nat) (nt:Nat) (s:St AV):St AV :=
 {E:=only ks (s.E.map fun p=>(p.1,p.2.ren (js nl))) nt,H:=nl.map fun m=>match hget s.H m with | some c=>some (c.ren (js nl)) | none=>none}
theorem Ab (f:SV->SV) (h0:f bc=bc):∀(E:Ev) (k:Nat),look (E.map fun p=>(p.1,f p.2)) k=f (look E k)
 | [],k=>h0.symm
 | (j,v)::r,k=>by
   simp only [List.map_cons,look]
   cases Nat.beq j k with
   | true=>rfl
   | false=>exact Ab f h0 r k
theorem qt (f:Nat->Option (Chunk AV)):∀(nl:List Nat) (n:Nat),hget (nl.map f) n=match nl[n]? with | some m=>f m | none=>none
 | [],n=>by simp [hget]
 | x::r,0=>by simp [hget]
 | x::r,n+1=>by simp only [List.map_cons,hget,qt f r n,List.getElem?_cons_succ]
def GD (nl:List Nat):List Nat->Bool
 | []=>true
 | n::r=>match hasN nl n with | true=>GD nl r | false=>false
theorem pT {nl:List Nat}:∀{l:List Nat},GD nl l=true->∀n∈l,n∈nl
 | [],_,n,h=>by cases h
 | x::r,hs,n,h=>by
   simp only [GD] at hs
   split at hs
   ·rename_i hx
    rcases List.mem_cons.1 h with rfl | h
    ·exact(cF _ _).1 hx
    ·exact pT hs n h
   ·cases hs
def Ky (nl:List Nat) (E:Ev):List Nat->Bool
 | []=>true
 | k::r=>match GD nl (namesV (look E k)) with | true=>Ky nl E r | false=>false
theorem vA {nl:List Nat} {E:Ev}:∀{ks:List Nat},Ky nl E ks=true->∀k∈ks,∀n∈namesV (look E k),n∈nl
 | [],_,k,h=>by cases h
 | x::r,hs,k,h=>by
   simp only [Ky] at hs
   split at hs
   ·rename_i hx
    rcases List.mem_cons.1 h with rfl | h
    ·exact pT hx
    ·exact vA hs k h
   ·cases hs
def GF (nl:List Nat) (H:Hp AV):List Nat->Bool
 | []=>true
 | m::r=>match (match hget H m with | some c=>GD nl (namesL c.cellsOf) | none=>true) with | true=>GF nl H r | false=>false
theorem pU {nl:List Nat} {H:Hp AV}:∀{l:List Nat},GF nl H l=true->∀m∈l,∀c,hget H m=some c->∀n∈namesL c.cellsOf,n∈nl
 | [],_,m,h=>by cases h
 | x::r,hs,m,h=>by
   simp only [GF] at hs
   split at hs
   ·rename_i hx
    rcases List.mem_cons.1 h with rfl | h
    ·intro c hc
     rw [hc] at hx
     exact pT hx
    ·exact pU hs m h
   ·cases hs
def Jd:Nat->Nat->List Nat->Bool
 | 0,_,_=>true
 | L+1,i,x::r=>match Nat.beq x i with | true=>Jd L (i+1) r | false=>false
 | _+1,_,[]=>false
theorem wP:∀{L i:Nat} {nl:List Nat},Jd L i nl=true->L<=nl.length /\ ∀n,n < L->nl[n]?=some (i+n)
 | 0,_,_,_=>⟨Nat.zero_le _,fun n h=>by omega⟩
 | L+1,i,[],h=>by simp [Jd] at h
 | L+1,i,x::r,h=>by
   simp only [Jd] at h
   split at h
   ·rename_i hx
    have hx:=(af _ _).1 hx
    obtain⟨h1,h2⟩:=wP h
    refine⟨by simp;omega,fun n hn=>?_⟩
    cases n with
    | zero=>simp [hx]
    | succ n =>
      rw [List.getElem?_cons_succ,h2 n (by omega)]
      congr 1
      omega
   ·cases h
def ye:List Nat->Bool
 | []=>true
 | x::r=>match hasN r x with | true=>false | false=>ye r
theorem q7:∀{l:List Nat},ye l=true->l.Nodup
 | [],_=>List.nodup_nil
 | x::r,h=>by
   simp only [ye] at h
   split at h
   ·cases h
   ·rename_i hx
    exact List.nodup_cons.2 ⟨(fun e=>by rw [(cF _ _).2 e] at hx;cases hx),q7 h⟩
def Ja (L:Nat) (ks nl:List Nat) (s:St AV):Bool :=
 match ye nl,Jd L 0 nl,Ky nl s.E ks,GF nl s.H nl with | true,true,true,true=>true | _,_,_,_=>false
theorem rm {π σ:Nat->Nat} {c:Chunk AV} (h:∀n∈namesL c.cellsOf,π (σ n)=n):(c.ren σ).ren π=c:=by
 have hl:∀l:List Cell,(∀n∈namesL l,π (σ n)=n)->(l.map (Cell.ren σ)).map (Cell.ren π)=l:=fun l hl=>by
  have:=pP (π:=π) (σ:=σ) (x:=.agg l) hl
  simpa [V1.ren] using this
 cases c with
 | cells l ty=>simp only [Chunk.ren];rw [hl l h]
 | vec l es ty=>simp only [Chunk.ren];rw [hl l h]
 | dead=>rfl
 | abs a=>rfl
theorem zq {L nt:Nat} {ks nl:List Nat} {s:St AV} (h:Ja L ks nl s=true) (hG:N.G<=L) (hcl:Closed N (gU nl ks nt s)) :
 Back N L nt s (gU nl ks nt s) (qg nl):=by
 unfold Ja at h
 split at h
 ·rename_i h1 h2 h3 h4
  have h1:=q7 h1
  obtain⟨h2,h2'⟩:=wP h2
  have h3:=vA h3
  have h4:=pU h4
  have hgt:∀n c,hget (gU nl ks nt s).H n=some c->∃m d,nl[n]?=some m /\ hget s.H m=some d /\ c=d.ren (js nl):=by
   intro n c hc
   rw [gU,qt] at hc
   split at hc
   ·rename_i m hm
    split at hc
    ·rename_i d hd
     cases hc
     exact⟨m,d,hm,hd,rfl⟩
    ·cases hc
   ·cases hc
  have hnm:∀n m,nl[n]?=some m->qg nl n=m:=fun n m hm=>by unfold qg;rw [nth_eq,hm]
  refine⟨fun k hk hne=>?_,fun k hk=>?_,fun n c hc=>?_,fun n m c d hc hd he=>?_,fun n hn=>?_,fun n c hn hc=>?_,?_,hG,hcl⟩
  ·have e:look (gU nl ks nt s).E k=match hasN ks k with | true=>(look s.E k).ren (js nl) | false=>.unk:=by
    rw [gU,dq,if_pos hk,Ab (fun v=>v.ren (js nl)) rfl]
    cases hasN ks k<;>rfl
   cases hh:hasN ks k with
   | false=>rw [e,hh] at hne;exact absurd rfl hne
   | true =>
     rw [e,hh]
     exact(pR fun n hn=>nP (h3 k ((cF _ _).1 hh) n hn)).symm
  ·rw [gU,dq,if_neg (by omega)]
  ·obtain⟨m,d,g1,g2,rfl⟩:=hgt n c hc
   rw [hnm n m g1,rm fun x hx=>nP (h4 m (List.mem_of_getElem? g1) d g2 x hx)]
   exact⟨d,g2,Lesser.refl d⟩
  ·obtain⟨x,_,g1,_,_⟩:=hgt n c hc
   obtain⟨y,_,g2,_,_⟩:=hgt m d hd
   rw [hnm n x g1,hnm m y g2] at he
   subst he
   obtain⟨b1,e1⟩:=List.getElem?_eq_some_iff.1 g1
   exact(List.getElem?_inj b1 h1).1 (g1.trans g2.symm)
  ·rw [hnm n n (by rw [h2' n hn];simp)]
  ·refine⟨c.ren (js nl),?_⟩
   rw [gU,qt,h2' n hn]
   simp [hc]
  ·show L<=(nl.map _).length
   rw [List.length_map];exact h2
 ·cases h
theorem Back.less {L nt:Nat} {s t u:St AV} {π:Nat->Nat} (h:Back N L nt s t π) (hE:u.E=t.E) (hlen:u.H.length=t.H.length) (hH:∀n,(hget t.H n=none /\ hget u.H n=none) \/ ∃d c,hget t.H n=some d /\ hget u.H n=some c /\ Lesser N (d.ren π) (c.ren π)) (hcl:Closed N u):Back N L nt s u π:=by
 have get:∀n c,hget u.H n=some c->∃d,hget t.H n=some d /\ Lesser N (d.ren π) (c.ren π):=fun n c hc=>by
  rcases hH n with⟨_,h2⟩ | ⟨d,c',h1,h2,h3⟩
  ·rw [h2] at hc;cases hc
  ·rw [h2] at hc;cases hc;exact⟨d,h1,h3⟩
 refine⟨fun k hk hne=>?_,fun k hk=>by rw [hE];exact h.Eo k hk,fun n c hc=>?_,fun n m c d hc hd he=>?_,h.fix,fun n c hn hc=>?_,by rw [hlen];exact h.len,h.G,hcl⟩
 ·rw [hE] at hne ⊢;exact h.E k hk hne
 ·obtain⟨d,g1,g2⟩:=get n c hc
  obtain⟨e,g3,g4⟩:=h.H n d g1
  exact⟨e,g3,fun ρ m w=>⟨fun hq=>(g2 ρ m w).1 ((g4 ρ m w).1 hq),fun k=>((g2 ρ m w).2 k).trans ((g4 ρ m w).2 k)⟩⟩
 ·obtain⟨x,g1,_⟩:=get n c hc
  obtain⟨y,g2,_⟩:=get m d hd
  exact h.inj n m x y g1 g2 he
 ·obtain⟨c',hc'⟩:=h.keep n c hn hc
  rcases hH n with⟨h1,_⟩ | ⟨d,c2,h1,h2,_⟩
  ·rw [h1] at hc';cases hc'
  ·exact⟨c2,h2⟩
end Go.Sx

namespace Go.Sx
variable {AV:Type} {P:Program} {N:Env AV}
def bW {M:Type} (step:M->T (Ex×M)):Nat->M->Option (Ex×M)
 | 0,_=>none
 | k+1,m=>match (step m).val with
   | some (.normal,m')=>bW step k m'
   | some (.exit i,m')=>some (.exit i,m')
   | some (.ret,m')=>some (.ret,m')
   | none=>none
theorem wH {M:Type} {step:M->T (Ex×M)} {ex:Ex} {m':M}:∀{k:Nat} {m:M},bW step k m=some (ex,m')->∃m1,(step m1).val=some (ex,m')
 | 0,m,h=>by cases h
 | k+1,m,h=>by
   simp only [bW] at h
   split at h
   ·exact wH h
   ·rename_i hs;cases h;exact⟨m,hs⟩
   ·rename_i hs;cases h;exact⟨m,hs⟩
   ·cases h
def Rm:Nat->Nat->List Nat
 | _,0=>[]
 | i,n+1=>i::Rm (i+1) n
def Ip (E:Ev):List Nat->List Nat
 | []=>[]
 | k::r=>namesV (look E k)++Ip E r
def yi (H:Hp AV):List Nat->List Nat
 | []=>[]
 | n::r=>(match hget H n with | some c=>namesL c.cellsOf | none=>[])++yi H r
def EO (H:Hp AV):Nat->List Nat->List Nat
 | 0,a=>a
 | k+1,a=>match sq a (yi H a) with
   | b=>match Nat.beq b.length a.length with
     | true=>b
     | false=>EO H k b
def CE (L:Nat) (ks:List Nat) (s:St AV):List Nat:=match sq (Rm 0 L) (Ip s.E ks) with
 | a=>EO s.H 9 a
def zA (pk:Chunk AV->Option AV):Option (Chunk AV)->Option (Chunk AV)
 | none=>none
 | some c=>match pk c with | some a=>some (.abs a) | none=>some c
def NM (pk:Chunk AV->Option AV) (s:St AV):St AV:={E:=s.E,H:=s.H.map (zA pk)}
def Fz (H:Hp AV) (E:Ev):List Nat->Bool
 | []=>true
 | k::r=>match clV H (look E k) with | true=>Fz H E r | false=>false
theorem xo {H:Hp AV} {E:Ev}:∀{ks:List Nat},Fz H E ks=true->∀k∈ks,ClV H (look E k)
 | [],_,k,h=>by cases h
 | x::r,hs,k,h=>by
   simp only [Fz] at hs
   split at hs
   ·rename_i hx
    rcases List.mem_cons.1 h with rfl | h
    ·exact mJ.1 hx
    ·exact xo hs k h
   ·cases hs
def bR (L nt:Nat) (ks:List Nat) (pk:Chunk AV->Option AV) (r:Ex×St AV):T (Ex×St AV) :=
 match CE L ks r.2 with
 | nl=>match Ja L ks nl r.2 with
   | false=>.fail "back: names"
   | true=>match gU nl ks nt r.2 with
     | s=>match NM pk s with
       | t=>match Fz s.H s.E ks,clHs s.H s.H,Fz t.H t.E ks,clHs t.H t.H with
         | true,true,true,true=>.leaf (r.1,t)
         | _,_,_,_=>.fail "back: closed"
theorem rh {nt:Nat} {ks:List Nat} {E:Ev} {H:Hp AV} (h1:Fz H (only ks E nt) ks=true) (h2:clHs H H=true):Closed N {E:=only ks E nt,H:=H}:=by
 refine⟨fun k=>?_,cn.1 h2⟩
 by_cases hk:k < nt
 ·cases hh:hasN ks k with
  | true=>exact xo h1 k ((cF _ _).1 hh)
  | false =>
    simp only [dq,if_pos hk,hh]
    trivial
 ·simp only [dq,if_neg hk]
  exact fC _
theorem EJ {pk:Chunk AV->Option AV} (hpk:∀d a,pk d=some a->∀π,Lesser N (d.ren π) (.abs a)) (π:Nat->Nat) (d:Chunk AV):∃c,zA pk (some d)=some c /\ Lesser N (d.ren π) (c.ren π):=by
 simp only [zA]
 split
 ·rename_i a ha;exact⟨_,rfl,hpk d a ha π⟩
 ·exact⟨d,rfl,Lesser.refl _⟩
theorem mw (f:Option (Chunk AV)->Option (Chunk AV)) (h0:f none=none):∀(H:Hp AV) (n:Nat),hget (H.map f) n=f (hget H n)
 | [],n=>by cases n<;>simp [hget,h0]
 | x::r,0=>rfl
 | x::r,n+1=>by simp only [List.map_cons,hget];exact mw f h0 r n
theorem pI {L nt:Nat} {ks:List Nat} {pk:Chunk AV->Option AV} (hpk:∀d a,pk d=some a->∀π,Lesser N (d.ren π) (.abs a)) (hG:N.G<=L) {r r':Ex×St AV} (h:(bR L nt ks pk r).val=some r'):r'.1=r.1 /\ ∃π,Back N L nt r.2 r'.2 π:=by
 unfold bR at h
 simp only at h
 split at h
 ·simp [T.val] at h
 ·rename_i hf
  split at h
  ·rename_i h1 h2 h3 h4
   simp only [T.val,Option.some.injEq] at h
   subst h
   refine⟨rfl,_,(zq hf hG (rh h1 h2)).less rfl (by simp [NM]) (fun n=>?_) (rh h3 h4)⟩
   show _ \/ ∃d c,_ /\ hget ((gU _ ks nt r.2).H.map (zA pk)) n=some c /\ _
   rw [mw _ rfl]
   cases hd:hget (gU (CE L ks r.2) ks nt r.2).H n with
   | none=>exact .inl ⟨rfl,by show hget ((gU _ ks nt r.2).H.map (zA pk)) n=none;rw [mw _ rfl,hd];rfl⟩
   | some d =>
     obtain⟨c,g1,g2⟩:=EJ hpk (qg (CE L ks r.2)) d
     exact .inr ⟨d,c,rfl,g1,g2⟩
  ·simp [T.val] at h
def Enter (N:Env AV) (nt:Nat) (s t:St AV):Prop:=Closed N s->Closed N t /\ s.H.length<=t.H.length /\ ∀(ρ:Nm) (a:Act) (w:World),At N nt ρ s a w->∃ρ',At N nt ρ' t a w /\ Evo N s.H.length ρ s.H w ρ' t.H w
theorem Cs {nt:Nat} {s t:St AV} (hE:Says nt s.E t.E) (hH:t.H=s.H):Enter N nt s t:=by
 obtain⟨E,H⟩:=t
 simp only at hE hH
 subst hH
 exact fun h=>⟨Says.closed (N:=N) (N':=N) hE h,Nat.le_refl _,fun ρ a w hat=>⟨ρ,⟨hE.em hat.em,hat.own⟩,Evo.refl _ _ _ _⟩⟩
theorem Enter.trans {nt:Nat} {s t u:St AV} (h1:Enter N nt s t) (h2:Enter N nt t u):Enter N nt s u:=fun h=>by
 obtain⟨c1,l1,k1⟩:=h1 h
 obtain⟨c2,l2,k2⟩:=h2 c1
 exact⟨c2,Nat.le_trans l1 l2,fun ρ a w hat=>by
  obtain⟨ρ1,a1,e1⟩:=k1 ρ a w hat
  obtain⟨ρ2,a2,e2⟩:=k2 ρ1 a w a1
  exact⟨ρ2,a2,e1.trans (e2.weaken l1)⟩⟩
theorem Cu {nt:Nat} {s t:St AV} {l:List AV} (hH:t.H=s.H++bq l) (hl:∀a∈l,∃es ty,N.F.arr a=some (es,ty,[])) (hG:N.G<=s.H.length)
 (hE:∀k,k < nt->look t.E k=.unk \/ look t.E k=look s.E k \/ (look s.E k≠.unk /\ Plain (look t.E k) /\ ∀ρ,(look t.E k).den ρ=(look s.E k).den ρ) \/ (look s.E k=.v (.c .snil) /\ ∃j es,j < l.length /\ look t.E k=.v (.c (.vs (s.H.length+j) 0 0 es false))))
 (hEo:∀k,nt<=k->look t.E k=bc):Enter N nt s t:=fun hc=>by
 have hget0:∀n,hget t.H n=if n < s.H.length then hget s.H n else hget (bq l) (n - s.H.length):=fun n=>by rw [hH,ax]
 have pers:∀n c,hget s.H n=some c->hget t.H n=some c:=fun n c h=>by rw [hget0,if_pos (aH h)];exact h
 refine⟨⟨fun k=>?_,fun n x hx=>?_⟩,by rw [hH];simp,fun ρ a w hat=>?_⟩
 ·rcases Nat.lt_or_ge k nt with hk | hk
  ·rcases hE k hk with e | e | ⟨_,e,_⟩ | ⟨_,j,es,hj,e⟩
   ·rw [e];trivial
   ·rw [e];exact(hc.E k).mono fun n c h=>⟨c,pers n c h⟩
   ·exact e.cl _
   ·rw [e]
    intro c hcc m hm
    simp [V1.cells] at hcc
    subst hcc
    simp only [Cell.name,Option.some.injEq] at hm
    subst hm
    refine⟨.abs l[j],?_⟩
    rw [hget0,if_neg (by omega),Nat.add_sub_cancel_left]
    exact(aW _ _ _).2 ⟨_,List.getElem?_eq_getElem hj,rfl⟩
  ·rw [hEo k hk];exact fC _
 ·rw [hget0] at hx
  split at hx
  ·exact(hc.H n x hx).mono fun n c h=>⟨c,pers n c h⟩
  ·obtain⟨a,_,rfl⟩:=(aW _ _ _).1 hx
   intro c hc;cases hc
 ·let ρ':Nm:=⟨fun n=>if n < s.H.length then ρ.L n else⟨0,0,0⟩,fun n=>if n < s.H.length then ρ.S n else fun _=>False⟩
  have eL:∀n,n < s.H.length->ρ'.L n=ρ.L n:=fun n hn=>if_pos hn
  have eS:∀n,n < s.H.length->ρ'.S n=ρ.S n:=fun n hn=>if_pos hn
  have eL0:∀n,¬n < s.H.length->ρ'.L n=⟨0,0,0⟩:=fun n hn=>if_neg hn
  have eS0:∀n,¬n < s.H.length->ρ'.S n=fun _=>False:=fun n hn=>if_neg hn
  have agr:∀n c,hget s.H n=some c->ρ'.L n=ρ.L n:=fun n c h=>eL n (aH h)
  have fp0:∀n c k,hget t.H n=some c->c.fp ρ' n k->n < s.H.length /\ hget s.H n=some c /\ c.fp ρ n k:=fun n c k hc hk=>by
   rw [hget0] at hc
   split at hc
   ·rename_i hn
    rw [aU (eL n hn) (eS n hn)] at hk
    exact⟨hn,hc,hk⟩
   ·rename_i hn
    obtain⟨a,_,rfl⟩:=(aW _ _ _).1 hc
    have hk:ρ'.S n k:=hk
    rw [eS0 n hn] at hk
    exact hk.elim
  have own:Own N ρ' t.H w:=by
   refine hat.own.sub ⟨fun n c hcn=>?_,fun n m c d hnm hc hd k hk hk'=>?_,fun g hg=>?_⟩ fun n c k hc hk=>?_
   ·rw [hget0] at hcn
    split at hcn
    ·rename_i hn
     exact gi (hat.own.q n c hcn) (eL n hn) (eS n hn) (denL_congr (hc.H n c hcn) fun x y hy=>agr x y hy) (fun _ _=>rfl)
    ·rename_i hn
     obtain⟨a,ha,rfl⟩:=(aW _ _ _).1 hcn
     obtain⟨es,ty,harr⟩:=hl a (List.mem_of_getElem? ha)
     show N.F.q a _ _ _
     rw [eL0 n hn,eS0 n hn]
     exact((N.F.arr_q a _ _ _ harr).2 _ _ _).2 (.inl ⟨Nat.zero_le _,rfl,fun k h=>h⟩)
   ·obtain⟨h1,h2,h3⟩:=fp0 n c k hc hk
    obtain⟨g1,g2,g3⟩:=fp0 m d k hd hk'
    exact hat.own.dis n m c d hnm h2 g2 k h3 g3
   ·show (ρ'.L g).b=g
    rw [eL g (by omega)]
    exact hat.own.glb g hg
   ·obtain⟨h1,h2,h3⟩:=fp0 n c k hc hk
    exact⟨n,c,h2,h3⟩
  refine⟨ρ',⟨⟨hat.em.size,fun k hk=>?_⟩,own⟩,⟨fun n c h=>⟨c,pers n c h⟩,fun n c h=>agr n c h,fun n hn h=>?_,by rw [hH];simp,fun _ _ _=>rfl,fun n c k hc hk=>?_,rfl,rfl,rfl,Nat.le_refl _⟩⟩
  ·rcases Nat.lt_or_ge k nt with hlt | hge
   ·rcases hE k hlt with e | e | ⟨e1,e2,e3⟩ | ⟨e1,j,es,hj,e2⟩
    ·exact absurd e hk
    ·rw [e] at hk ⊢
     rw [hat.em.get k hk]
     exact(SV.den_congr (hc.E k) agr).symm
    ·rw [e3,hat.em.get k e1]
     exact(SV.den_congr (hc.E k) agr).symm
    ·rw [e2,hat.em.get k (by rw [e1];exact fun h=>by cases h),e1]
     show _=aG (ρ'.L (s.H.length+j)) 0 0 es
     rw [eL0 _ (by omega)]
     rfl
   ·rw [hEo k hge]
    have:¬k < a.tmps.size:=by rw [hat.em.size];omega
    simp [Array.getD,this,bc,SV.den,undef]
  ·rw [hget0,if_pos hn];exact h
  ·obtain⟨h1,h2,h3⟩:=fp0 n c k hc hk
   exact .inr ⟨n,c,h2,h3⟩
structure ItAt (N:Env AV) (cal:Callee AV) (lp:Nat->Option (St AV->T (Ex×St AV))) (nt:Nat) (c:Code) (s s':St AV) (ex:Ex) where
 M:Type
 fam:M->St AV
 step:M->T (Ex×M)
 ks:List Nat
 pk:Chunk AV->Option AV
 hpk:∀d a,pk d=some a->∀π,Lesser N (d.ren π) (.abs a)
 L:Nat
 len:s.H.length=L
 hGL:N.G<=L
 run:∀m r,(step m).val=some r->((xc N cal lp nt c (fam m)).bind (bR L nt ks pk)).val=some (r.1,fam r.2)
 m:M
 k:Nat
 m':M
 ent:Enter N nt s (fam m)
 it:bW step k m=some (ex,m')
 fin:s'=fam m'
structure ItG (P:Program) (N:Env AV) (nt:Nat) (c:Code) (s s':St AV) (ex:Ex) where
 M:Type
 fam:M->St AV
 step:M->T (Ex×M)
 L:Nat
 len:s.H.length=L
 hGL:N.G<=L
 run:∀m r,(step m).val=some r->∃s1,Rnd P N nt c (fam m) r.1 s1 /\ ∃π,Back N L nt s1 (fam r.2) π
 m:M
 k:Nat
 m':M
 ent:Enter N nt s (fam m)
 it:bW step k m=some (ex,m')
 fin:s'=fam m'
theorem iO {N N':Env AV} (hF:N'.F=N.F) (hG:N'.G=N.G) {nt:Nat} {c:Code} {g:St AV->T (Ex×St AV)} (h:∀s s' ex,(g s).val=some (ex,s')->Nonempty (ItG P N nt c s s' ex)):b7 P N' nt c g:=by
 intro L0 s s' ex hg hcl hL
 obtain⟨M,fam,step,L,rfl,hGL,one,m,k,m',hent,hit,rfl⟩:=h s s' ex hg
 have hclN:Closed N s:=gq N hcl
 obtain⟨m1,hm1⟩:=wH hit
 obtain⟨s1,_,_,hb1⟩:=one m1 _ hm1
 simp only at hb1
 refine⟨gq N' hb1.cl,Nat.le_trans hL hb1.len,fun {ρ a w} hat=>?_⟩
 have hatN:At N nt ρ s a w:=⟨hat.em,eW hF.symm hG.symm hat.own⟩
 obtain⟨hent1,hent2,hent3⟩:=hent hclN
 obtain⟨ρ1,hat1,hev1⟩:=hent3 ρ a w hatN
 refine wp_loop_rounds (k+1) (z7 (P:=P) (ι:={p:Nat×M // bW step p.1 p.2=some (ex,m')}) (fun p=>fam p.1.2) (fun p=>p.1.1) (fun e s1=>e=ex /\ ∃π,Back N s.H.length nt s1 (fam m') π) s.H.length (fun i=>?_) (ρ0:=ρ) (H0:=s.H) (w0:=w) rfl (k+1) ⟨(k,m),hit⟩ (by simp) hent1 hent2 ρ1 a w hat1 hev1 _ ?_)
 ·obtain⟨⟨j,n⟩,hi⟩:=i
  cases j with
  | zero=>cases hi
  | succ j =>
    simp only [bW] at hi
    split at hi
    ·rename_i m2 hs
     obtain⟨s2,g1,π,g2⟩:=one n _ hs
     exact⟨.normal,s2,g1,⟨(j,m2),hi⟩,π,by simp,g2⟩
    ·rename_i id m2 hs
     cases hi
     obtain⟨s2,g1,π,g2⟩:=one n _ hs
     exact⟨.exit id,s2,g1,rfl,π,g2⟩
    ·rename_i m2 hs
     cases hi
     obtain⟨s2,g1,π,g2⟩:=one n _ hs
     exact⟨.ret,s2,g1,rfl,π,g2⟩
    ·cases hi
 ·rintro ex1 s2 ρ2 a' w' ⟨rfl,π,hb⟩ _ _ hat2 hev2 d2
  have h3:=hb.at hat2
  exact⟨rfl,⟨ρ2.ren π,h3.em,eW hF hG h3.own,mC N' ((hb.evo rfl hev2).weaken hL)⟩,d2⟩
theorem cd {N N':Env AV} (hF:N'.F=N.F) (hG:N'.G=N.G) (hT:TblOk P N) {cal:Callee AV} (hcal:cP P N cal) {lp:Nat->Option (St AV->T (Ex×St AV))} {nt:Nat} {c:Code} (hlp:CK P N nt c lp)
 {g:St AV->T (Ex×St AV)} (h:∀s s' ex,(g s).val=some (ex,s')->Nonempty (ItAt N cal lp nt c s s' ex)):b7 P N' nt c g:=iO hF hG fun s s' ex hg=>by
 obtain⟨M,fam,step,ks,pk,hpk,L,hL,hGL,hrun,m,k,m',hent,hit,hfin⟩:=h s s' ex hg
 exact⟨⟨M,fam,step,L,hL,hGL,fun m r hr=>by
  obtain⟨⟨e1,s1⟩,h1,h2⟩:=T.bind_some (hrun m r hr)
  obtain⟨h3,π,h4⟩:=pI hpk hGL h2
  exact⟨s1,BM hT hcal hlp (by rw [h3];exact h1),π,h4⟩,m,k,m',hent,hit,hfin⟩⟩
theorem xO {N N':Env AV} (hF:N'.F=N.F) (hG:N'.G=N.G) (hT:TblOk P N') {cal:Callee AV} (hcal:cP P N' cal) {lp:Nat->Option (St AV->T (Ex×St AV))} {nt L:Nat} {c:Code} (hlp:CK P N' nt c lp) {ks:List Nat} {pk:Chunk AV->Option AV} (hpk:∀d a,pk d=some a->∀π,Lesser N (d.ren π) (.abs a)) (hGL:N.G<=L) {s:St AV} {r:Ex×St AV}
 (h:((xc N' cal lp nt c s).bind (bR L nt ks pk)).val=some r):∃s1,Rnd P N nt c s r.1 s1 /\ ∃π,Back N L nt s1 r.2 π:=by
 obtain⟨⟨e1,s1⟩,h1,h2⟩:=T.bind_some h
 obtain⟨h3,π,h4⟩:=pI hpk hGL h2
 refine⟨s1,fun L0 hcl hH=>?_,π,h4⟩
 obtain⟨c1,l1,k1⟩:=BM hT hcal hlp (show (xc N' cal lp nt c s).val=some (r.1,s1) by rw [h3];exact h1) L0 (gq N' hcl) hH
 refine⟨gq N c1,l1,fun {ρ a w} hat=>wp_mono (k1 ⟨hat.em,eW hF hG hat.own⟩) ?_⟩
 rintro e a1 w1 ⟨rfl,⟨ρ1,e1,o1,v1⟩,d1⟩
 exact⟨rfl,⟨ρ1,e1,eW hF.symm hG.symm o1,mC N v1⟩,d1⟩
end Go.Sx
