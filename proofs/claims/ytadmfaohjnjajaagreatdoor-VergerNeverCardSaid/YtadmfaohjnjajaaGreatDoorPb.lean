import Derived.Test.YtadmfaohjnjajaaGreatDoorOa
import Derived.Test.YtadmfaohjnjajaaGreatDoorMd
set_option linter.unusedVariables false
set_option linter.unusedSimpArgs false
set_option maxHeartbeats 4000000
namespace Go.Proofs.YtadmfaohjnjajaaGreatDoor
section
open Go Go.Sx Go.Proofs
def rdA {α:Type} (K:AK α) (ex:AV->Option (List α)) (mk:List α->AV):Rd AV:=fun H c=>match AF K ex H c with
 | some (l,len,nm)=>some (mk l,len,nm)
 | none=>none
theorem Bd {σ:Sg} {N:Env AV} (hF:N.F=F6 σ) {α:Type} {K:AK α} {ex:AV->Option (List α)} {mk:List α->AV} (hex:∀a l,ex a=some l->a=mk l) (hd:∀l,(mk l).dep=0) (hq:∀l lc S w,AV.q σ (mk l) lc S w↔K.q l lc S w) (hl:∀l,(mk l).len=l.length):FD N (rdA K ex mk) K.es:=by
 intro H c a len nm h hlen ρ w hO
 unfold rdA at h
 split at h
 ·rename_i l' len' nm' ha
  simp only [Option.some.injEq,Prod.mk.injEq] at h
  obtain⟨rfl,rfl,rfl⟩:=h
  have el:N.F.len (mk l')=l'.length:=by rw [hF];exact hl l'
  rw [el] at hlen ⊢
  obtain⟨lc,S,h1,h2,h3⟩:=sA (N:=N) (fun a l he lc S w hqa=>by rw [hex a l he] at hqa;exact(hq l lc S w).1 ((nV hF (hd l) lc S w).1 hqa)) ha hlen hO
  exact⟨lc,S,h1,(nV hF (hd l') lc S w).2 ((hq l' lc S w).2 h2),h3⟩
 ·cases h
def exN:AV->Option (List Nt) | .notes l=>some l | _=>none
def exO:AV->Option (List O) | .ops l=>some l | _=>none
def exB:AV->Option (List Bt) | .beats l=>some l | _=>none
abbrev KS:=List (Option (Rd AV×Nat))
def tm:Nat->KS->KS
 | 0,r=>r
 | n+1,r=>none::tm n r
def OJ:Option (Rd AV×Nat):=some (rdA kwords exW .words,kwords.es)
def Gi:Option (Rd AV×Nat):=some (rdA knotes exN .notes,knotes.es)
def VP:Option (Rd AV×Nat):=some (rdA kops exO .ops,kops.es)
def OK:Option (Rd AV×Nat):=some (rdA kbeats exB .beats,kbeats.es)
def K3 (es:Nat):Rd AV:=fun H c=>match c with
 | .vs n 0 len e _=>match Nat.beq e es with
   | true=>match ab H n with
     | some (.abs (.oba d e2 ty gs))=>match Nat.beq e2 es with
       | true=>some (.oba d e2 ty gs,len,some n)
       | false=>none
     | _=>none
   | false=>none
 | _=>none
theorem K2 {σ:Sg} {N:Env AV} (es:Nat):FD N (K3 es) es:=by
 intro H c a len nm h hlen ρ w hO
 unfold K3 at h
 split at h
 ·rename_i n len' e kn
  split at h
  ·rename_i he
   have he:=(ai _ _).1 he
   subst he
   split at h
   ·rename_i d e2 ty gs hn
    split at h
    ·simp only [Option.some.injEq,Prod.mk.injEq] at h
     obtain⟨rfl,rfl,rfl⟩:=h
     exact⟨ρ.L n,ρ.S n,by rw [<- hlen];rfl,hO.q n _ hn,_,hn,fun k=>Iff.rfl⟩
    ·cases h
   ·cases h
  ·cases h
 ·cases h
def VQ (es:Nat):Option (Rd AV×Nat):=some (K3 es,es)
def Mp (ty:TypeId):Option (Nat×KS) :=
 match Nat.beq ty cL with
 | true=>some (1,tm 44 ((OJ::(Gi::tm 52 ((Gi::tm 7 []))))))
 | false=>match Nat.beq ty Cf with
 | true=>some (1,tm 34 [])
 | false=>match Nat.beq ty Ch with
 | true=>some (1,tm 44 [])
 | false=>match Nat.beq ty qW with
 | true=>some (1,tm 38 [])
 | false=>match Nat.beq ty D3 with
 | true=>some (2,tm 34 [])
 | false=>match Nat.beq ty hI with
 | true=>some (1,tm 64 [])
 | false=>match Nat.beq ty nK with
 | true=>some (2,tm 32 [])
 | false=>match Nat.beq ty Cd with
 | true=>some (3,tm 51 [])
 | false=>match Nat.beq ty lW with
 | true=>some (4,tm 29 [])
 | false=>match Nat.beq ty Sf with
 | true=>some (6,none::none::VQ 4::OK::[])
 | false=>none
def Mr (ty:TypeId):Option (Nat×Nat×KS) :=
 match Nat.beq ty Sd with
 | true=>some (5,4,none::VP::none::none::[])
 | false=>none
def Mn (ks:KS):Nat->KS
 | 0=>[]
 | n+1=>ks++Mn ks n
theorem Gr {σ:Sg} {a:AV} {d:Nat} {ty:TypeId} {gs:Gs} (h:a.ob=some (d,ty,gs)):j5 σ a=some (dw AV.len ty gs) /\ a.okD=true:=by
 cases a<;>first | (cases h;done) | skip
 all_goals (cases h;exact⟨rfl,rfl⟩)
def QJ (σ:Sg) (H:Hp AV) (n:Nat) (l:List Cell) (ty:TypeId):T (AV×List Nat):=match Mp ty with
 | some (d,ks)=>match jh (F6 σ) H ks l with
   | some (gs,b,ns)=>match tu (n::di ns) with
     | true=>match mkO ty gs with
       | some a=>.need b (.leaf (a,di ns))
       | none=>match AV.okD (.obj d ty gs) with
         | true=>.need b (.leaf (.obj d ty gs,di ns))
         | false=>.fail "object: depths"
     | false=>.fail "object: names"
   | none=>.fail "object: fields"
 | none=>.fail "object: type"
def QK (σ:Sg) (H:Hp AV) (n:Nat) (l:List Cell) (es:Nat) (ty:TypeId):T (AV×List Nat):=match Mr ty with
 | some (d,e,ks)=>match Nat.beq es e,jh (F6 σ) H (Mn ks (l.length / e)) l with
   | true,some (gs,b,ns)=>match tu (n::di ns),AV.okD (.oba d es ty gs) with
     | true,true=>.need b (.leaf (.oba d es ty gs,di ns))
     | _,_=>.fail "array: names"
   | _,_=>.fail "array: fields"
 | none=>.fail "array: type"
def vO (σ:Sg) (H:Hp AV) (n:Nat):T (AV×List Nat):=match ab H n with
 | some (.cells l ty)=>match Nat.beq ty Ce with
   | true=>Ju σ H n
   | false=>QJ σ H n l ty
 | some (.vec l es ty)=>QK σ H n l es ty
 | _=>.fail "object"
theorem gB {N:Env AV}:∀n {r:KS},qu N r->qu N (tm n r)
 | 0,r,h=>h
 | n+1,r,h=>gB n h
theorem xK {N:Env AV}:∀{a b:KS},qu N a->qu N b->qu N (a++b)
 | [],b,_,hb=>hb
 | none::r,b,ha,hb=>xK (a:=r) ha hb
 | some (rd,es)::r,b,ha,hb=>⟨ha.1,xK (a:=r) ha.2 hb⟩
theorem C6 {N:Env AV} {ks:KS} (h:qu N ks):∀n,qu N (Mn ks n)
 | 0=>trivial
 | n+1=>xK h (C6 h n)
theorem VZ {σ:Sg} {N:Env AV} (hF:N.F=F6 σ):FD N (rdA kwords exW .words) kwords.es:=Bd hF (fun a l h=>by cases a<;>first | (cases h;done) | (cases h;rfl)) (fun _=>rfl) (fun _ _ _ _=>Iff.rfl) (fun _=>rfl)
theorem Rq {σ:Sg} {N:Env AV} (hF:N.F=F6 σ):FD N (rdA knotes exN .notes) knotes.es:=Bd hF (fun a l h=>by cases a<;>first | (cases h;done) | (cases h;rfl)) (fun _=>rfl) (fun _ _ _ _=>Iff.rfl) (fun _=>rfl)
theorem V0 {σ:Sg} {N:Env AV} (hF:N.F=F6 σ):FD N (rdA kops exO .ops) kops.es:=Bd hF (fun a l h=>by cases a<;>first | (cases h;done) | (cases h;rfl)) (fun _=>rfl) (fun _ _ _ _=>Iff.rfl) (fun _=>rfl)
theorem V2 {σ:Sg} {N:Env AV} (hF:N.F=F6 σ):FD N (rdA kbeats exB .beats) kbeats.es:=Bd hF (fun a l h=>by cases a<;>first | (cases h;done) | (cases h;rfl)) (fun _=>rfl) (fun _ _ _ _=>Iff.rfl) (fun _=>rfl)
theorem C7 {σ:Sg} {N:Env AV} (hF:N.F=F6 σ) {ty:TypeId} {d:Nat} {ks:KS} (h:Mp ty=some (d,ks)):qu N ks:=by
 unfold Mp at h
 split at h
 ·simp only [Option.some.injEq,Prod.mk.injEq] at h
  obtain⟨_,rfl⟩:=h
  exact gB 44 ⟨VZ hF,Rq hF,gB 52 ⟨Rq hF,gB 7 trivial⟩⟩
 ·split at h
  ·simp only [Option.some.injEq,Prod.mk.injEq] at h
   obtain⟨_,rfl⟩:=h
   exact gB 34 trivial
  ·split at h
   ·simp only [Option.some.injEq,Prod.mk.injEq] at h
    obtain⟨_,rfl⟩:=h
    exact gB 44 trivial
   ·split at h
    ·simp only [Option.some.injEq,Prod.mk.injEq] at h
     obtain⟨_,rfl⟩:=h
     exact gB 38 trivial
    ·split at h
     ·simp only [Option.some.injEq,Prod.mk.injEq] at h
      obtain⟨_,rfl⟩:=h
      exact gB 34 trivial
     ·split at h
      ·simp only [Option.some.injEq,Prod.mk.injEq] at h
       obtain⟨_,rfl⟩:=h
       exact gB 64 trivial
      ·split at h
       ·simp only [Option.some.injEq,Prod.mk.injEq] at h
        obtain⟨_,rfl⟩:=h
        exact gB 32 trivial
       ·split at h
        ·simp only [Option.some.injEq,Prod.mk.injEq] at h
         obtain⟨_,rfl⟩:=h
         exact gB 51 trivial
        ·split at h
         ·simp only [Option.some.injEq,Prod.mk.injEq] at h
          obtain⟨_,rfl⟩:=h
          exact gB 29 trivial
         ·split at h
          ·simp only [Option.some.injEq,Prod.mk.injEq] at h
           obtain⟨_,rfl⟩:=h
           exact⟨K2 (σ:=σ) 4,V2 hF,trivial⟩
          ·cases h
theorem Mq {σ:Sg} {N:Env AV} (hF:N.F=F6 σ) {ty:TypeId} {d e:Nat} {ks:KS} (h:Mr ty=some (d,e,ks)):qu N ks:=by
 unfold Mr at h
 split at h
 ·simp only [Option.some.injEq,Prod.mk.injEq] at h
  obtain⟨_,_,rfl⟩:=h
  exact⟨V0 hF,trivial⟩
 ·cases h
theorem nH {σ:Sg} {N:Env AV} (hF:N.F=F6 σ):yG N (vO σ):=by
 intro H n a ns h ρ w hO
 unfold vO at h
 split at h
 ·rename_i l ty hH
  split at h
  ·exact Jt hF H n a ns h ρ w hO
  ·unfold QJ at h
   split at h
   ·rename_i d ks hk
    split at h
    ·rename_i gs b ms hf
     split at h
     ·rename_i hnd
      split at h
      ·rename_i a' ha'
       obtain⟨rfl,h⟩:=aj h
       simp only [T.val,Option.some.injEq,Prod.mk.injEq] at h
       obtain⟨rfl,rfl⟩:=h
       rw [<- hF] at hf
       have hq:=Gy (C7 hF hk) hH hf (jx hnd) hO
       rw [show N.F.len=AV.len by rw [hF];rfl] at hq
       obtain⟨d',hd'⟩:=S6 ha'
       exact(nU hF (Gr hd').1 (Gr (σ:=σ) hd').2 _ _ _).2 hq
      ·split at h
       ·rename_i ho
        obtain⟨rfl,h⟩:=aj h
        simp only [T.val,Option.some.injEq,Prod.mk.injEq] at h
        obtain⟨rfl,rfl⟩:=h
        rw [<- hF] at hf
        have hq:=Gy (C7 hF hk) hH hf (jx hnd) hO
        rw [show N.F.len=AV.len by rw [hF];rfl] at hq
        exact(nU hF (a:=.obj d ty gs) rfl ho _ _ _).2 hq
       ·simp [T.val] at h
     ·simp [T.val] at h
    ·simp [T.val] at h
   ·simp [T.val] at h
 ·rename_i l es ty hH
  unfold QK at h
  split at h
  ·rename_i d e ks hk
   split at h
   ·rename_i gs b ms he hf
    split at h
    ·rename_i hnd ho
     obtain⟨rfl,h⟩:=aj h
     simp only [T.val,Option.some.injEq,Prod.mk.injEq] at h
     obtain⟨rfl,rfl⟩:=h
     rw [<- hF] at hf
     have hq:=Ph (C6 (Mq hF hk) _) hH hf (jx hnd) hO
     rw [show N.F.len=AV.len by rw [hF];rfl] at hq
     exact(nU hF (a:=.oba d es ty gs) rfl ho _ _ _).2 hq
    ·simp [T.val] at h
   ·simp [T.val] at h
  ·simp [T.val] at h
 ·simp [T.val] at h
noncomputable def NV (σ:Sg):Env AV:={tt:=tt,ft:=ft,gu:=gu,G:=7,F:=F6 σ,hv:=hvG (F6 σ) slT 7,mt:=mtF,sl:=slT}
variable {σ:Sg}
theorem okV:TblOk Tryz.prog (NV σ):=JI (Va 7 (F6 σ) (hvG (F6 σ) slT 7) (fun _ _=>none)) rfl rfl rfl rfl
theorem oq:cV Tryz.prog (NV σ):=fun f fn c _ _ id b _ g hg=>by cases hg
theorem hvV:Jk Tryz.prog (NV σ):=MF OE rfl
abbrev Tab:=FuncId->Option (List SV->Hp AV->T (SV×Hp AV))
theorem fnV {tab:Tab} (ht:bO Tryz.prog (NV σ) tab) (n:Nat) (f:FuncId):FnOk Tryz.prog (NV σ) f (lv (NV σ) tab n (.fn f)):=Rw okV oq hvV ht n f
def isS:AV->Nat->Bool
 | .sent i,j=>Nat.beq i j
 | _,_=>false
theorem bR:∀a i,isS a i=true->a=.sent i:=fun a i h=>by
 cases a<;>first
  | (have h:=(ai _ _).1 h;subst h;rfl)
  | cases h
def allM:List Bool:=List.replicate 7 true
def CW (l:List Nat):Nat->Nat->List Bool
 | 0,_=>[]
 | n+1,i=>iU l i::CW l n (i+1)
noncomputable def mkM (f:FuncId):List Bool:=match gu.get f with | some l=>CW l 7 0 | none=>CW [] 7 0
theorem zD (l:List Nat):∀n i,(CW l n i).length=n
 | 0,_=>rfl
 | n+1,i=>by rw [CW,List.length_cons,zD l n]
theorem gC (f:FuncId):7=(mkM f).length:=by
 unfold mkM;split<;>exact(zD ..).symm
def hpO (M:List Bool) (l:List AV):Hp AV:=bB AV.sent 0 M++cr l
noncomputable def Eu (σ:Sg) (tab:Tab) (f:FuncId) (M:List Bool) (args:List SV) (l:List AV) (K:Hp AV):T (SV×List AV×List AV) :=
 match kD (hpO M l) M.length K with
 | H=>match Q.clVs H args,Q.clHs H H with
   | true,true=>(Q.bind (Q.lv (NV σ) tab 14 (.fn f) args H) (uh (vO σ) isS M l.length [M.length])).map Lx
   | _,_=>.fail "run: names"
noncomputable def gg (σ:Sg) (tab:Tab) (f:FuncId) (M:List Bool) (args:List SV) (l:List AV):T (SV×List AV×List AV) :=
 (Q.bind (Q.lv (NV σ) tab 14 (.fn f) args (hpO M l)) (uh (vO σ) isS M l.length [])).map Lx
theorem vu {β:Type} {t:T (SV×β)} {v:SV} {r:β} (h:(t.map Lx).val=some (v,r)):∃v0,v=Lw v0 /\ t.val=some (v0,r):=by
 rw [T.val_map] at h
 obtain⟨⟨v0,r0⟩,h1,h2⟩:=Option.map_eq_some_iff.1 h
 cases h2
 exact⟨v0,rfl,h1⟩
theorem tQ (M:List Bool) (l:List AV):bU (NV σ) (hpO M l):=by
 refine⟨fun n c h=>?_,trivial⟩
 unfold hpO at h
 rw [aH] at h
 split at h
 ·rw [((iM _ _ _ _ _).1 h).2];intro c hc;cases hc
 ·obtain⟨a,_,rfl⟩:=(bL _ _ _).1 h;intro c hc;cases hc
theorem uk {H:Hp AV} (h:clHs H H=true):bU (NV σ) H:=⟨eY.1 h,trivial⟩
theorem Gl {tab:Tab} (ht:bO Tryz.prog (NV σ) tab) {f:FuncId} {M:List Bool} (hM:7=M.length) {args:List SV} {a:AV} {l:List AV} {K:Hp AV} (hK0:∃c,ab K 0=some c) (hKq:∀l S w,(NV σ).F.q a l S w->iT (NV σ) K l S w) {v:SV} {l' nw:List AV}
 (hargs:∀x∈args,ClV (hpO M (a::l)) x) (h:(Eu σ tab f M args (a::l) K).val=some (v,l',nw)):Ctr Tryz.prog (NV σ) f args (hpO M (a::l)) v (hpO M (l'++nw)) /\ l'.length=(a::l).length:=by
 unfold Eu at h
 dsimp only at h
 split at h
 ·rename_i h1 h2
  rw [Q.clVs_eq] at h1
  rw [Q.clHs_eq] at h2
  obtain⟨v0,rfl,h0⟩:=vu h
  rw [Q.bind_eq,Q.lv_eq] at h0
  obtain⟨⟨v1,H2⟩,hr,hc⟩:=T.bind_some h0
  have hn:ab (hpO M (a::l)) M.length=some (.abs a):=by
   unfold hpO
   rw [aH,dv,if_neg (by omega),Nat.sub_self]
   rfl
  have hopn:Opn (NV σ) (hpO M (a::l)) (kD (hpO M (a::l)) M.length K):=wY (tQ M _) hn hK0 (by show 7<=M.length;omega) hKq
  have hctr:=(fnV ht 14 f).ctr hr (kR.1 h1) (uk h2)
  refine(fun x=>⟨vC x.1,x.2⟩) (pz (N:=NV σ) (nH rfl) bR hM hargs hopn (fun m c h=>?_) hctr hc)
  have hlt:=aX hn
  have h:ab (hpO M (a::l)) m=some c:=h
  rw [tU hlt (by rintro rfl;obtain⟨c,hc⟩:=hK0;cases hc)]
  by_cases e:m=M.length
  ·obtain⟨c0,hc0⟩:=hK0
   rw [if_pos e,hc0];exact⟨_,rfl⟩
  ·rw [if_neg e,if_pos (aX h)];exact⟨c,h⟩
 ·simp [T.val] at h
theorem A9 {tab:Tab} (ht:bO Tryz.prog (NV σ) tab) {f:FuncId} {M:List Bool} (hM:7=M.length) {args:List SV} {a:AV} {l:List AV} {K:Hp AV} (hK:j5 σ a=some K) (hK0:∃c,ab K 0=some c) (ho:a.okD=true) {v:SV} {l' nw:List AV}
 (hargs:∀x∈args,ClV (hpO M (a::l)) x) (h:(Eu σ tab f M args (a::l) K).val=some (v,l',nw)):Ctr Tryz.prog (NV σ) f args (hpO M (a::l)) v (hpO M (l'++nw)) /\ l'.length=(a::l).length :=
 Gl ht hM hK0 (fun l S w hq=>(nU (N:=NV σ) rfl hK ho l S w).1 hq) hargs h
theorem oY {tab:Tab} (ht:bO Tryz.prog (NV σ) tab) {f:FuncId} {M:List Bool} (hM:7=M.length) {args:List SV} {l:List AV} {v:SV} {l' nw:List AV}
 (hargs:∀x∈args,ClV (hpO M l) x) (h:(gg σ tab f M args l).val=some (v,l',nw)):Ctr Tryz.prog (NV σ) f args (hpO M l) v (hpO M (l'++nw)) /\ l'.length=l.length:=by
 unfold gg at h
 obtain⟨v0,rfl,h0⟩:=vu h
 rw [Q.bind_eq,Q.lv_eq] at h0
 obtain⟨⟨v1,H2⟩,hr,hc⟩:=T.bind_some h0
 exact(fun x=>⟨vC x.1,x.2⟩) (pz (N:=NV σ) (nH rfl) bR hM hargs (Opn.refl _) (fun m c h=>⟨c,h⟩) ((fnV ht 14 f).ctr hr hargs (tQ M l)) hc)
end
section
open Go Go.Sx Go.Proofs
variable {σ:Sg}
def bm:Tab:=fun _=>none
theorem aJ:bO Tryz.prog (NV σ) bm:=fun f g h=>by cases h
def aQ (f:FuncId) (g:List SV->Hp AV->T (SV×Hp AV)) (tab:Tab):Tab:=fun x=>match Nat.beq x f with
 | true=>some g
 | false=>tab x
theorem au {f:FuncId} {g:List SV->Hp AV->T (SV×Hp AV)} {tab:Tab} (hg:FnOk Tryz.prog (NV σ) f g) (ht:bO Tryz.prog (NV σ) tab):bO Tryz.prog (NV σ) (aQ f g tab):=by
 intro x y h
 unfold aQ at h
 split at h
 ·rename_i e
  have e:=(ai _ _).1 e
  subst e
  cases h
  exact hg
 ·exact ht x y h
def Sc:Tab:=aQ 16 J4 bm
theorem FV:bO Tryz.prog (NV σ) Sc:=au WN aJ
def BR:T (SV×List AV×List AV)->Bool
 | .leaf (.v (.c c),[],[])=>match gq c with | some _=>true | none=>false
 | .ite _ t e=>match BR t with | true=>BR e | false=>false
 | .need b t=>match b with | true=>BR t | false=>false
 | _=>false
def FU (args:List SV) (l:List AV):T (SV×List AV×List AV) :=
 match args,l with
 | [],[]=>.leaf (.v (.c (.bl true)),[],[])
 | _,_=>.fail "arguments"
end
section
open Go Go.Sx Go.Proofs
set_option maxRecDepth 100000
variable {σ:Sg}
abbrev bH (n:Int):Int:=IntKind.wrap .i64 (n+1)
def wNil:W:=⟨0,0,0,0,false⟩
def dt (n:Int):W:=⟨0,0,0,n,false⟩
def ia (a b:W):Bool:=a.slot==b.slot&&(a.tag==b.tag&&(a.num==b.num&&a.mark==b.mark))
def PlotM.slot (m:PlotM) (n:Int):Sl:=m.slots.getD (n - 1).toNat kslots.dflt
def PlotM.has (m:PlotM) (n:Int):Prop:=1<=n /\ n<=(m.slots.length:Int)
instance (m:PlotM) (n:Int):Decidable (m.has n):=inferInstanceAs (Decidable (_ /\ _))
def PlotM.hasA (m:PlotM) (s g f:Int):Prop:=if s=0 then g=0 /\ 0<=f /\ f < (m.board.length:Int) else m.has s /\ 0<=f /\ f < 10
instance (m:PlotM) (s g f:Int):Decidable (m.hasA s g f):=by unfold PlotM.hasA;exact inferInstance
def PlotM.valid (m:PlotM) (a:Acc):Prop:=if a.kind=1 \/ a.kind=2 \/ a.kind=3 then m.hasA a.s a.g a.f else if a.kind=4 then True else if a.kind=5 then m.has a.old.slot else False
instance (m:PlotM) (a:Acc):Decidable (m.valid a):=by unfold PlotM.valid;exact inferInstance
def PlotM.state (m:PlotM) (n g:Int) (wf:Nat):Option Nat:=if n=0 then none else if (m.slot n).used=false then some wf else if (m.slot n).gen=g then none else some 6
def PlotM.wrong (m:PlotM) (a:Acc):Option Nat:=if a.kind=4 then none else if a.kind=5 then m.state a.old.slot a.old.gen 4 else m.state a.s a.g 5
def PlotM.read (m:PlotM) (s f:Int):W:=if s=0 then m.board.getD f.toNat kwords.dflt else(m.slot s).at f.toNat
def PlotM.write (m:PlotM) (s f:Int) (w:W):PlotM:=if s=0 then {m with board:=m.board.set f.toNat w} else {m with slots:=m.slots.set (s - 1).toNat ((m.slot s).setAt f.toNat w)}
def PlotM.alloc (m:PlotM) (birth:Int):Rp1×PlotM:=if m.free.length=0 then(⟨wNil,false⟩,m) else
 let n:=(m.free.getD (m.free.length - 1) kints.dflt).val
 let g:=bH (m.slot n).gen
 (⟨⟨n,g,0,0,false⟩,true⟩,{m with slots:=m.slots.set (n - 1).toNat ⟨g,true,[wNil,wNil,wNil,wNil,wNil,wNil,wNil,wNil,wNil,dt birth]⟩,free:=m.free.take (m.free.length - 1),made:=bH m.made})
def PlotM.access (m:PlotM) (a:Acc):Rp1×PlotM :=
 let m1:={m with steps:=bH m.steps}
 match m.wrong a with
 | some e=>(⟨if a.kind=1 \/ a.kind=3 then dt (-1) else wNil,false⟩,match m.fault with | none=>{m1 with fault:=some (m1.steps,e)} | some _=>m1)
 | none=>if a.kind=4 then m1.alloc a.new.num
   else if a.kind=5 then(⟨wNil,true⟩,{m1 with slots:=m1.slots.set (a.old.slot - 1).toNat {m1.slot a.old.slot with used:=false},free:=m1.free++[⟨a.old.slot⟩]})
   else if a.kind=1 then(⟨m1.read a.s a.f,true⟩,m1)
   else if a.kind=2 then(⟨wNil,true⟩,m1.write a.s a.f a.new)
   else if ia (m1.read a.s a.f) a.old then(⟨m1.read a.s a.f,true⟩,m1.write a.s a.f a.new) else(⟨m1.read a.s a.f,false⟩,m1)
structure PlotM.Ok (m:PlotM):Prop where
 lb:m.board.length<=5000
 ls:m.slots.length<=5000
 lf:m.free.length<=5000
 fr:∀x∈m.free,m.has x.val
def rpC (r:Rp1):V1:=.agg (r.w.enc++[.bt r.ok])
end
section
open Go Go.Sx Go.Proofs
set_option maxRecDepth 100000
variable {σ:Sg}
def noM:List Bool:=List.replicate 7 false
def gsC:Gs->List Cell
 | .p c::r=>c::gsC r
 | _=>[]
theorem lF:∀(l:List Cell),gsC (l.map .p)=l
 | []=>rfl
 | c::r=>by show c::gsC (r.map .p)=_;rw [lF r]
def tv:List Cell->Bool
 | []=>true
 | c::r=>match c.name with | none=>tv r | some _=>false
theorem od:∀{l:List Cell},tv l=true->∀c∈l,c.name=none
 | [],_,c,hc=>by cases hc
 | x::r,h,c,hc=>by
   simp only [tv] at h
   split at h
   ·rename_i hx
    rcases List.mem_cons.1 hc with rfl | hc
    ·exact hx
    ·exact od h c hc
   ·cases h
def JZ:SV->Bool
 | .v x=>tv x.cells
 | .unk=>true
 | _=>false
def fy:List SV->Bool
 | []=>true
 | x::r=>match JZ x with | true=>fy r | false=>false
theorem sL {x:SV} (h:JZ x=true) {H:Hp AV}:ClV H x:=by
 cases x with
 | v x=>intro c hc n hn;rw [od (l:=x.cells) h c hc] at hn;cases hn
 | unk=>trivial
 | tup l=>cases h
 | clo f l=>cases h
theorem cW:∀{l:List SV},fy l=true->∀{H:Hp AV},∀x∈l,ClV H x
 | [],_,H,x,hx=>by cases hx
 | y::r,h,H,x,hx=>by
   simp only [fy] at h
   split at h
   ·rename_i hy
    rcases List.mem_cons.1 hx with rfl | hx
    ·exact sL hy
    ·exact cW h x hx
   ·cases h
structure ArgK (A:Type) where
 enc:A->List SV
 dec:List SV->Option A
 ok:∀l a,dec l=some a->∀ρ:Nm,(enc a).map (SV.den ρ)=l.map (SV.den ρ)
 free:∀a,fy (enc a)=true
structure ValK (B:Type) where
 enc:B->SV
 dec:SV->Option B
 ok:∀v b,dec v=some b->v=enc b
structure ObK (α:Type) where
 V:α->AV
 X:AV->Option α
 ok:∀a j,X a=some j->a=V j
 okD:∀j,(V j).okD=true
def eO:Gs->Gs
 | []=>[]
 | .p c::r=>.p (xf c)::eO r
 | x::r=>x::eO r
theorem kE:∀gs:Gs,cd (eO gs)=cd gs
 | []=>rfl
 | .p c::r=>kE r
 | .s a es::r=>by show a::cd (eO r)=_;rw [kE r];rfl
 | .r a::r=>by show a::cd (eO r)=_;rw [kE r];rfl
 | .i t a::r=>by show a::cd (eO r)=_;rw [kE r];rfl
theorem kF (ρ:Nm):∀(gs:Gs) (k:Nat),ah ρ (dE AV.len k (eO gs))=ah ρ (dE AV.len k gs)
 | [],k=>rfl
 | .p c::r,k=>by
   show (xf c).den ρ::ah ρ (dE AV.len k (eO r))=_
   rw [rF,kF ρ r k];rfl
 | .s a es::r,k=>by
   show _::ah ρ (dE AV.len (k+1) (eO r))=_
   rw [kF ρ r (k+1)];rfl
 | .r a::r,k=>by
   show _::ah ρ (dE AV.len (k+1) (eO r))=_
   rw [kF ρ r (k+1)];rfl
 | .i t a::r,k=>by
   show _::ah ρ (dE AV.len (k+1) (eO r))=_
   rw [kF ρ r (k+1)];rfl
theorem rD {N:Env AV} {ty:TypeId} {gs:Gs} {l:Sx.Loc} {S:Nat->Prop} {w:World} (h:iT N (dw AV.len ty (eO gs)) l S w):iT N (dw AV.len ty gs) l S w:=by
 obtain⟨ρ,hl,⟨hq,hd⟩,hS⟩:=h
 have hp:=kE gs
 have get:∀i c,ab (dw AV.len ty gs) i=some c->∃c',ab (dw AV.len ty (eO gs)) i=some c' /\ (c'.q N ρ i w->c.q N ρ i w) /\ ∀k,c.fp ρ i k↔c'.fp ρ i k:=fun i c hc=>by
  cases i with
  | zero =>
    simp only [dw,ab,Option.some.injEq] at hc
    subst hc
    refine⟨_,rfl,fun h=>?_,fun k=>Iff.rfl⟩
    have h:w.heap[ρ 0]?=some (.cells (ah ρ (dE AV.len 1 (eO gs))).toArray ty (0,0)):=h
    rw [kF] at h
    exact h
  | succ i =>
    refine⟨c,?_,id,fun k=>Iff.rfl⟩
    show ab (cr (cd (eO gs))) i=some c
    rw [hp];exact hc
 have back:∀i c,ab (dw AV.len ty (eO gs)) i=some c->∃c',ab (dw AV.len ty gs) i=some c' /\ ∀k,c.fp ρ i k↔c'.fp ρ i k:=fun i c hc=>by
  cases i with
  | zero =>
    simp only [dw,ab,Option.some.injEq] at hc
    subst hc
    exact⟨_,rfl,fun k=>Iff.rfl⟩
  | succ i =>
    refine⟨c,?_,fun k=>Iff.rfl⟩
    show ab (cr (cd gs)) i=some c
    rw [<- hp];exact hc
 refine⟨ρ,hl,⟨fun i c hc=>?_,fun i j c d hij hc hd' k hk hk'=>?_⟩,fun k=>?_⟩
 ·obtain⟨c',h1,h2,_⟩:=get i c hc
  exact h2 (hq i c' h1)
 ·obtain⟨c',h1,_,h3⟩:=get i c hc
  obtain⟨d',g1,_,g3⟩:=get j d hd'
  exact hd i j c' d' hij h1 g1 k ((h3 k).1 hk) ((g3 k).1 hk')
 ·rw [hS k]
  constructor
  ·rintro ⟨i,c,hc,hf⟩
   obtain⟨c',h1,h2⟩:=back i c hc
   exact⟨i,c',h1,(h2 k).1 hf⟩
  ·rintro ⟨i,c,hc,hf⟩
   obtain⟨c',h1,_,h3⟩:=get i c hc
   exact⟨i,c',h1,(h3 k).1 hf⟩
noncomputable def dJ (σ:Sg) (tab:Tab) (f:FuncId) (M:List Bool) (args:List SV) (a:AV) (ty:TypeId) (gs:Gs) (l:List AV):T (SV×List AV×List AV) :=
 Eu σ tab f M (.v (.c (.ptr 7 0))::args) (a::l) (dw AV.len ty gs)
theorem Bg {M:List Bool} {a:AV} {l:List AV} (hM:7=M.length):ClV (hpO M (a::l)) (.v (.c (.ptr 7 0))):=by
 intro c hc n hn
 have hc:c∈[Cell.ptr 7 0]:=hc
 rw [List.mem_singleton.1 hc] at hn
 cases hn
 refine⟨.abs a,?_⟩
 unfold hpO
 rw [aH,dv,if_neg (by omega),hM,Nat.sub_self]
 rfl
theorem Cw {tab:Tab} (ht:bO Tryz.prog (NV σ) tab) {f:FuncId} {M:List Bool} (hM:7=M.length) {args:List SV} {a:AV} {ty:TypeId} {gs:Gs} {l:List AV} (ho:a.okD=true) (hl:j5 σ a=some (dw AV.len ty (eO gs))) {v:SV} {l' nw:List AV}
 (hargs:∀x∈args,ClV (hpO M (a::l)) x) (h:(dJ σ tab f M args a ty gs l).val=some (v,l',nw)) :
 Ctr Tryz.prog (NV σ) f (.v (.c (.ptr 7 0))::args) (hpO M (a::l)) v (hpO M (l'++nw)) /\ l'.length=l.length+1 :=
 Gl ht hM (a:=a) (K:=dw AV.len ty gs) ⟨_,rfl⟩ (fun L S w hq=>rD ((nU (N:=NV σ) rfl hl ho L S w).1 hq)) (fun x hx=>by
  rcases List.mem_cons.1 hx with rfl | hx
  ·exact Bg hM
  ·exact hargs x hx) h
def gp {β α:Type} (B:ValK β) (O:ObK α):SV×List AV×List AV->Option (β×α)
 | (v,[a],[])=>match B.dec v,O.X a with
   | some b,some j=>some (b,j)
   | _,_=>none
 | _=>none
def xj {α:Type}:Option Bool->T α->T α
 | none,t=>t
 | some b,t=>.need b t
def okO:Option Bool->Bool
 | none=>true
 | some b=>b
theorem fL {α:Type} {o:Option Bool} {t:T α} {r:α} (h:(xj o t).val=some r):okO o=true /\ t.val=some r:=by
 cases o with
 | none=>exact⟨rfl,h⟩
 | some b=>exact aj h
def dK {γ β α:Type} (A:ArgK γ) (B:ValK β) (O:ObK α) (ok:α->γ->Option Bool) (next:α->γ->β×α) (args:List SV) (l:List AV):T (SV×List AV×List AV):=match args,l with
 | .v (.c (.ptr 7 0))::r,[a]=>match A.dec r,O.X a with
   | some x,some j=>xj (ok j x) (.leaf (B.enc (next j x).1,[O.V (next j x).2],[]))
   | _,_=>.fail "method"
 | _,_=>.fail "method"
theorem map_some {α β:Type} {t:T α} {d:α->β} {y:β} (h:(t.map d).val=some y):∃r,t.val=some r /\ d r=y:=by
 rw [T.val_map] at h
 obtain⟨r,h1,h2⟩:=Option.map_eq_some_iff.1 h
 exact⟨r,h1,h2⟩
theorem ud {β α:Type} {B:ValK β} {O:ObK α} {r:SV×List AV×List AV} {b:β} {j:α} (h:gp B O r=some (b,j)):r=(B.enc b,[O.V j],[]):=by
 unfold gp at h
 split at h
 ·split at h
  ·rename_i hb hj
   cases h
   rw [B.ok _ _ hb,O.ok _ _ hj]
  ·cases h
 ·cases h
def Uo {γ β α:Type} (σ:Sg) (tab:Tab) (f:FuncId) (M:List Bool) (A:ArgK γ) (B:ValK β) (O:ObK α) (j:α) (x:γ) (r:β×α):Prop :=
 ∃ty gs,j5 σ (O.V j)=some (dw AV.len ty (eO gs)) /\ ∃args,fy args=true /\ (∀ρ:Nm,args.map (SV.den ρ)=(A.enc x).map (SV.den ρ)) /\ ((dJ σ tab f M args (O.V j) ty gs []).map (gp B O)).val=some (some r)
theorem zC {tab:Tab} (ht:bO Tryz.prog (NV σ) tab) {f:FuncId} {M:List Bool} (hM:7=M.length) {γ β α:Type} {A:ArgK γ} {B:ValK β} {O:ObK α} {ok:α->γ->Option Bool} {next:α->γ->β×α} (hrun:∀j x,okO (ok j x)=true->Uo σ tab f M A B O j x (next j x))
 {args:List SV} {l:List AV} {v:SV} {l' nw:List AV} (h:(dK A B O ok next args l).val=some (v,l',nw)) (hl:l'.length=l.length) (hargs:∀x∈args,ClV (bB AV.sent 0 M++cr l) x):Ctr Tryz.prog (NV σ) f args (bB AV.sent 0 M++cr l) v (bB AV.sent 0 M++cr (l'++nw)):=by
 unfold dK at h
 split at h
 ·rename_i r a
  split at h
  ·rename_i x j hx hj
   replace h:=fL h
   obtain⟨hok,h⟩:=h
   simp only [T.val,Option.some.injEq,Prod.mk.injEq] at h
   obtain⟨rfl,rfl,rfl⟩:=h
   have ea:=O.ok _ _ hj
   subst ea
   obtain⟨ty,gs,e1,args',e2,e3,e4⟩:=hrun j x hok
   obtain⟨y,h1,h2⟩:=map_some e4
   have h2:=ud h2
   subst h2
   have hc:=Cw ht hM (O.okD j) e1 (cW e2) h1
   exact eX hc.1 fun ρ=>by
    simp only [List.map_cons]
    rw [e3 ρ,A.ok _ _ hx ρ]
  ·simp [T.val] at h
 ·simp [T.val] at h
theorem ij {tab:Tab} (ht:bO Tryz.prog (NV σ) tab) {f:FuncId} {M:List Bool} (hM:7=M.length) {γ β α:Type} {A:ArgK γ} {B:ValK β} {O:ObK α} {ok:α->γ->Option Bool} {next:α->γ->β×α} (hrun:∀j x,okO (ok j x)=true->Uo σ tab f M A B O j x (next j x)) :
 FnOk Tryz.prog (NV σ) f (aZ isS M (dK A B O ok next)) :=
 dQ bR hM fun args l v l' nw h hl hargs=>zC ht hM hrun h hl hargs
def kP {β:Type} (B:ValK β):SV×List AV×List AV->Option β
 | (v,[],[])=>B.dec v
 | _=>none
def jy {γ β α:Type} (A:ArgK γ) (B:ValK β) (O:ObK α) (ok:α->γ->Option Bool) (next:α->γ->β×α) (z:β) (args:List SV) (l:List AV):T (SV×List AV×List AV):=match args,l with
 | .v (.c .pnil)::r,[]=>match A.dec r with
   | some x=>.leaf (B.enc z,[],[])
   | none=>.fail "method"
 | _,_=>dK A B O ok next args l
theorem kG {tab:Tab} (ht:bO Tryz.prog (NV σ) tab) {f:FuncId} {M:List Bool} (hM:7=M.length) {γ β α:Type} {A:ArgK γ} {B:ValK β} {O:ObK α} {ok:α->γ->Option Bool} {next:α->γ->β×α} {z:β} (hrun:∀j x,okO (ok j x)=true->Uo σ tab f M A B O j x (next j x))
 (hz:∀x,((gg σ tab f M (.v (.c .pnil)::A.enc x) []).map (kP B)).val=some (some z)):FnOk Tryz.prog (NV σ) f (aZ isS M (jy A B O ok next z)):=by
 refine dQ bR hM fun args l v l' nw h hl hargs=>?_
 unfold jy at h
 split at h
 ·split at h
  ·rename_i r x hx
   simp only [T.val,Option.some.injEq,Prod.mk.injEq] at h
   obtain⟨rfl,rfl,rfl⟩:=h
   obtain⟨⟨y0,y1,y2⟩,h1,h2⟩:=map_some (hz x)
   unfold kP at h2
   split at h2
   ·rename_i v0 he
    cases he
    rw [B.ok _ _ h2] at h1
    have hc:=oY ht hM (args:=.v (.c .pnil)::A.enc x) (fun y hy=>by
     rcases List.mem_cons.1 hy with rfl | hy
     ·exact sL rfl
     ·exact cW (A.free x) y hy) h1
    exact eX hc.1 fun ρ=>by
     simp only [List.map_cons]
     rw [A.ok _ _ hx ρ]
   ·cases h2
  ·simp [T.val] at h
 ·exact zC ht hM hrun h hl hargs
def IV {α:Type} (O:ObK α):SV×List AV×List AV->Option α
 | (.v (.c (.ptr 7 0)),[],[a])=>O.X a
 | _=>none
theorem IU {α:Type} {O:ObK α} {r:SV×List AV×List AV} {j:α} (h:IV O r=some j):r=(.v (.c (.ptr 7 0)),[],[O.V j]):=by
 unfold IV at h
 split at h
 ·rw [O.ok _ _ h]
 ·cases h
def CP {γ α:Type} (A:ArgK γ) (O:ObK α) (ok:γ->Option Bool) (mk:γ->α) (args:List SV) (l:List AV):T (SV×List AV×List AV):=match l with
 | []=>match A.dec args with
   | some x=>xj (ok x) (.leaf (.v (.c (.ptr 7 0)),[],[O.V (mk x)]))
   | none=>.fail "maker"
 | _=>.fail "maker"
theorem Bp {tab:Tab} (ht:bO Tryz.prog (NV σ) tab) {f:FuncId} {M:List Bool} (hM:7=M.length) {γ α:Type} {A:ArgK γ} {O:ObK α} {ok:γ->Option Bool} {mk:γ->α}
 (hrun:∀x,okO (ok x)=true->∃args,fy args=true /\ (∀ρ:Nm,args.map (SV.den ρ)=(A.enc x).map (SV.den ρ)) /\ ((gg σ tab f M args []).map (IV O)).val=some (some (mk x))):FnOk Tryz.prog (NV σ) f (aZ isS M (CP A O ok mk)):=by
 refine dQ bR hM fun args l v l' nw h hl hargs=>?_
 unfold CP at h
 split at h
 ·split at h
  ·rename_i x hx
   replace h:=fL h
   obtain⟨hok,h⟩:=h
   simp only [T.val,Option.some.injEq,Prod.mk.injEq] at h
   obtain⟨rfl,rfl,rfl⟩:=h
   obtain⟨args',e2,e3,e4⟩:=hrun x hok
   obtain⟨y,h1,h2⟩:=map_some e4
   have h2:=IU h2
   subst h2
   have hc:=oY ht hM (cW e2) h1
   exact eX hc.1 fun ρ=>by rw [e3 ρ,A.ok _ _ hx ρ]
  ·simp [T.val] at h
 ·simp [T.val] at h
def rW {γ β:Type} (A:ArgK γ) (B:ValK β) (ok:γ->Option Bool) (fn:γ->β) (args:List SV) (l:List AV):T (SV×List AV×List AV):=match l with
 | []=>match A.dec args with
   | some x=>xj (ok x) (.leaf (B.enc (fn x),[],[]))
   | none=>.fail "function"
 | _=>.fail "function"
theorem pf {tab:Tab} (ht:bO Tryz.prog (NV σ) tab) {f:FuncId} {M:List Bool} (hM:7=M.length) {γ β:Type} {A:ArgK γ} {B:ValK β} {ok:γ->Option Bool} {fn:γ->β}
 (hrun:∀x,okO (ok x)=true->∃args,fy args=true /\ (∀ρ:Nm,args.map (SV.den ρ)=(A.enc x).map (SV.den ρ)) /\ ((gg σ tab f M args []).map (kP B)).val=some (some (fn x))):FnOk Tryz.prog (NV σ) f (aZ isS M (rW A B ok fn)):=by
 refine dQ bR hM fun args l v l' nw h hl hargs=>?_
 unfold rW at h
 split at h
 ·split at h
  ·rename_i x hx
   replace h:=fL h
   obtain⟨hok,h⟩:=h
   simp only [T.val,Option.some.injEq,Prod.mk.injEq] at h
   obtain⟨rfl,rfl,rfl⟩:=h
   obtain⟨args',e2,e3,e4⟩:=hrun x hok
   obtain⟨⟨y0,y1,y2⟩,h1,h2⟩:=map_some e4
   unfold kP at h2
   split at h2
   ·rename_i v0 he
    cases he
    rw [B.ok _ _ h2] at h1
    have hc:=oY ht hM (cW e2) h1
    exact eX hc.1 fun ρ=>by rw [e3 ρ,A.ok _ _ hx ρ]
   ·cases h2
  ·simp [T.val] at h
 ·simp [T.val] at h
def tI {α:Type} (b:Bool) (t e:T α):T α:=.ite b t e
def tL {α:Type} (a:α):T (Option α):=.need true (.leaf (some a))
theorem vI {α:Type} {b:Bool} {t e:T (Option α)} {x y:α} (h1:t.val=some (some x)) (h2:e.val=some (some y)):(tI b t e).val=some (some (cond b x y)):=by cases b<;>assumption
theorem vL {α:Type} {a:α}:(tL a).val=some (some (id a)):=rfl
def Gn (x:Rp1):List Cell:=x.w.enc++[.bt x.ok]
def aRp:ArgK Rp1 where
 enc x:=[.v (.agg (Gn x))]
 dec:=fun | [.v (.agg [c0,c1,c2,c3,c4,c5])]=>(match W.dec [c0,c1,c2,c3,c4],bOf c5 with | some w,some b=>some ⟨w,b⟩ | _,_=>none) | _=>none
 ok:=fun l a h ρ=>by
  split at h
  ·split at h
   ·rename_i w b hw hb
    cases h
    have e:=W.dec_ok _ _ hw
    have e2:=iA hb
    have d:ah ρ w.enc=ah ρ _:=(gH fun c hc=>(by simp [W.enc] at hc;rcases hc with rfl | rfl | rfl | rfl | rfl<;>rfl)).trans (e.1.trans (gH e.2).symm)
    have d2:Cell.den ρ (.bt b)=Cell.den ρ _:=(e2.1.symm.trans (den_congr _ fun m hm=>by rw [e2.2] at hm;cases hm))
    simp only [Gn,List.map_cons,List.map_nil,SV.den,V1.den,ah,List.map_append] at d d2 ⊢
    rw [d,d2];rfl
   ·cases h
  ·cases h
 free:=fun _=>rfl
def vCl:ValK Cl where
 enc c:=.v (.agg (gsC (Cl.wr c)))
 dec:=fun | .v (.agg cs)=>(match Cl.rd (cs.map .p) with | some (c,[])=>some c | _=>none) | _=>none
 ok:=fun v b h=>by
  split at h
  ·split at h
   ·rename_i hc
    cases h
    have:=Cl.rd_s hc
    rw [List.append_nil] at this
    rw [<- this,lF]
   ·cases h
  ·cases h
@[reducible] def oPile:ObK PileM:=⟨zk,zj,fun _ _=>vq,fun _=>rfl⟩
@[reducible] def oCort:ObK CortM:=⟨Aq,Ap,fun _ _=>vD,fun _=>rfl⟩
@[reducible] def oWalk:ObK WalkM:=⟨vK,B0,fun _ _=>AN,fun _=>rfl⟩
@[reducible] def oLit:ObK LitM:=⟨ET,Ix,fun _ _=>Bw,fun _=>rfl⟩
@[reducible] def oClimb:ObK ClimbM:=⟨lO,yp,fun _ _=>yo,fun _=>rfl⟩
@[reducible] def oSte:ObK SteM:=⟨wz,HO,fun _ _=>A5,fun _=>rfl⟩
@[reducible] def oRite:ObK RiteM:=⟨dR,zf,fun _ _=>vm,fun _=>rfl⟩
end
section
open Go Go.Sx Go.Proofs
set_option maxRecDepth 100000
variable {σ:Sg}
def bP (w:W):W:=⟨w.slot,w.gen,0,0,false⟩
def wTo (w r:W):W:=⟨r.slot,r.gen,bH w.tag,0,false⟩
def jc (w:W):W:=⟨w.slot,w.gen,bH w.tag,w.num,true⟩
def eI (w:W) (n:Int):W:=⟨0,0,bH w.tag,IntKind.wrap .i64 (w.num+n),false⟩
def af (w:W) (n:Int):Ad:=⟨w.slot,w.gen,n⟩
def aC (n:Int):Ad:=⟨0,0,n⟩
def dX:Ad:=⟨0,0,0⟩
def aD:Cl:=⟨0,dX,wNil,wNil,0,0,⟨0,0⟩⟩
def aM (a:Ad):Cl:=⟨3,a,wNil,wNil,0,0,⟨0,0⟩⟩
def bz (a:Ad) (w:W):Cl:=⟨4,a,wNil,w,0,0,⟨0,0⟩⟩
def bf (a:Ad) (o n:W):Cl:=⟨5,a,o,n,0,0,⟨0,0⟩⟩
def aS (a:Ad) (i:Int):Cl:=⟨6,a,wNil,wNil,i,0,⟨0,0⟩⟩
def jQ (i j:Int):Cl:=⟨7,dX,wNil,wNil,i,j,⟨0,0⟩⟩
def fV:Cl:=⟨8,dX,wNil,wNil,0,0,⟨0,0⟩⟩
def kS (w:W):Cl:=⟨9,dX,w,wNil,0,0,⟨0,0⟩⟩
def fP (w:W):Cl:=⟨10,dX,w,wNil,0,0,⟨0,0⟩⟩
def fx (code val:Int):Cl:=⟨12,dX,wNil,wNil,0,0,⟨code,val⟩⟩
def zm {β:Type} (I:Bool->β->β->β) (L:Cl×PileM->β) (j:PileM) (x:Rp1):β :=
 let ask (n:Int) (c:Cl) (j:PileM):β:=L (c,{j with pc:=n})
 let done (j:PileM) (c v:Int):β:=L (fx c v,{j with pc:=-1,last:=fx c v})
 I (j.op.kind==1)
   (I (j.pc==0) (ask 1 fV j)
   (I (j.pc==1) (I (!x.ok) (done j 4 0) (ask 2 (bz (af x.w 1) (dt j.op.val)) {j with node:=x.w}))
   (I (j.pc==5) (I x.ok (done j 1 0) (ask 3 (aM (aC 0)) j))
   (I (j.pc==2) (ask 3 (aM (aC 0)) j)
   (I (j.pc==3) (ask 4 (bz (af j.node 2) (bP x.w)) {j with top:=x.w})
   (I (j.pc==4) (ask 5 (bf (aC 0) j.top (wTo j.top j.node)) j)
   (L (j.last,j))))))))
   (I (j.pc==3) (I x.ok (ask 4 (aM (af j.top 1)) j) (ask 1 (aS (aC 0) 0) j))
   (I (j.pc==0) (ask 1 (aS (aC 0) 0) j)
   (I (j.pc==1) (I (x.w.slot==0) (done {j with top:=x.w} 2 0) (I (j.op.kind==3) (ask 4 (aM (af x.w 1)) {j with top:=x.w}) (ask 2 (aM (af x.w 2)) {j with top:=x.w})))
   (I (j.pc==2) (ask 3 (bf (aC 0) j.top (wTo j.top x.w)) j)
   (I (j.pc==4) (I (j.op.kind==3) (done {j with val:=x.w.num} 1 x.w.num) (ask 5 (fP j.top) {j with val:=x.w.num}))
   (I (j.pc==5) (done j 1 j.val)
   (L (j.last,j))))))))
def jv (j:PileM) (x:Rp1):Cl×PileM:=zm cond id j x
theorem V7 (σ:Sg) (j:PileM) (x:Rp1):(dJ σ bm 133 noM (aRp.enc x) (zk j) Cf (PileM.wr j) []).map (gp vCl oPile)=zm tI tL j x:=by kernel_rfl
theorem O6:FnOk Tryz.prog (NV σ) 133 (aZ isS noM (dK aRp vCl oPile (fun _ _=>none) jv)) :=
 ij aJ rfl fun j x _=>⟨Cf,PileM.wr j,rfl,aRp.enc x,rfl,fun _=>rfl,by
  rw [V7];unfold zm jv zm;dsimp only
  repeat' first | apply vI | exact vL⟩
def yj {β:Type} (I:Bool->β->β->β) (L:Cl×CortM->β) (j:CortM) (x:Rp1):β :=
 let two (p q:Bool) (t e:β):β:=I p (I p t e) (I q t e)
 let ask (n:Int) (c:Cl) (j:CortM):β:=L (c,{j with pc:=n})
 let done (j:CortM) (c v:Int):β:=L (fx c v,{j with pc:=-1,last:=fx c v})
 I (j.op.kind==4)
   (I (j.pc==0) (ask 1 fV j)
   (I (j.pc==1) (I (!x.ok) (done j 4 0) (ask 2 (bz (af x.w 1) (dt j.op.val)) {j with node:=x.w}))
   (I (j.pc==3) (ask 4 (aM (af x.w 2)) {j with t:=x.w})
   (I (j.pc==4) (ask 5 (aM (aC 1)) {j with n:=x.w})
   (I (j.pc==5) (I (!ia x.w j.t) (ask 3 (aS (aC 1) 0) j) (I (!(j.n.slot==0)) (ask 6 (bf (aC 1) j.t (wTo j.t j.n)) j) (ask 7 (bf (af j.t 2) j.n (wTo j.n j.node)) j)))
   (I (j.pc==7) (I x.ok (ask 8 (bf (aC 1) j.t (wTo j.t j.node)) j) (ask 3 (aS (aC 1) 0) j))
   (two (j.pc==2) (j.pc==6) (ask 3 (aS (aC 1) 0) j)
   (I (j.pc==8) (done j 1 0)
   (L (j.last,j))))))))))
   (I (j.pc==1) (ask 2 (aM (aC 1)) {j with h:=x.w})
   (I (j.pc==2) (ask 3 (aS (af j.h 2) 1) {j with t:=x.w})
   (I (j.pc==3) (ask 4 (aM (aC 0)) {j with n:=x.w})
   (I (j.pc==4) (I (!ia x.w j.h) (ask 1 (aS (aC 0) 0) j) (I (j.n.slot==0) (done j 2 0) (I (j.h.slot==j.t.slot) (ask 5 (bf (aC 1) j.t (wTo j.t j.n)) j) (ask 6 (aM (af j.n 1)) j))))
   (I (j.pc==6) (ask 7 (bf (aC 0) j.h (wTo j.h j.n)) {j with val:=x.w.num})
   (I (j.pc==7) (I x.ok (ask 8 (fP j.h) j) (ask 1 (aS (aC 0) 0) j))
   (two (j.pc==0) (j.pc==5) (ask 1 (aS (aC 0) 0) j)
   (I (j.pc==8) (done j 1 j.val)
   (L (j.last,j))))))))))
def iy (j:CortM) (x:Rp1):Cl×CortM:=yj cond id j x
theorem Xr (σ:Sg) (j:CortM) (x:Rp1):(dJ σ bm 143 noM (aRp.enc x) (Aq j) Ch (CortM.wr j) []).map (gp vCl oCort)=yj tI tL j x:=by kernel_rfl
theorem Qb:FnOk Tryz.prog (NV σ) 143 (aZ isS noM (dK aRp vCl oCort (fun _ _=>none) iy)) :=
 ij aJ rfl fun j x _=>⟨Ch,CortM.wr j,rfl,aRp.enc x,rfl,fun _=>rfl,by
  rw [Xr];unfold yj iy yj;dsimp only
  repeat' first | apply vI | exact vL⟩
end
section
open Go Go.Sx Go.Proofs
set_option maxRecDepth 100000
variable {σ:Sg}
def yI:ValK (Cl×Bool) where
 enc c:=.tup [.agg (gsC (Cl.wr c.1)),.c (.bt c.2)]
 dec:=fun | .tup [.agg cs,.c (.bt b)]=>(match Cl.rd (cs.map .p) with | some (c,[])=>some (c,b) | _=>none) | _=>none
 ok:=fun v b h=>by
  split at h
  ·split at h
   ·rename_i hc
    cases h
    have:=Cl.rd_s hc
    rw [List.append_nil] at this
    rw [<- this,lF]
   ·cases h
  ·cases h
def uu {β:Type} (I:Bool->β->β->β) (L:(Cl×Bool)×WalkM->β) (w:WalkM) (x:Rp1):β :=
 let ask (n:Int) (c:Cl) (w:WalkM):β:=L ((c,true),{w with pc:=n})
 let finish (f:Bool) (w:WalkM):β:=L ((aD,false),{w with pc:=-1,found:=f})
 let again (w:WalkM):β:=ask 1 (aS w.start 1) {w with prev:=w.start}
 let behind (w:WalkM):β:=ask 2 (aS (af w.cur 2) 0) w
 let on (w:WalkM):β:=I (w.cur.slot==0) (finish false w) (ask 8 (jQ 1 0) w)
 I (w.pc==1) (I x.w.mark (again w) (I (x.w.slot==0) (finish false {w with cur:=x.w}) (behind {w with cur:=x.w})))
 (I (w.pc==2) (ask 3 (aM (af w.cur 0)) {w with next:=x.w})
 (I (w.pc==3) (ask 4 (aM w.prev) {w with k:=x.w.num})
 (I (w.pc==4) (I (!ia x.w w.cur) (again w) (I w.next.mark (ask 5 (bf w.prev w.cur (wTo w.cur w.next)) w) (I (decide (w.k>=w.key)) (finish (w.k==w.key) w) (ask 7 (jQ 2 1) {w with prev:=af w.cur 2}))))
 (I (w.pc==5) (I x.ok (ask 6 (fP w.cur) w) (again w))
 (I (w.pc==0) (again w)
 (I (w.pc==6) (on {w with cur:=wTo w.cur w.next})
 (I (w.pc==7) (on {w with cur:=w.next})
 (I (w.pc==8) (behind w)
 (L ((aD,false),w))))))))))
def aG (w:WalkM) (x:Rp1):(Cl×Bool)×WalkM:=uu cond id w x
theorem Ux (σ:Sg) (w:WalkM) (x:Rp1):(dJ σ bm 160 noM (aRp.enc x) (vK w) qW (WalkM.wr w) []).map (gp yI oWalk)=uu tI tL w x:=by kernel_rfl
theorem RS (σ:Sg) (x:Rp1):(gg σ bm 160 noM (.v (.c .pnil)::aRp.enc x) []).map (kP yI)=.leaf (some (aD,false)):=by kernel_rfl
theorem Oa:FnOk Tryz.prog (NV σ) 160 (aZ isS noM (jy aRp yI oWalk (fun _ _=>none) aG (aD,false))) :=
 kG aJ rfl (fun j x _=>⟨qW,WalkM.wr j,rfl,aRp.enc x,rfl,fun _=>rfl,by
  rw [Ux];unfold uu aG uu;dsimp only
  repeat' first | apply vI | exact vL⟩) fun x=>congrArg T.val (RS σ x)
def aAdI:ArgK (Ad×Int) where
 enc x:=[.v (.agg [.it .i64 x.1.s,.it .i64 x.1.g,.it .i64 x.1.f]),.v (.c (.it .i64 x.2))]
 dec:=fun | [.v (.agg [c0,c1,c2]),.v (.c c3)]=>(match iOf c0,iOf c1,iOf c2,iOf c3 with | some a,some b,some c,some n=>some (⟨a,b,c⟩,n) | _,_,_,_=>none) | _=>none
 ok:=fun l a h ρ=>by
  split at h
  ·split at h
   ·rename_i h0 h1 h2 h3
    cases h
    simp only [List.map_cons,List.map_nil,SV.den,V1.den,ah,bp h0 ρ,bp h1 ρ,bp h2 ρ,bp h3 ρ]
    rfl
   ·cases h
  ·cases h
 free:=fun _=>rfl
def dS (x:Ad×Int):WalkM:=⟨0,aD,x.1,x.2,x.1,wNil,wNil,0,false⟩
theorem LH (σ:Sg) (x:Ad×Int):(gg σ bm 164 noM (aAdI.enc x) []).map (IV oWalk)=tL (dS x):=by kernel_rfl
theorem EL:FnOk Tryz.prog (NV σ) 164 (aZ isS noM (CP aAdI oWalk (fun _=>none) dS)) :=
 Bp aJ rfl fun x _=>⟨aAdI.enc x,rfl,fun _=>rfl,by rw [LH];rfl⟩
def AJ:ArgK Unit:=⟨fun _=>[],fun | []=>some () | _=>none,fun l a h ρ=>by split at h<;>cases h;rfl,fun _=>rfl⟩
def FQ:ValK Bool where
 enc b:=.v (.c (.bt b))
 dec:=fun | .v (.c (.bt b))=>some b | _=>none
 ok:=fun v b h=>by split at h<;>cases h;rfl
def AW:ValK (Ad×W×W) where
 enc x:=.tup [.agg [.it .i64 x.1.s,.it .i64 x.1.g,.it .i64 x.1.f],.agg x.2.1.enc,.agg x.2.2.enc]
 dec:=fun | .tup [.agg [.it .i64 a,.it .i64 b,.it .i64 c],.agg [.it .i64 d,.it .i64 e,.it .i64 f,.it .i64 g,.bt h],.agg [.it .i64 i,.it .i64 k,.it .i64 l,.it .i64 m,.bt n]]=>some (⟨a,b,c⟩,⟨d,e,f,g,h⟩,⟨i,k,l,m,n⟩) | _=>none
 ok:=fun v b h=>by split at h<;>cases h;rfl
theorem TU (σ:Sg) (w:WalkM):(dJ σ bm 161 noM [] (vK w) qW (WalkM.wr w) []).map (gp FQ oWalk)=tL (w.found,w):=by kernel_rfl
theorem SS (σ:Sg) (w:WalkM):(dJ σ bm 162 noM [] (vK w) qW (WalkM.wr w) []).map (gp AW oWalk)=tL ((w.prev,w.cur,w.next),w):=by kernel_rfl
theorem PS (σ:Sg):(gg σ bm 161 noM [.v (.c .pnil)] []).map (kP FQ)=.leaf (some false):=by kernel_rfl
theorem MM:FnOk Tryz.prog (NV σ) 161 (aZ isS noM (jy AJ FQ oWalk (fun _ _=>none) (fun w _=>(w.found,w)) false)) :=
 kG aJ rfl (fun j x _=>⟨qW,WalkM.wr j,rfl,[],rfl,fun _=>rfl,by rw [TU];rfl⟩) fun x=>congrArg T.val (PS σ)
theorem O3 (σ:Sg):(gg σ bm 162 noM [.v (.c .pnil)] []).map (kP AW)=.leaf (some (dX,wNil,wNil)):=by kernel_rfl
theorem La:FnOk Tryz.prog (NV σ) 162 (aZ isS noM (jy AJ AW oWalk (fun _ _=>none) (fun w _=>((w.prev,w.cur,w.next),w)) (dX,wNil,wNil))) :=
 kG aJ rfl (fun j x _=>⟨qW,WalkM.wr j,rfl,[],rfl,fun _=>rfl,by rw [SS];rfl⟩) fun x=>congrArg T.val (O3 σ)
noncomputable def Ca:Tab:=aQ 160 (aZ isS noM (jy aRp yI oWalk (fun _ _=>none) aG (aD,false))) (aQ 164 (aZ isS noM (CP aAdI oWalk (fun _=>none) dS))
 (aQ 161 (aZ isS noM (jy AJ FQ oWalk (fun _ _=>none) (fun w _=>(w.found,w)) false)) (aQ 162 (aZ isS noM (jy AJ AW oWalk (fun _ _=>none) (fun w _=>((w.prev,w.cur,w.next),w)) (dX,wNil,wNil))) bm)))
theorem B9:bO Tryz.prog (NV σ) Ca:=au Oa (au EL (au MM (au La aJ)))
def C2 {β:Type} (I:Bool->β->β->β) (L:Cl×LitM->β) (j:LitM) (x:Rp1):β :=
 let ask (n:Int) (c:Cl) (j:LitM):β:=L (c,{j with pc:=n})
 let done (j:LitM) (c v:Int):β:=L (fx c v,{j with pc:=-1,last:=fx c v})
 let seek (j:LitM) (n:Int):LitM:={j with walk:=some (dS (j.start,j.key)),pc:=n}
 let found (j:LitM) (t e:β):β:=match j.walk with | none=>I false t e | some w=>I w.found t e
 let miss (j:LitM) (t e:β):β:=match j.walk with | none=>I (!false) t e | some w=>I (!w.found) t e
 let prev (j:LitM):Ad:=match j.walk with | none=>dX | some w=>w.prev
 let cur (j:LitM):W:=match j.walk with | none=>wNil | some w=>w.cur
 let next (j:LitM):W:=match j.walk with | none=>wNil | some w=>w.next
 let step (j:LitM) (k:LitM->β):β:=match j.walk with
  | none=>I false (L (aD,j)) (k j)
  | some w=>I (aG w x).1.2 (L ((aG w x).1.1,{j with walk:=some (aG w x).2})) (k {j with walk:=some (aG w x).2})
 let ins4 (j:LitM):β:=step j fun j=>found j (ask 5 (kS j.node) j) (ask 6 (bz (af j.node 2) (bP (cur j))) j)
 let rem1 (j:LitM):β:=step j fun j=>miss j (done j 2 0) (ask 2 (aM (af (cur j) 1)) j)
 I (j.op.kind==6)
   (I (j.pc==0) (ask 1 fV j)
   (I (j.pc==1) (I (!x.ok) (done j 4 0) (ask 2 (bz (af x.w 0) (dt j.key)) {j with node:=x.w}))
   (I (j.pc==2) (ask 3 (bz (af j.node 1) (dt j.op.val)) j)
   (I (j.pc==7) (I x.ok (done j 1 0) (ins4 (seek j 4)))
   (I (j.pc==3) (ins4 (seek j 4))
   (I (j.pc==4) (ins4 j)
   (I (j.pc==5) (done j 3 0)
   (I (j.pc==6) (ask 7 (bf (prev j) (cur j) (wTo (cur j) j.node)) j)
   (L (j.last,j))))))))))
 (I (j.op.kind==7)
   (I (j.pc==3) (I x.ok (ask 4 (bf (prev j) (cur j) (wTo (cur j) (next j))) j) (rem1 (seek j 1)))
   (I (j.pc==0) (rem1 (seek j 1))
   (I (j.pc==1) (rem1 j)
   (I (j.pc==2) (ask 3 (bf (af (cur j) 2) (next j) (jc (next j))) {j with val:=x.w.num})
   (I (j.pc==4) (I x.ok (ask 5 (fP (cur j)) j) (step (seek j 6) fun j=>done j 1 j.val))
   (I (j.pc==6) (step j fun j=>done j 1 j.val)
   (I (j.pc==5) (done j 1 j.val)
   (L (j.last,j)))))))))
   (I (j.pc==0) (rem1 (seek j 1))
   (I (j.pc==1) (rem1 j)
   (I (j.pc==2) (done j 1 x.w.num)
   (L (j.last,j))))))
def bj (j:LitM) (x:Rp1):Cl×LitM:=C2 cond id j x
theorem WH (σ:Sg) (pc:Int) (la:Cl) (st:Ad) (key:Int) (op:O) (nd:W) (v:Int) (x:Rp1):(dJ σ Ca 152 noM (aRp.enc x) (ET ⟨pc,la,st,key,op,none,nd,v⟩) D3 (LitM.wr ⟨pc,la,st,key,op,none,nd,v⟩) []).map (gp vCl oLit)=C2 tI tL ⟨pc,la,st,key,op,none,nd,v⟩ x:=by kernel_rfl
theorem WG (σ:Sg) (pc:Int) (la:Cl) (st:Ad) (key:Int) (op:O) (w:WalkM) (nd:W) (v:Int) (x:Rp1):(dJ σ Ca 152 noM (aRp.enc x) (ET ⟨pc,la,st,key,op,some w,nd,v⟩) D3 (LitM.wr ⟨pc,la,st,key,op,some w,nd,v⟩) []).map (gp vCl oLit)=C2 tI tL ⟨pc,la,st,key,op,some w,nd,v⟩ x:=by kernel_rfl
theorem WE (σ:Sg) (x:Rp1):(gg σ Ca 152 noM (.v (.c .pnil)::aRp.enc x) []).map (kP vCl)=.leaf (some aD):=by kernel_rfl
theorem L9:FnOk Tryz.prog (NV σ) 152 (aZ isS noM (jy aRp vCl oLit (fun _ _=>none) bj aD)) :=
 kG B9 rfl (fun j x _=>by
  obtain⟨pc,la,st,key,op,w,nd,v⟩:=j
  cases w with
  | none=>exact⟨D3,LitM.wr ⟨pc,la,st,key,op,none,nd,v⟩,rfl,aRp.enc x,rfl,fun _=>rfl,by
     rw [WH];unfold C2 bj C2;dsimp only
     repeat' first | apply vI | exact vL⟩
  | some w=>exact⟨D3,LitM.wr ⟨pc,la,st,key,op,some w,nd,v⟩,rfl,aRp.enc x,rfl,fun _=>rfl,by
     rw [WG];unfold C2 bj C2;dsimp only
     repeat' first | apply vI | exact vL⟩) fun x=>congrArg T.val (WE σ x)
end
end Go.Proofs.YtadmfaohjnjajaaGreatDoor
