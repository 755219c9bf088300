import Derived.Test.YtadmfaohjnjajaaGreatDoorOa
import Derived.Test.YtadmfaohjnjajaaGreatDoorMd
set_option linter.unusedVariables false
set_option linter.unusedSimpArgs false
set_option maxHeartbeats 0
set_option maxRecDepth 100000
noncomputable section
namespace Go.Proofs.YtadmfaohjnjajaaGreatDoor
section
open Go Go.Sx Go.Proofs
def Zb {α:Type} (K:AK α) (ex:AV->Option (List α)) (mk:List α->AV):Rd AV:=fun H c=>match Io K ex H c with
 | some (l,len,nm)=>some (mk l,len,nm)
 | none=>none
theorem IZ {σ:Sg} {N:dV AV} (hF:N.F=F6 σ) {α:Type} {K:AK α} {ex:AV->Option (List α)} {mk:List α->AV} (hex:∀a l,ex a=some l->a=mk l) (hd:∀l,(mk l).v8=0) (hq:∀l lc S w,AV.q σ (mk l) lc S w↔K.q l lc S w) (hl:∀l,(mk l).len=l.length):O6 N (Zb K ex mk) K.es:=by
 intro H c a len nm h hlen ρ w hO
 unfold Zb at h
 split at h
 ·rename_i l' Jo nm' ha
  cases h
  have el:N.F.len (mk l')=l'.length:=by rw [hF];exact hl l'
  rw [el] at hlen ⊢
  obtain⟨lc,S,h1,h2,h3⟩:=zz (N:=N) (fun a l he lc S w hqa=>by rw [hex a l he] at hqa;exact(hq l lc S w).1 ((uh hF (hd l) lc S w).1 hqa)) ha hlen hO
  exact⟨lc,S,h1,(uh hF (hd l') lc S w).2 ((hq l' lc S w).2 h2),h3⟩
 ·cases h
def exN:AV->Option (List Nt) | .notes l=>some l | _=>none
def exO:AV->Option (List O) | .bZ l=>some l | _=>none
def exB:AV->Option (List Bt) | .kA l=>some l | _=>none
abbrev KS:=List (Option (Rd AV×Nat))
def Aj:Nat->KS->KS
 | 0,r=>r
 | n+1,r=>none::Aj n r
def aaa:Option (Rd AV×Nat):=some (Zb dS exW .eU,dS.es)
def PE:Option (Rd AV×Nat):=some (Zb bj exN .notes,bj.es)
def aku:Option (Rd AV×Nat):=some (Zb rM exO .bZ,rM.es)
def aab:Option (Rd AV×Nat):=some (Zb mB exB .kA,mB.es)
def VE (es:Nat):Rd AV:=fun H c=>match c with
 | .vs n 0 len e _=>match Nat.beq e es with
   | true=>match ae H n with
     | some (.bI (.R4 d e2 ty gs))=>match Nat.beq e2 es with
       | true=>some (.R4 d e2 ty gs,len,some n)
       | false=>none
     | _=>none
   | false=>none
 | _=>none
theorem VD {σ:Sg} {N:dV AV} (es:Nat):O6 N (VE es) es:=by
 intro H c a len nm h hlen ρ w hO
 unfold VE at h
 split at h
 ·rename_i n Jo e kn
  split at h
  ·rename_i he
   have he:=(aC _ _).1 he
   subst he
   split at h
   ·rename_i d e2 ty gs hn
    split at h
    ·cases h
     exact⟨ρ.L n,ρ.S n,by rw [<- hlen];rfl,hO.q n _ hn,_,hn,fun k=>Iff.rfl⟩
    ·cases h
   ·cases h
  ·cases h
 ·cases h
def akv (es:Nat):Option (Rd AV×Nat):=some (VE es,es)
def WX (ty:TypeId):Option (Nat×KS) :=
 match Nat.beq ty fg with
 | true=>some (1,Aj 44 ((aaa::(PE::Aj 52 ((PE::Aj 7 []))))))
 | false=>match Nat.beq ty Ky with
 | true=>some (1,Aj 34 [])
 | false=>match Nat.beq ty KA with
 | true=>some (1,Aj 44 [])
 | false=>match Nat.beq ty yp with
 | true=>some (1,Aj 38 [])
 | false=>match Nat.beq ty Nj with
 | true=>some (2,Aj 34 [])
 | false=>match Nat.beq ty mg with
 | true=>some (1,Aj 64 [])
 | false=>match Nat.beq ty tU with
 | true=>some (2,Aj 32 [])
 | false=>match Nat.beq ty Kw with
 | true=>some (3,Aj 51 [])
 | false=>match Nat.beq ty qg with
 | true=>some (4,Aj 29 [])
 | false=>match Nat.beq ty afp with
 | true=>some (6,none::none::akv 4::aab::[])
 | false=>none
def WZ (ty:TypeId):Option (Nat×Nat×KS) :=
 match Nat.beq ty afn with
 | true=>some (5,4,none::aku::none::none::[])
 | false=>none
def WV (ks:KS):Nat->KS
 | 0=>[]
 | n+1=>ks++WV ks n
theorem PL {σ:Sg} {a:AV} {d:Nat} {ty:TypeId} {gs:Gs} (h:a.ob=some (d,ty,gs)):o4 σ a=some (fP AV.len ty gs) /\ a.FV=true:=by
 cases a<;>first | (cases h;done) | skip
 all_goals (cases h;exact⟨rfl,rfl⟩)
def acX (σ:Sg) (H:Hp AV) (n:Nat) (l:List Cell) (ty:TypeId):T (AV×List Nat):=match WX ty with
 | some (d,ks)=>match nS (F6 σ) H ks l with
   | some (gs,b,ns)=>match Am (n::fS ns) with
     | true=>match mkO ty gs with
       | some a=>.aJ b (.aE (a,fS ns))
       | none=>match AV.FV (.NX d ty gs) with
         | true=>.aJ b (.aE (.NX d ty gs,fS ns))
         | false=>.fail "object: depths"
     | false=>.fail "object: names"
   | none=>.fail "object: fields"
 | none=>.fail "object: type"
def acY (σ:Sg) (H:Hp AV) (n:Nat) (l:List Cell) (es:Nat) (ty:TypeId):T (AV×List Nat):=match WZ ty with
 | some (d,e,ks)=>match Nat.beq es e,nS (F6 σ) H (WV ks (l.length / e)) l with
   | true,some (gs,b,ns)=>match Am (n::fS ns),AV.FV (.R4 d es ty gs) with
     | true,true=>.aJ b (.aE (.R4 d es ty gs,fS ns))
     | _,_=>.fail "array: names"
   | _,_=>.fail "array: fields"
 | none=>.fail "array: type"
def CU (σ:Sg) (H:Hp AV) (n:Nat):T (AV×List Nat):=match ae H n with
 | some (.cells l ty)=>match Nat.beq ty Kx with
   | true=>TW σ H n
   | false=>acX σ H n l ty
 | some (.kD l es ty)=>acY σ H n l es ty
 | _=>.fail "object"
theorem lu {N:dV AV}:∀n {r:KS},xE N r->xE N (Aj n r)
 | 0,r,h=>h
 | n+1,r,h=>lu n h
theorem Eh {N:dV AV}:∀{a b:KS},xE N a->xE N b->xE N (a++b)
 | [],b,_,hb=>hb
 | none::r,b,ha,hb=>Eh (a:=r) ha hb
 | some (rd,es)::r,b,ha,hb=>⟨ha.1,Eh (a:=r) ha.2 hb⟩
theorem LC {N:dV AV} {ks:KS} (h:xE N ks):∀n,xE N (WV ks n)
 | 0=>trivial
 | n+1=>Eh h (LC h n)
theorem akI {σ:Sg} {N:dV AV} (hF:N.F=F6 σ):O6 N (Zb dS exW .eU) dS.es:=IZ hF (fun a l h=>by cases a<;>first | (cases h;done) | (cases h;rfl)) (fun _=>rfl) (fun _ _ _ _=>Iff.rfl) (fun _=>rfl)
theorem adL {σ:Sg} {N:dV AV} (hF:N.F=F6 σ):O6 N (Zb bj exN .notes) bj.es:=IZ hF (fun a l h=>by cases a<;>first | (cases h;done) | (cases h;rfl)) (fun _=>rfl) (fun _ _ _ _=>Iff.rfl) (fun _=>rfl)
theorem akJ {σ:Sg} {N:dV AV} (hF:N.F=F6 σ):O6 N (Zb rM exO .bZ) rM.es:=IZ hF (fun a l h=>by cases a<;>first | (cases h;done) | (cases h;rfl)) (fun _=>rfl) (fun _ _ _ _=>Iff.rfl) (fun _=>rfl)
theorem akK {σ:Sg} {N:dV AV} (hF:N.F=F6 σ):O6 N (Zb mB exB .kA) mB.es:=IZ hF (fun a l h=>by cases a<;>first | (cases h;done) | (cases h;rfl)) (fun _=>rfl) (fun _ _ _ _=>Iff.rfl) (fun _=>rfl)
theorem LF {σ:Sg} {N:dV AV} (hF:N.F=F6 σ) {ty:TypeId} {d:Nat} {ks:KS} (h:WX ty=some (d,ks)):xE N ks:=by
 unfold WX at h
 split at h
 ·simp only [aaC,aaF] at h
  obtain⟨_,rfl⟩:=h
  exact lu 44 ⟨akI hF,adL hF,lu 52 ⟨adL hF,lu 7 trivial⟩⟩
 ·split at h
  ·simp only [aaC,aaF] at h
   obtain⟨_,rfl⟩:=h
   exact lu 34 trivial
  ·split at h
   ·simp only [aaC,aaF] at h
    obtain⟨_,rfl⟩:=h
    exact lu 44 trivial
   ·split at h
    ·simp only [aaC,aaF] at h
     obtain⟨_,rfl⟩:=h
     exact lu 38 trivial
    ·split at h
     ·simp only [aaC,aaF] at h
      obtain⟨_,rfl⟩:=h
      exact lu 34 trivial
     ·split at h
      ·simp only [aaC,aaF] at h
       obtain⟨_,rfl⟩:=h
       exact lu 64 trivial
      ·split at h
       ·simp only [aaC,aaF] at h
        obtain⟨_,rfl⟩:=h
        exact lu 32 trivial
       ·split at h
        ·simp only [aaC,aaF] at h
         obtain⟨_,rfl⟩:=h
         exact lu 51 trivial
        ·split at h
         ·simp only [aaC,aaF] at h
          obtain⟨_,rfl⟩:=h
          exact lu 29 trivial
         ·split at h
          ·simp only [aaC,aaF] at h
           obtain⟨_,rfl⟩:=h
           exact⟨VD (σ:=σ) 4,akK hF,trivial⟩
          ·cases h
theorem WY {σ:Sg} {N:dV AV} (hF:N.F=F6 σ) {ty:TypeId} {d e:Nat} {ks:KS} (h:WZ ty=some (d,e,ks)):xE N ks:=by
 unfold WZ at h
 split at h
 ·simp only [aaC,aaF] at h
  obtain⟨_,_,rfl⟩:=h
  exact⟨akJ hF,trivial⟩
 ·cases h
theorem tO {σ:Sg} {N:dV AV} (hF:N.F=F6 σ):Fz N (CU σ):=by
 intro H n a ns h ρ w hO
 unfold CU at h
 split at h
 ·rename_i l ty hH
  split at h
  ·exact TV hF H n a ns h ρ w hO
  ·unfold acX at h
   split at h
   ·rename_i d ks hk
    split at h
    ·rename_i gs b ms hf
     split at h
     ·rename_i iS
      split at h
      ·rename_i a' ha'
       obtain⟨rfl,h⟩:=aD h
       cases h
       rw [<- hF] at hf
       have hq:=PS (LF hF hk) hH hf (oh iS) hO
       rw [show N.F.len=AV.len by rw [hF];rfl] at hq
       obtain⟨d',AR⟩:=age ha'
       exact(sW hF (PL AR).1 (PL (σ:=σ) AR).2 _ _ _).2 hq
      ·split at h
       ·rename_i ho
        obtain⟨rfl,h⟩:=aD h
        cases h
        rw [<- hF] at hf
        have hq:=PS (LF hF hk) hH hf (oh iS) hO
        rw [show N.F.len=AV.len by rw [hF];rfl] at hq
        exact(sW hF (a:=.NX d ty gs) rfl ho _ _ _).2 hq
       ·cases h
     ·cases h
    ·cases h
   ·cases h
 ·rename_i l es ty hH
  unfold acY at h
  split at h
  ·rename_i d e ks hk
   split at h
   ·rename_i gs b ms he hf
    split at h
    ·rename_i iS ho
     obtain⟨rfl,h⟩:=aD h
     cases h
     rw [<- hF] at hf
     have hq:=aaM (LC (WY hF hk) _) hH hf (oh iS) hO
     rw [show N.F.len=AV.len by rw [hF];rfl] at hq
     exact(sW hF (a:=.R4 d es ty gs) rfl ho _ _ _).2 hq
    ·cases h
   ·cases h
  ·cases h
 ·cases h
def NV (σ:Sg):dV AV:={tt:=tt,ft:=ft,gu:=gu,G:=7,F:=F6 σ,hv:=hvG (F6 σ) Z2 7,mt:=mtF,sl:=Z2}
variable {σ:Sg}
theorem rH:fD Tryz.prog (NV σ):=Uc (ajN 7 (F6 σ) (hvG (F6 σ) Z2 7) (fun _ _=>none)) rfl rfl rfl rfl
theorem tA:fH Tryz.prog (NV σ):=fun f fn c _ _ id b _ g hg=>by cases hg
theorem J7:Tp Tryz.prog (NV σ):=Xi Z3 rfl
abbrev mK:=FuncId->Option (List SV->Hp AV->T (SV×Hp AV))
theorem fnV {tab:mK} (ht:dB Tryz.prog (NV σ) tab) (n:Nat) (f:FuncId):cD Tryz.prog (NV σ) f (lv (NV σ) tab n (.fn f)):=adW rH tA J7 ht n f
def cJ:AV->Nat->Bool
 | .gk i,j=>Nat.beq i j
 | _,_=>false
theorem dE:∀a i,cJ a i=true->a=.gk i:=fun a i h=>by
 cases a<;>first
  | (have h:=(aC _ _).1 h;subst h;rfl)
  | cases h
def zB:List Bool:=List.replicate 7 true
def Lm (l:List Nat):Nat->Nat->List Bool
 | 0,_=>[]
 | n+1,i=>nD l i::Lm l n (i+1)
def mkM (f:FuncId):List Bool:=match gu.get f with | some l=>Lm l 7 0 | none=>Lm [] 7 0
theorem G6 (l:List Nat):∀n i,(Lm l n i).length=n
 | 0,_=>rfl
 | n+1,i=>by rw [Lm,abn,G6 l n]
theorem jC (f:FuncId):7=(mkM f).length:=by
 unfold mkM;split<;>exact(G6 ..).symm
def gM (M:List Bool) (l:List AV):Hp AV:=cS AV.gk 0 M++eN l
def NM (σ:Sg) (tab:mK) (f:FuncId) (M:List Bool) (args:List SV) (l:List AV) (K:Hp AV):T (SV×List AV×List AV) :=
 match pG (gM M l) M.length K with
 | H=>match Q.Bc H args,Q.p6 H H with
   | true,true=>(Q.bind (Q.lv (NV σ) tab 14 (.fn f) args H) (Bb (CU σ) cJ M l.length [M.length])).map V9
   | _,_=>.fail "run: names"
def kN (σ:Sg) (tab:mK) (f:FuncId) (M:List Bool) (args:List SV) (l:List AV):T (SV×List AV×List AV) :=
 (Q.bind (Q.lv (NV σ) tab 14 (.fn f) args (gM M l)) (Bb (CU σ) cJ M l.length [])).map V9
theorem CC {β:Type} {t:T (SV×β)} {v:SV} {r:β} (h:(t.map V9).val=some (v,r)):∃v0,v=V8 v0 /\ t.val=some (v0,r):=by
 rw [T.fR] at h
 obtain⟨⟨v0,r0⟩,h1,h2⟩:=abu.1 h
 cases h2
 exact⟨v0,rfl,h1⟩
theorem AG (M:List Bool) (l:List AV):dM (NV σ) (gM M l):=by
 refine⟨fun n c h=>?_,trivial⟩
 unfold gM at h
 rw [bo] at h
 split at h
 ·rw [((m5 _ _ _ _ _).1 h).2];intro c hc;cases hc
 ·obtain⟨a,_,rfl⟩:=(dx _ _ _).1 h;intro c hc;cases hc
theorem Bd {H:Hp AV} (h:p6 H H=true):dM (NV σ) H:=⟨jh.1 h,trivial⟩
theorem PF {tab:mK} (ht:dB Tryz.prog (NV σ) tab) {f:FuncId} {M:List Bool} (hM:7=M.length) {args:List SV} {a:AV} {l:List AV} {K:Hp AV} (Qp:∃c,ae K 0=some c) (hKq:∀l S w,(NV σ).F.q a l S w->nu (NV σ) K l S w) {v:SV} {l' nw:List AV}
 (bM:∀x∈args,fh (gM M (a::l)) x) (h:(NM σ tab f M args (a::l) K).val=some (v,l',nw)):qT Tryz.prog (NV σ) f args (gM M (a::l)) v (gM M (l'++nw)) /\ l'.length=(a::l).length:=by
 unfold NM at h
 dsimp only at h
 split at h
 ·rename_i h1 h2
  rw [Q.clVs_eq] at h1
  rw [Q.clHs_eq] at h2
  obtain⟨v0,rfl,h0⟩:=CC h
  rw [Q.bind_eq,Q.lv_eq] at h0
  obtain⟨⟨v1,H2⟩,hr,hc⟩:=T.bf h0
  have hn:ae (gM M (a::l)) M.length=some (.bI a):=by
   unfold gM
   rw [bo,gg,if_neg (by omega),Nat.sub_self]
   rfl
  have Xr:MU (NV σ) (gM M (a::l)) (pG (gM M (a::l)) M.length K):=DH (AG M _) hn Qp (by show 7<=M.length;omega) hKq
  have XD:=(fnV ht 14 f).ctr hr (p5.1 h1) (Bd h2)
  refine(fun x=>⟨CJ x.1,x.2⟩) (wg (N:=NV σ) (tO rfl) dE hM bM Xr (fun m c h=>?_) XD hc)
  have du:=bQ hn
  have h:ae (gM M (a::l)) m=some c:=h
  rw [AO du (by rintro rfl;obtain⟨c,hc⟩:=Qp;cases hc)]
  by_cases e:m=M.length
  ·obtain⟨c0,wH⟩:=Qp
   rw [if_pos e,wH];exact⟨_,rfl⟩
  ·rw [if_neg e,if_pos (bQ h)];exact⟨c,h⟩
 ·cases h
theorem IV {tab:mK} (ht:dB Tryz.prog (NV σ) tab) {f:FuncId} {M:List Bool} (hM:7=M.length) {args:List SV} {a:AV} {l:List AV} {K:Hp AV} (hK:o4 σ a=some K) (Qp:∃c,ae K 0=some c) (ho:a.FV=true) {v:SV} {l' nw:List AV}
 (bM:∀x∈args,fh (gM M (a::l)) x) (h:(NM σ tab f M args (a::l) K).val=some (v,l',nw)):qT Tryz.prog (NV σ) f args (gM M (a::l)) v (gM M (l'++nw)) /\ l'.length=(a::l).length :=
 PF ht hM Qp (fun l S w hq=>(sW (N:=NV σ) rfl hK ho l S w).1 hq) bM h
theorem vD {tab:mK} (ht:dB Tryz.prog (NV σ) tab) {f:FuncId} {M:List Bool} (hM:7=M.length) {args:List SV} {l:List AV} {v:SV} {l' nw:List AV}
 (bM:∀x∈args,fh (gM M l) x) (h:(kN σ tab f M args l).val=some (v,l',nw)):qT Tryz.prog (NV σ) f args (gM M l) v (gM M (l'++nw)) /\ l'.length=l.length:=by
 unfold kN at h
 obtain⟨v0,rfl,h0⟩:=CC h
 rw [Q.bind_eq,Q.lv_eq] at h0
 obtain⟨⟨v1,H2⟩,hr,hc⟩:=T.bf h0
 exact(fun x=>⟨CJ x.1,x.2⟩) (wg (N:=NV σ) (tO rfl) dE hM bM (MU.refl _) (fun m c h=>⟨c,h⟩) ((fnV ht 14 f).ctr hr bM (AG M l)) hc)
end
section
open Go Go.Sx Go.Proofs
variable {σ:Sg}
def ca:mK:=fun _=>none
theorem bn:dB Tryz.prog (NV σ) ca:=fun f g h=>by cases h
def bA (f:FuncId) (g:List SV->Hp AV->T (SV×Hp AV)) (tab:mK):mK:=fun x=>match Nat.beq x f with
 | true=>some g
 | false=>tab x
theorem aK {f:FuncId} {g:List SV->Hp AV->T (SV×Hp AV)} {tab:mK} (hg:cD Tryz.prog (NV σ) f g) (ht:dB Tryz.prog (NV σ) tab):dB Tryz.prog (NV σ) (bA f g tab):=by
 intro x y h
 unfold bA at h
 split at h
 ·rename_i e
  have e:=(aC _ _).1 e
  subst e
  cases h
  exact hg
 ·exact ht x y h
def afm:mK:=bA 16 Uy ca
theorem Po:dB Tryz.prog (NV σ) afm:=aK alJ bn
def JX:T (SV×List AV×List AV)->Bool
 | .aE (.v (.c c),[],[])=>match kX c with | some _=>true | none=>false
 | .ite _ t e=>match JX t with | true=>JX e | false=>false
 | .aJ b t=>match b with | true=>JX t | false=>false
 | _=>false
def Pn (args:List SV) (l:List AV):T (SV×List AV×List AV) :=
 match args,l with
 | [],[]=>.aE (.v (.c (.bl true)),[],[])
 | _,_=>.fail "arguments"
end
section
open Go Go.Sx Go.Proofs
variable {σ:Sg}
abbrev cX (n:Int):Int:=IntKind.wrap .i64 (n+1)
def ao:W:=⟨0,0,0,0,false⟩
def dX (n:Int):W:=⟨0,0,0,n,false⟩
def kM (a b:W):Bool:=a.af==b.af&&(a.tag==b.tag&&(a.bS==b.bS&&a.mark==b.mark))
def ai.af (m:ai) (n:Int):Sl:=m.aS.getD (n - 1).toNat gq.bR
def ai.has (m:ai) (n:Int):Prop:=1<=n /\ n<=(m.aS.length:Int)
instance (m:ai) (n:Int):Decidable (m.has n):=inferInstanceAs (Decidable (_ /\ _))
def ai.xJ (m:ai) (s g f:Int):Prop:=if s=0 then g=0 /\ 0<=f /\ f < (m.dO.length:Int) else m.has s /\ 0<=f /\ f < 10
instance (m:ai) (s g f:Int):Decidable (m.xJ s g f):=by unfold ai.xJ;exact inferInstance
def ai.bG (m:ai) (a:oU):Prop:=if a.aj=1 \/ a.aj=2 \/ a.aj=3 then m.xJ a.s a.g a.f else if a.aj=4 then True else if a.aj=5 then m.has a.cU.af else False
instance (m:ai) (a:oU):Decidable (m.bG a):=by unfold ai.bG;exact inferInstance
def ai.kK (m:ai) (n g:Int) (wf:Nat):Option Nat:=if n=0 then none else if (m.af n).used=false then some wf else if (m.af n).gen=g then none else some 6
def ai.nY (m:ai) (a:oU):Option Nat:=if a.aj=4 then none else if a.aj=5 then m.kK a.cU.af a.cU.gen 4 else m.kK a.s a.g 5
def ai.read (m:ai) (s f:Int):W:=if s=0 then m.dO.getD f.toNat dS.bR else(m.af s).at f.toNat
def ai.fE (m:ai) (s f:Int) (w:W):ai:=if s=0 then {m with dO:=m.dO.set f.toNat w} else {m with aS:=m.aS.set (s - 1).toNat ((m.af s).Bq f.toNat w)}
def ai.alloc (m:ai) (zv:Int):cr×ai:=if m.free.length=0 then(⟨ao,false⟩,m) else
 let n:=(m.free.getD (m.free.length - 1) kt.bR).val
 let g:=cX (m.af n).gen
 (⟨⟨n,g,0,0,false⟩,true⟩,{m with aS:=m.aS.set (n - 1).toNat ⟨g,true,[ao,ao,ao,ao,ao,ao,ao,ao,ao,dX zv]⟩,free:=m.free.take (m.free.length - 1),made:=cX m.made})
def ai.aU (m:ai) (a:oU):cr×ai :=
 let m1:={m with steps:=cX m.steps}
 match m.nY a with
 | some e=>(⟨if a.aj=1 \/ a.aj=3 then dX (-1) else ao,false⟩,match m.fault with | none=>{m1 with fault:=some (m1.steps,e)} | some _=>m1)
 | none=>if a.aj=4 then m1.alloc a.new.bS
   else if a.aj=5 then(⟨ao,true⟩,{m1 with aS:=m1.aS.set (a.cU.af - 1).toNat {m1.af a.cU.af with used:=false},free:=m1.free++[⟨a.cU.af⟩]})
   else if a.aj=1 then(⟨m1.read a.s a.f,true⟩,m1)
   else if a.aj=2 then(⟨ao,true⟩,m1.fE a.s a.f a.new)
   else if kM (m1.read a.s a.f) a.cU then(⟨m1.read a.s a.f,true⟩,m1.fE a.s a.f a.new) else(⟨m1.read a.s a.f,false⟩,m1)
structure ai.Ok (m:ai):Prop where
 lb:m.dO.length<=5000
 ls:m.aS.length<=5000
 lf:m.free.length<=5000
 fr:∀x∈m.free,m.has x.val
def rpC (r:cr):V1:=.agg (r.w.bx++[.bt r.ok])
end
section
open Go Go.Sx Go.Proofs
variable {σ:Sg}
def bL:List Bool:=List.replicate 7 false
def FM:Gs->List Cell
 | .p c::r=>c::FM r
 | _=>[]
theorem qy:∀(l:List Cell),FM (l.map .p)=l
 | []=>rfl
 | c::r=>by show c::FM (r.map .p)=_;rw [qy r]
def Ap:List Cell->Bool
 | []=>true
 | c::r=>match c.name with | none=>Ap r | some _=>false
theorem uA:∀{l:List Cell},Ap l=true->∀c∈l,c.name=none
 | [],_,c,hc=>by cases hc
 | x::r,h,c,hc=>by
   simp only [Ap] at h
   split at h
   ·rename_i hx
    rcases abk.1 hc with rfl | hc
    ·exact hx
    ·exact uA h c hc
   ·cases h
def Ut:SV->Bool
 | .v x=>Ap x.cells
 | .lE=>true
 | _=>false
def jy:List SV->Bool
 | []=>true
 | x::r=>match Ut x with | true=>jy r | false=>false
theorem zR {x:SV} (h:Ut x=true) {H:Hp AV}:fh H x:=by
 cases x with
 | v x=>intro c hc n hn;rw [uA (l:=x.cells) h c hc] at hn;cases hn
 | lE=>trivial
 | ji l=>cases h
 | wJ f l=>cases h
theorem fI:∀{l:List SV},jy l=true->∀{H:Hp AV},∀x∈l,fh H x
 | [],_,H,x,hx=>by cases hx
 | y::r,h,H,x,hx=>by
   simp only [jy] at h
   split at h
   ·rename_i hy
    rcases abk.1 hx with rfl | hx
    ·exact zR hy
    ·exact fI h x hx
   ·cases h
structure l9 (A:Type) where
 bx:A->List SV
 iM:List SV->Option A
 ok:∀l a,iM l=some a->∀ρ:Nm,(bx a).map (SV.aq ρ)=l.map (SV.aq ρ)
 free:∀a,jy (bx a)=true
structure nL (B:Type) where
 bx:B->SV
 iM:SV->Option B
 ok:∀v b,iM v=some b->v=bx b
structure wL (α:Type) where
 V:α->AV
 X:AV->Option α
 ok:∀a j,X a=some j->a=V j
 FV:∀j,(V j).FV=true
def iQ:Gs->Gs
 | []=>[]
 | .p c::r=>.p (DQ c)::iQ r
 | x::r=>x::iQ r
theorem pH:∀gs:Gs,eF (iQ gs)=eF gs
 | []=>rfl
 | .p c::r=>pH r
 | .s a es::r=>by show a::eF (iQ r)=_;rw [pH r];rfl
 | .r a::r=>by show a::eF (iQ r)=_;rw [pH r];rfl
 | .i t a::r=>by show a::eF (iQ r)=_;rw [pH r];rfl
theorem pI (ρ:Nm):∀(gs:Gs) (k:Nat),aA ρ (gB AV.len k (iQ gs))=aA ρ (gB AV.len k gs)
 | [],k=>rfl
 | .p c::r,k=>by
   show (DQ c).aq ρ::aA ρ (gB AV.len k (iQ r))=_
   rw [yQ,pI ρ r k];rfl
 | .s a es::r,k=>by
   show _::aA ρ (gB AV.len (k+1) (iQ r))=_
   rw [pI ρ r (k+1)];rfl
 | .r a::r,k=>by
   show _::aA ρ (gB AV.len (k+1) (iQ r))=_
   rw [pI ρ r (k+1)];rfl
 | .i t a::r,k=>by
   show _::aA ρ (gB AV.len (k+1) (iQ r))=_
   rw [pI ρ r (k+1)];rfl
theorem yO {N:dV AV} {ty:TypeId} {gs:Gs} {l:Sx.l8} {S:Nat->Prop} {w:World} (h:nu N (fP AV.len ty (iQ gs)) l S w):nu N (fP AV.len ty gs) l S w:=by
 obtain⟨ρ,hl,⟨hq,hd⟩,hS⟩:=h
 have hp:=pH gs
 have get:∀i c,ae (fP AV.len ty gs) i=some c->∃c',ae (fP AV.len ty (iQ gs)) i=some c' /\ (c'.q N ρ i w->c.q N ρ i w) /\ ∀k,c.fp ρ i k↔c'.fp ρ i k:=fun i c hc=>by
  cases i with
  | zero =>
    simp only [fP,ae,aaC] at hc
    subst hc
    refine⟨_,rfl,fun h=>?_,fun k=>Iff.rfl⟩
    have h:w.heap[ρ 0]?=some (.cells (aA ρ (gB AV.len 1 (iQ gs))).toArray ty (0,0)):=h
    rw [pI] at h
    exact h
  | succ i =>
    refine⟨c,?_,id,fun k=>Iff.rfl⟩
    show ae (eN (eF (iQ gs))) i=some c
    rw [hp];exact hc
 have back:∀i c,ae (fP AV.len ty (iQ gs)) i=some c->∃c',ae (fP AV.len ty gs) i=some c' /\ ∀k,c.fp ρ i k↔c'.fp ρ i k:=fun i c hc=>by
  cases i with
  | zero =>
    simp only [fP,ae,aaC] at hc
    subst hc
    exact⟨_,rfl,fun k=>Iff.rfl⟩
  | succ i =>
    refine⟨c,?_,fun k=>Iff.rfl⟩
    show ae (eN (eF gs)) i=some c
    rw [<- hp];exact hc
 refine⟨ρ,hl,⟨fun i c hc=>?_,fun i j c d hij hc AR k hk dW=>?_⟩,fun k=>?_⟩
 ·obtain⟨c',h1,h2,_⟩:=get i c hc
  exact h2 (hq i c' h1)
 ·obtain⟨c',h1,_,h3⟩:=get i c hc
  obtain⟨d',g1,_,g3⟩:=get j d AR
  exact hd i j c' d' hij h1 g1 k ((h3 k).1 hk) ((g3 k).1 dW)
 ·rw [hS k]
  constructor
  ·rintro ⟨i,c,hc,hf⟩
   obtain⟨c',h1,h2⟩:=back i c hc
   exact⟨i,c',h1,(h2 k).1 hf⟩
  ·rintro ⟨i,c,hc,hf⟩
   obtain⟨c',h1,_,h3⟩:=get i c hc
   exact⟨i,c',h1,(h3 k).1 hf⟩
def gL (σ:Sg) (tab:mK) (f:FuncId) (M:List Bool) (args:List SV) (a:AV) (ty:TypeId) (gs:Gs) (l:List AV):T (SV×List AV×List AV) :=
 NM σ tab f M (.v (.c (.ptr 7 0))::args) (a::l) (fP AV.len ty gs)
theorem I3 {M:List Bool} {a:AV} {l:List AV} (hM:7=M.length):fh (gM M (a::l)) (.v (.c (.ptr 7 0))):=by
 intro c hc n hn
 have hc:c∈[Cell.ptr 7 0]:=hc
 rw [aez.1 hc] at hn
 cases hn
 refine⟨.bI a,?_⟩
 unfold gM
 rw [bo,gg,if_neg (by omega),hM,Nat.sub_self]
 rfl
theorem KO {tab:mK} (ht:dB Tryz.prog (NV σ) tab) {f:FuncId} {M:List Bool} (hM:7=M.length) {args:List SV} {a:AV} {ty:TypeId} {gs:Gs} {l:List AV} (ho:a.FV=true) (hl:o4 σ a=some (fP AV.len ty (iQ gs))) {v:SV} {l' nw:List AV}
 (bM:∀x∈args,fh (gM M (a::l)) x) (h:(gL σ tab f M args a ty gs l).val=some (v,l',nw)) :
 qT Tryz.prog (NV σ) f (.v (.c (.ptr 7 0))::args) (gM M (a::l)) v (gM M (l'++nw)) /\ l'.length=l.length+1 :=
 PF ht hM (a:=a) (K:=fP AV.len ty gs) ⟨_,rfl⟩ (fun L S w hq=>yO ((sW (N:=NV σ) rfl hl ho L S w).1 hq)) (fun x hx=>by
  rcases abk.1 hx with rfl | hx
  ·exact I3 hM
  ·exact bM x hx) h
def kV {β α:Type} (B:nL β) (O:wL α):SV×List AV×List AV->Option (β×α)
 | (v,[a],[])=>match B.iM v,O.X a with
   | some b,some j=>some (b,j)
   | _,_=>none
 | _=>none
def DU {α:Type}:Option Bool->T α->T α
 | none,t=>t
 | some b,t=>.aJ b t
def Zc:Option Bool->Bool
 | none=>true
 | some b=>b
theorem jQ {α:Type} {o:Option Bool} {t:T α} {r:α} (h:(DU o t).val=some r):Zc o=true /\ t.val=some r:=by
 cases o with
 | none=>exact⟨rfl,h⟩
 | some b=>exact aD h
def fZ {γ β α:Type} (A:l9 γ) (B:nL β) (O:wL α) (ok:α->γ->Option Bool) (next:α->γ->β×α) (args:List SV) (l:List AV):T (SV×List AV×List AV):=match args,l with
 | .v (.c (.ptr 7 0))::r,[a]=>match A.iM r,O.X a with
   | some x,some j=>DU (ok j x) (.aE (B.bx (next j x).1,[O.V (next j x).2],[]))
   | _,_=>.fail "method"
 | _,_=>.fail "method"
theorem dp {α β:Type} {t:T α} {d:α->β} {y:β} (h:(t.map d).val=some y):∃r,t.val=some r /\ d r=y:=by
 rw [T.fR] at h
 obtain⟨r,h1,h2⟩:=abu.1 h
 exact⟨r,h1,h2⟩
theorem A7 {β α:Type} {B:nL β} {O:wL α} {r:SV×List AV×List AV} {b:β} {j:α} (h:kV B O r=some (b,j)):r=(B.bx b,[O.V j],[]):=by
 unfold kV at h
 split at h
 ·split at h
  ·rename_i hb hj
   cases h
   rw [B.ok _ _ hb,O.ok _ _ hj]
  ·cases h
 ·cases h
def aid {γ β α:Type} (σ:Sg) (tab:mK) (f:FuncId) (M:List Bool) (A:l9 γ) (B:nL β) (O:wL α) (j:α) (x:γ) (r:β×α):Prop :=
 ∃ty gs,o4 σ (O.V j)=some (fP AV.len ty (iQ gs)) /\ ∃args,jy args=true /\ (∀ρ:Nm,args.map (SV.aq ρ)=(A.bx x).map (SV.aq ρ)) /\ ((gL σ tab f M args (O.V j) ty gs []).map (kV B O)).val=some (some r)
theorem G4 {tab:mK} (ht:dB Tryz.prog (NV σ) tab) {f:FuncId} {M:List Bool} (hM:7=M.length) {γ β α:Type} {A:l9 γ} {B:nL β} {O:wL α} {ok:α->γ->Option Bool} {next:α->γ->β×α} (j7:∀j x,Zc (ok j x)=true->aid σ tab f M A B O j x (next j x))
 {args:List SV} {l:List AV} {v:SV} {l' nw:List AV} (h:(fZ A B O ok next args l).val=some (v,l',nw)) (hl:l'.length=l.length) (bM:∀x∈args,fh (cS AV.gk 0 M++eN l) x):qT Tryz.prog (NV σ) f args (cS AV.gk 0 M++eN l) v (cS AV.gk 0 M++eN (l'++nw)):=by
 unfold fZ at h
 split at h
 ·rename_i r a
  split at h
  ·rename_i x j hx hj
   replace h:=jQ h
   obtain⟨oI,h⟩:=h
   cases h
   have ea:=O.ok _ _ hj
   subst ea
   obtain⟨ty,gs,e1,Fh,e2,e3,e4⟩:=j7 j x oI
   obtain⟨y,h1,h2⟩:=dp e4
   have h2:=A7 h2
   subst h2
   have hc:=KO ht hM (O.FV j) e1 (fI e2) h1
   exact jg hc.1 fun ρ=>by
    simp only [abv]
    rw [e3 ρ,A.ok _ _ hx ρ]
  ·cases h
 ·cases h
theorem mw {tab:mK} (ht:dB Tryz.prog (NV σ) tab) {f:FuncId} {M:List Bool} (hM:7=M.length) {γ β α:Type} {A:l9 γ} {B:nL β} {O:wL α} {ok:α->γ->Option Bool} {next:α->γ->β×α} (j7:∀j x,Zc (ok j x)=true->aid σ tab f M A B O j x (next j x)) :
 cD Tryz.prog (NV σ) f (bP cJ M (fZ A B O ok next)) :=
 gH dE hM fun args l v l' nw h hl bM=>G4 ht hM j7 h hl bM
def pZ {β:Type} (B:nL β):SV×List AV×List AV->Option β
 | (v,[],[])=>B.iM v
 | _=>none
def oo {γ β α:Type} (A:l9 γ) (B:nL β) (O:wL α) (ok:α->γ->Option Bool) (next:α->γ->β×α) (z:β) (args:List SV) (l:List AV):T (SV×List AV×List AV):=match args,l with
 | .v (.c .iK)::r,[]=>match A.iM r with
   | some x=>.aE (B.bx z,[],[])
   | none=>.fail "method"
 | _,_=>fZ A B O ok next args l
theorem pJ {tab:mK} (ht:dB Tryz.prog (NV σ) tab) {f:FuncId} {M:List Bool} (hM:7=M.length) {γ β α:Type} {A:l9 γ} {B:nL β} {O:wL α} {ok:α->γ->Option Bool} {next:α->γ->β×α} {z:β} (j7:∀j x,Zc (ok j x)=true->aid σ tab f M A B O j x (next j x))
 (hz:∀x,((kN σ tab f M (.v (.c .iK)::A.bx x) []).map (pZ B)).val=some (some z)):cD Tryz.prog (NV σ) f (bP cJ M (oo A B O ok next z)):=by
 refine gH dE hM fun args l v l' nw h hl bM=>?_
 unfold oo at h
 split at h
 ·split at h
  ·rename_i r x hx
   cases h
   obtain⟨⟨y0,y1,y2⟩,h1,h2⟩:=dp (hz x)
   unfold pZ at h2
   split at h2
   ·rename_i v0 he
    cases he
    rw [B.ok _ _ h2] at h1
    have hc:=vD ht hM (args:=.v (.c .iK)::A.bx x) (fun y hy=>by
     rcases abk.1 hy with rfl | hy
     ·exact zR rfl
     ·exact fI (A.free x) y hy) h1
    exact jg hc.1 fun ρ=>by
     simp only [abv]
     rw [A.ok _ _ hx ρ]
   ·cases h2
  ·cases h
 ·exact G4 ht hM j7 h hl bM
def SX {α:Type} (O:wL α):SV×List AV×List AV->Option α
 | (.v (.c (.ptr 7 0)),[],[a])=>O.X a
 | _=>none
theorem SW {α:Type} {O:wL α} {r:SV×List AV×List AV} {j:α} (h:SX O r=some j):r=(.v (.c (.ptr 7 0)),[],[O.V j]):=by
 unfold SX at h
 split at h
 ·rw [O.ok _ _ h]
 ·cases h
def Lf {γ α:Type} (A:l9 γ) (O:wL α) (ok:γ->Option Bool) (mk:γ->α) (args:List SV) (l:List AV):T (SV×List AV×List AV):=match l with
 | []=>match A.iM args with
   | some x=>DU (ok x) (.aE (.v (.c (.ptr 7 0)),[],[O.V (mk x)]))
   | none=>.fail "maker"
 | _=>.fail "maker"
theorem Jg {tab:mK} (ht:dB Tryz.prog (NV σ) tab) {f:FuncId} {M:List Bool} (hM:7=M.length) {γ α:Type} {A:l9 γ} {O:wL α} {ok:γ->Option Bool} {mk:γ->α}
 (j7:∀x,Zc (ok x)=true->∃args,jy args=true /\ (∀ρ:Nm,args.map (SV.aq ρ)=(A.bx x).map (SV.aq ρ)) /\ ((kN σ tab f M args []).map (SX O)).val=some (some (mk x))):cD Tryz.prog (NV σ) f (bP cJ M (Lf A O ok mk)):=by
 refine gH dE hM fun args l v l' nw h hl bM=>?_
 unfold Lf at h
 split at h
 ·split at h
  ·rename_i x hx
   replace h:=jQ h
   obtain⟨oI,h⟩:=h
   cases h
   obtain⟨Fh,e2,e3,e4⟩:=j7 x oI
   obtain⟨y,h1,h2⟩:=dp e4
   have h2:=SW h2
   subst h2
   have hc:=vD ht hM (fI e2) h1
   exact jg hc.1 fun ρ=>by rw [e3 ρ,A.ok _ _ hx ρ]
  ·cases h
 ·cases h
def zd {γ β:Type} (A:l9 γ) (B:nL β) (ok:γ->Option Bool) (fn:γ->β) (args:List SV) (l:List AV):T (SV×List AV×List AV):=match l with
 | []=>match A.iM args with
   | some x=>DU (ok x) (.aE (B.bx (fn x),[],[]))
   | none=>.fail "function"
 | _=>.fail "function"
theorem vQ {tab:mK} (ht:dB Tryz.prog (NV σ) tab) {f:FuncId} {M:List Bool} (hM:7=M.length) {γ β:Type} {A:l9 γ} {B:nL β} {ok:γ->Option Bool} {fn:γ->β}
 (j7:∀x,Zc (ok x)=true->∃args,jy args=true /\ (∀ρ:Nm,args.map (SV.aq ρ)=(A.bx x).map (SV.aq ρ)) /\ ((kN σ tab f M args []).map (pZ B)).val=some (some (fn x))):cD Tryz.prog (NV σ) f (bP cJ M (zd A B ok fn)):=by
 refine gH dE hM fun args l v l' nw h hl bM=>?_
 unfold zd at h
 split at h
 ·split at h
  ·rename_i x hx
   replace h:=jQ h
   obtain⟨oI,h⟩:=h
   cases h
   obtain⟨Fh,e2,e3,e4⟩:=j7 x oI
   obtain⟨⟨y0,y1,y2⟩,h1,h2⟩:=dp e4
   unfold pZ at h2
   split at h2
   ·rename_i v0 he
    cases he
    rw [B.ok _ _ h2] at h1
    have hc:=vD ht hM (fI e2) h1
    exact jg hc.1 fun ρ=>by rw [e3 ρ,A.ok _ _ hx ρ]
   ·cases h2
  ·cases h
 ·cases h
def tI {α:Type} (b:Bool) (t e:T α):T α:=.ite b t e
def tL {α:Type} (a:α):T (Option α):=.aJ true (.aE (some a))
theorem vI {α:Type} {b:Bool} {t e:T (Option α)} {x y:α} (h1:t.val=some (some x)) (h2:e.val=some (some y)):(tI b t e).val=some (some (cond b x y)):=by cases b<;>assumption
theorem vL {α:Type} {a:α}:(tL a).val=some (some (id a)):=rfl
def PH (x:cr):List Cell:=x.w.bx++[.bt x.ok]
def mW:l9 cr where
 bx x:=[.v (.agg (PH x))]
 iM:=fun | [.v (.agg [c0,c1,c2,c3,c4,c5])]=>(match W.iM [c0,c1,c2,c3,c4],YN c5 with | some w,some b=>some ⟨w,b⟩ | _,_=>none) | _=>none
 ok:=fun l a h ρ=>by
  split at h
  ·split at h
   ·rename_i w b hw hb
    cases h
    have e:=W.gy _ _ hw
    have e2:=mI hb
    have d:aA ρ w.bx=aA ρ _:=(lK fun c hc=>(by simp [W.bx] at hc;rcases hc with rfl | rfl | rfl | rfl | rfl<;>rfl)).trans (e.1.trans (lK e.2).symm)
    have d2:Cell.aq ρ (.bt b)=Cell.aq ρ _:=(e2.1.symm.trans (b4 _ fun m hm=>by rw [e2.2] at hm;cases hm))
    simp only [PH,abv,aeU,SV.aq,V1.aq,aA,aen] at d d2 ⊢
    rw [d,d2];rfl
   ·cases h
  ·cases h
 free:=fun _=>rfl
def Cq:nL Cl where
 bx c:=.v (.agg (FM (Cl.wr c)))
 iM:=fun | .v (.agg cs)=>(match Cl.rd (cs.map .p) with | some (c,[])=>some c | _=>none) | _=>none
 ok:=fun v b h=>by
  split at h
  ·split at h
   ·rename_i hc
    cases h
    have:=Cl.gK hc
    rw [aeJ] at this
    rw [<- this,qy]
   ·cases h
  ·cases h
@[reducible] def GS:wL dr:=⟨GJ,GI,fun _ _=>Cz,fun _=>rfl⟩
@[reducible] def GU:wL cY:=⟨H6,H5,fun _ _=>CK,fun _=>rfl⟩
@[reducible] def sX:wL bm:=⟨CS,Kh,fun _ _=>Iw,fun _=>rfl⟩
@[reducible] def DL:wL cM:=⟨Ob,Sf,fun _ _=>Jn,fun _=>rfl⟩
@[reducible] def mq:wL aN:=⟨qR,EZ,fun _ _=>EY,fun _=>rfl⟩
@[reducible] def DK:wL cd:=⟨Df,Ry,fun _ _=>IL,fun _=>rfl⟩
@[reducible] def gW:wL au:=⟨gV,GD,fun _ _=>Cv,fun _=>rfl⟩
end
section
open Go Go.Sx Go.Proofs
variable {σ:Sg}
def dv (w:W):W:=⟨w.af,w.gen,0,0,false⟩
def iC (w r:W):W:=⟨r.af,r.gen,cX w.tag,0,false⟩
def nM (w:W):W:=⟨w.af,w.gen,cX w.tag,w.bS,true⟩
def fx (w:W) (n:Int):W:=⟨0,0,cX w.tag,IntKind.wrap .i64 (w.bS+n),false⟩
def ay (w:W) (n:Int):Ad:=⟨w.af,w.gen,n⟩
def aV (n:Int):Ad:=⟨0,0,n⟩
def gX:Ad:=⟨0,0,0⟩
def aW:Cl:=⟨0,gX,ao,ao,0,0,⟨0,0⟩⟩
def br (a:Ad):Cl:=⟨3,a,ao,ao,0,0,⟨0,0⟩⟩
def cO (a:Ad) (w:W):Cl:=⟨4,a,ao,w,0,0,⟨0,0⟩⟩
def b5 (a:Ad) (o n:W):Cl:=⟨5,a,o,n,0,0,⟨0,0⟩⟩
def bF (a:Ad) (i:Int):Cl:=⟨6,a,ao,ao,i,0,⟨0,0⟩⟩
def oL (i j:Int):Cl:=⟨7,gX,ao,ao,i,j,⟨0,0⟩⟩
def j9:Cl:=⟨8,gX,ao,ao,0,0,⟨0,0⟩⟩
def p7 (w:W):Cl:=⟨9,gX,w,ao,0,0,⟨0,0⟩⟩
def jT (w:W):Cl:=⟨10,gX,w,ao,0,0,⟨0,0⟩⟩
def jx (Cd val:Int):Cl:=⟨12,gX,ao,ao,0,0,⟨Cd,val⟩⟩
def GK {β:Type} (I:Bool->β->β->β) (L:Cl×dr->β) (j:dr) (x:cr):β :=
 let ask (n:Int) (c:Cl) (j:dr):β:=L (c,{j with pc:=n})
 let done (j:dr) (c v:Int):β:=L (jx c v,{j with pc:=-1,last:=jx c v})
 I (j.op.aj==1)
   (I (j.pc==0) (ask 1 j9 j)
   (I (j.pc==1) (I (!x.ok) (done j 4 0) (ask 2 (cO (ay x.w 1) (dX j.op.val)) {j with node:=x.w}))
   (I (j.pc==5) (I x.ok (done j 1 0) (ask 3 (br (aV 0)) j))
   (I (j.pc==2) (ask 3 (br (aV 0)) j)
   (I (j.pc==3) (ask 4 (cO (ay j.node 2) (dv x.w)) {j with top:=x.w})
   (I (j.pc==4) (ask 5 (b5 (aV 0) j.top (iC j.top j.node)) j)
   (L (j.last,j))))))))
   (I (j.pc==3) (I x.ok (ask 4 (br (ay j.top 1)) j) (ask 1 (bF (aV 0) 0) j))
   (I (j.pc==0) (ask 1 (bF (aV 0) 0) j)
   (I (j.pc==1) (I (x.w.af==0) (done {j with top:=x.w} 2 0) (I (j.op.aj==3) (ask 4 (br (ay x.w 1)) {j with top:=x.w}) (ask 2 (br (ay x.w 2)) {j with top:=x.w})))
   (I (j.pc==2) (ask 3 (b5 (aV 0) j.top (iC j.top x.w)) j)
   (I (j.pc==4) (I (j.op.aj==3) (done {j with val:=x.w.bS} 1 x.w.bS) (ask 5 (jT j.top) {j with val:=x.w.bS}))
   (I (j.pc==5) (done j 1 j.val)
   (L (j.last,j))))))))
def oe (j:dr) (x:cr):Cl×dr:=GK cond id j x
theorem akU (σ:Sg) (j:dr) (x:cr):(gL σ ca 133 bL (mW.bx x) (GJ j) Ky (dr.wr j) []).map (kV Cq GS)=GK tI tL j x:=by kernel_rfl
theorem aaA:cD Tryz.prog (NV σ) 133 (bP cJ bL (fZ mW Cq GS (fun _ _=>none) oe)) :=
 mw bn rfl fun j x _=>⟨Ky,dr.wr j,rfl,mW.bx x,rfl,fun _=>rfl,by
  rw [akU];unfold GK oe GK;dsimp only
  repeat' first | apply vI | exact vL⟩
def EV {β:Type} (I:Bool->β->β->β) (L:Cl×cY->β) (j:cY) (x:cr):β :=
 let two (p q:Bool) (t e:β):β:=I p (I p t e) (I q t e)
 let ask (n:Int) (c:Cl) (j:cY):β:=L (c,{j with pc:=n})
 let done (j:cY) (c v:Int):β:=L (jx c v,{j with pc:=-1,last:=jx c v})
 I (j.op.aj==4)
   (I (j.pc==0) (ask 1 j9 j)
   (I (j.pc==1) (I (!x.ok) (done j 4 0) (ask 2 (cO (ay x.w 1) (dX j.op.val)) {j with node:=x.w}))
   (I (j.pc==3) (ask 4 (br (ay x.w 2)) {j with t:=x.w})
   (I (j.pc==4) (ask 5 (br (aV 1)) {j with n:=x.w})
   (I (j.pc==5) (I (!kM x.w j.t) (ask 3 (bF (aV 1) 0) j) (I (!(j.n.af==0)) (ask 6 (b5 (aV 1) j.t (iC j.t j.n)) j) (ask 7 (b5 (ay j.t 2) j.n (iC j.n j.node)) j)))
   (I (j.pc==7) (I x.ok (ask 8 (b5 (aV 1) j.t (iC j.t j.node)) j) (ask 3 (bF (aV 1) 0) j))
   (two (j.pc==2) (j.pc==6) (ask 3 (bF (aV 1) 0) j)
   (I (j.pc==8) (done j 1 0)
   (L (j.last,j))))))))))
   (I (j.pc==1) (ask 2 (br (aV 1)) {j with h:=x.w})
   (I (j.pc==2) (ask 3 (bF (ay j.h 2) 1) {j with t:=x.w})
   (I (j.pc==3) (ask 4 (br (aV 0)) {j with n:=x.w})
   (I (j.pc==4) (I (!kM x.w j.h) (ask 1 (bF (aV 0) 0) j) (I (j.n.af==0) (done j 2 0) (I (j.h.af==j.t.af) (ask 5 (b5 (aV 1) j.t (iC j.t j.n)) j) (ask 6 (br (ay j.n 1)) j))))
   (I (j.pc==6) (ask 7 (b5 (aV 0) j.h (iC j.h j.n)) {j with val:=x.w.bS})
   (I (j.pc==7) (I x.ok (ask 8 (jT j.h) j) (ask 1 (bF (aV 0) 0) j))
   (two (j.pc==0) (j.pc==5) (ask 1 (bF (aV 0) 0) j)
   (I (j.pc==8) (done j 1 j.val)
   (L (j.last,j))))))))))
def mF (j:cY) (x:cr):Cl×cY:=EV cond id j x
theorem anw (σ:Sg) (j:cY) (x:cr):(gL σ ca 143 bL (mW.bx x) (H6 j) KA (cY.wr j) []).map (kV Cq GU)=EV tI tL j x:=by kernel_rfl
theorem acd:cD Tryz.prog (NV σ) 143 (bP cJ bL (fZ mW Cq GU (fun _ _=>none) mF)) :=
 mw bn rfl fun j x _=>⟨KA,cY.wr j,rfl,mW.bx x,rfl,fun _=>rfl,by
  rw [anw];unfold EV mF EV;dsimp only
  repeat' first | apply vI | exact vL⟩
end
section
open Go Go.Sx Go.Proofs
variable {σ:Sg}
def FN:nL (Cl×Bool) where
 bx c:=.ji [.agg (FM (Cl.wr c.1)),.c (.bt c.2)]
 iM:=fun | .ji [.agg cs,.c (.bt b)]=>(match Cl.rd (cs.map .p) with | some (c,[])=>some (c,b) | _=>none) | _=>none
 ok:=fun v b h=>by
  split at h
  ·split at h
   ·rename_i hc
    cases h
    have:=Cl.gK hc
    rw [aeJ] at this
    rw [<- this,qy]
   ·cases h
  ·cases h
def Bm {β:Type} (I:Bool->β->β->β) (L:(Cl×Bool)×bm->β) (w:bm) (x:cr):β :=
 let ask (n:Int) (c:Cl) (w:bm):β:=L ((c,true),{w with pc:=n})
 let finish (f:Bool) (w:bm):β:=L ((aW,false),{w with pc:=-1,found:=f})
 let again (w:bm):β:=ask 1 (bF w.start 1) {w with prev:=w.start}
 let behind (w:bm):β:=ask 2 (bF (ay w.cur 2) 0) w
 let on (w:bm):β:=I (w.cur.af==0) (finish false w) (ask 8 (oL 1 0) w)
 I (w.pc==1) (I x.w.mark (again w) (I (x.w.af==0) (finish false {w with cur:=x.w}) (behind {w with cur:=x.w})))
 (I (w.pc==2) (ask 3 (br (ay w.cur 0)) {w with next:=x.w})
 (I (w.pc==3) (ask 4 (br w.prev) {w with k:=x.w.bS})
 (I (w.pc==4) (I (!kM x.w w.cur) (again w) (I w.next.mark (ask 5 (b5 w.prev w.cur (iC w.cur w.next)) w) (I (decide (w.k>=w.key)) (finish (w.k==w.key) w) (ask 7 (oL 2 1) {w with prev:=ay w.cur 2}))))
 (I (w.pc==5) (I x.ok (ask 6 (jT w.cur) w) (again w))
 (I (w.pc==0) (again w)
 (I (w.pc==6) (on {w with cur:=iC w.cur w.next})
 (I (w.pc==7) (on {w with cur:=w.next})
 (I (w.pc==8) (behind w)
 (L ((aW,false),w))))))))))
def aY (w:bm) (x:cr):(Cl×Bool)×bm:=Bm cond id w x
theorem ai1 (σ:Sg) (w:bm) (x:cr):(gL σ ca 160 bL (mW.bx x) (CS w) yp (bm.wr w) []).map (kV FN sX)=Bm tI tL w x:=by kernel_rfl
theorem aeY (σ:Sg) (x:cr):(kN σ ca 160 bL (.v (.c .iK)::mW.bx x) []).map (pZ FN)=.aE (some (aW,false)):=by kernel_rfl
theorem Zx:cD Tryz.prog (NV σ) 160 (bP cJ bL (oo mW FN sX (fun _ _=>none) aY (aW,false))) :=
 pJ bn rfl (fun j x _=>⟨yp,bm.wr j,rfl,mW.bx x,rfl,fun _=>rfl,by
  rw [ai1];unfold Bm aY Bm;dsimp only
  repeat' first | apply vI | exact vL⟩) fun x=>congrArg T.val (aeY σ x)
def acL:l9 (Ad×Int) where
 bx x:=[.v (.agg [.it .i64 x.1.s,.it .i64 x.1.g,.it .i64 x.1.f]),.v (.c (.it .i64 x.2))]
 iM:=fun | [.v (.agg [c0,c1,c2]),.v (.c c3)]=>(match j6 c0,j6 c1,j6 c2,j6 c3 with | some a,some b,some c,some n=>some (⟨a,b,c⟩,n) | _,_,_,_=>none) | _=>none
 ok:=fun l a h ρ=>by
  split at h
  ·split at h
   ·rename_i h0 h1 h2 h3
    cases h
    simp only [abv,aeU,SV.aq,V1.aq,aA,cB h0 ρ,cB h1 ρ,cB h2 ρ,cB h3 ρ]
    rfl
   ·cases h
  ·cases h
 free:=fun _=>rfl
def gZ (x:Ad×Int):bm:=⟨0,aW,x.1,x.2,x.1,ao,ao,0,false⟩
theorem Wl (σ:Sg) (x:Ad×Int):(kN σ ca 164 bL (acL.bx x) []).map (SX sX)=tL (gZ x):=by kernel_rfl
theorem N5:cD Tryz.prog (NV σ) 164 (bP cJ bL (Lf acL sX (fun _=>none) gZ)) :=
 Jg bn rfl fun x _=>⟨acL.bx x,rfl,fun _=>rfl,by rw [Wl];rfl⟩
def Ir:l9 Unit:=⟨fun _=>[],fun | []=>some () | _=>none,fun l a h ρ=>by split at h<;>cases h;rfl,fun _=>rfl⟩
def Pj:nL Bool where
 bx b:=.v (.c (.bt b))
 iM:=fun | .v (.c (.bt b))=>some b | _=>none
 ok:=fun v b h=>by split at h<;>cases h;rfl
def IC:nL (Ad×W×W) where
 bx x:=.ji [.agg [.it .i64 x.1.s,.it .i64 x.1.g,.it .i64 x.1.f],.agg x.2.1.bx,.agg x.2.2.bx]
 iM:=fun | .ji [.agg [.it .i64 a,.it .i64 b,.it .i64 c],.agg [.it .i64 d,.it .i64 e,.it .i64 f,.it .i64 g,.bt h],.agg [.it .i64 i,.it .i64 k,.it .i64 l,.it .i64 m,.bt n]]=>some (⟨a,b,c⟩,⟨d,e,f,g,h⟩,⟨i,k,l,m,n⟩) | _=>none
 ok:=fun v b h=>by split at h<;>cases h;rfl
theorem ahE (σ:Sg) (w:bm):(gL σ ca 161 bL [] (CS w) yp (bm.wr w) []).map (kV Pj sX)=tL (w.found,w):=by kernel_rfl
theorem afW (σ:Sg) (w:bm):(gL σ ca 162 bL [] (CS w) yp (bm.wr w) []).map (kV IC sX)=tL ((w.prev,w.cur,w.next),w):=by kernel_rfl
theorem abM (σ:Sg):(kN σ ca 161 bL [.v (.c .iK)] []).map (pZ Pj)=.aE (some false):=by kernel_rfl
theorem XP:cD Tryz.prog (NV σ) 161 (bP cJ bL (oo Ir Pj sX (fun _ _=>none) (fun w _=>(w.found,w)) false)) :=
 pJ bn rfl (fun j x _=>⟨yp,bm.wr j,rfl,[],rfl,fun _=>rfl,by rw [ahE];rfl⟩) fun x=>congrArg T.val (abM σ)
theorem aax (σ:Sg):(kN σ ca 162 bL [.v (.c .iK)] []).map (pZ IC)=.aE (some (gX,ao,ao)):=by kernel_rfl
theorem VM:cD Tryz.prog (NV σ) 162 (bP cJ bL (oo Ir IC sX (fun _ _=>none) (fun w _=>((w.prev,w.cur,w.next),w)) (gX,ao,ao))) :=
 pJ bn rfl (fun j x _=>⟨yp,bm.wr j,rfl,[],rfl,fun _=>rfl,by rw [afW];rfl⟩) fun x=>congrArg T.val (aax σ)
def Ks:mK:=bA 160 (bP cJ bL (oo mW FN sX (fun _ _=>none) aY (aW,false))) (bA 164 (bP cJ bL (Lf acL sX (fun _=>none) gZ))
 (bA 161 (bP cJ bL (oo Ir Pj sX (fun _ _=>none) (fun w _=>(w.found,w)) false)) (bA 162 (bP cJ bL (oo Ir IC sX (fun _ _=>none) (fun w _=>((w.prev,w.cur,w.next),w)) (gX,ao,ao))) ca)))
theorem Kr:dB Tryz.prog (NV σ) Ks:=aK Zx (aK N5 (aK XP (aK VM bn)))
def Lv {β:Type} (I:Bool->β->β->β) (L:Cl×cM->β) (j:cM) (x:cr):β :=
 let ask (n:Int) (c:Cl) (j:cM):β:=L (c,{j with pc:=n})
 let done (j:cM) (c v:Int):β:=L (jx c v,{j with pc:=-1,last:=jx c v})
 let tv (j:cM) (n:Int):cM:={j with walk:=some (gZ (j.start,j.key)),pc:=n}
 let found (j:cM) (t e:β):β:=match j.walk with | none=>I false t e | some w=>I w.found t e
 let ap7 (j:cM) (t e:β):β:=match j.walk with | none=>I (!false) t e | some w=>I (!w.found) t e
 let prev (j:cM):Ad:=match j.walk with | none=>gX | some w=>w.prev
 let cur (j:cM):W:=match j.walk with | none=>ao | some w=>w.cur
 let next (j:cM):W:=match j.walk with | none=>ao | some w=>w.next
 let step (j:cM) (k:cM->β):β:=match j.walk with
  | none=>I false (L (aW,j)) (k j)
  | some w=>I (aY w x).1.2 (L ((aY w x).1.1,{j with walk:=some (aY w x).2})) (k {j with walk:=some (aY w x).2})
 let agK (j:cM):β:=step j fun j=>found j (ask 5 (p7 j.node) j) (ask 6 (cO (ay j.node 2) (dv (cur j))) j)
 let KT (j:cM):β:=step j fun j=>ap7 j (done j 2 0) (ask 2 (br (ay (cur j) 1)) j)
 I (j.op.aj==6)
   (I (j.pc==0) (ask 1 j9 j)
   (I (j.pc==1) (I (!x.ok) (done j 4 0) (ask 2 (cO (ay x.w 0) (dX j.key)) {j with node:=x.w}))
   (I (j.pc==2) (ask 3 (cO (ay j.node 1) (dX j.op.val)) j)
   (I (j.pc==7) (I x.ok (done j 1 0) (agK (tv j 4)))
   (I (j.pc==3) (agK (tv j 4))
   (I (j.pc==4) (agK j)
   (I (j.pc==5) (done j 3 0)
   (I (j.pc==6) (ask 7 (b5 (prev j) (cur j) (iC (cur j) j.node)) j)
   (L (j.last,j))))))))))
 (I (j.op.aj==7)
   (I (j.pc==3) (I x.ok (ask 4 (b5 (prev j) (cur j) (iC (cur j) (next j))) j) (KT (tv j 1)))
   (I (j.pc==0) (KT (tv j 1))
   (I (j.pc==1) (KT j)
   (I (j.pc==2) (ask 3 (b5 (ay (cur j) 2) (next j) (nM (next j))) {j with val:=x.w.bS})
   (I (j.pc==4) (I x.ok (ask 5 (jT (cur j)) j) (step (tv j 6) fun j=>done j 1 j.val))
   (I (j.pc==6) (step j fun j=>done j 1 j.val)
   (I (j.pc==5) (done j 1 j.val)
   (L (j.last,j)))))))))
   (I (j.pc==0) (KT (tv j 1))
   (I (j.pc==1) (KT j)
   (I (j.pc==2) (done j 1 x.w.bS)
   (L (j.last,j))))))
def b6 (j:cM) (x:cr):Cl×cM:=Lv cond id j x
theorem alx (σ:Sg) (pc:Int) (la:Cl) (st:Ad) (key:Int) (op:O) (nd:W) (v:Int) (x:cr):(gL σ Ks 152 bL (mW.bx x) (Ob ⟨pc,la,st,key,op,none,nd,v⟩) Nj (cM.wr ⟨pc,la,st,key,op,none,nd,v⟩) []).map (kV Cq DL)=Lv tI tL ⟨pc,la,st,key,op,none,nd,v⟩ x:=by kernel_rfl
theorem alw (σ:Sg) (pc:Int) (la:Cl) (st:Ad) (key:Int) (op:O) (w:bm) (nd:W) (v:Int) (x:cr):(gL σ Ks 152 bL (mW.bx x) (Ob ⟨pc,la,st,key,op,some w,nd,v⟩) Nj (cM.wr ⟨pc,la,st,key,op,some w,nd,v⟩) []).map (kV Cq DL)=Lv tI tL ⟨pc,la,st,key,op,some w,nd,v⟩ x:=by kernel_rfl
theorem alv (σ:Sg) (x:cr):(kN σ Ks 152 bL (.v (.c .iK)::mW.bx x) []).map (pZ Cq)=.aE (some aW):=by kernel_rfl
theorem WG:cD Tryz.prog (NV σ) 152 (bP cJ bL (oo mW Cq DL (fun _ _=>none) b6 aW)) :=
 pJ Kr rfl (fun j x _=>by
  obtain⟨pc,la,st,key,op,w,nd,v⟩:=j
  cases w with
  | none=>exact⟨Nj,cM.wr ⟨pc,la,st,key,op,none,nd,v⟩,rfl,mW.bx x,rfl,fun _=>rfl,by
     rw [alx];unfold Lv b6 Lv;dsimp only
     repeat' first | apply vI | exact vL⟩
  | some w=>exact⟨Nj,cM.wr ⟨pc,la,st,key,op,some w,nd,v⟩,rfl,mW.bx x,rfl,fun _=>rfl,by
     rw [alw];unfold Lv b6 Lv;dsimp only
     repeat' first | apply vI | exact vL⟩) fun x=>congrArg T.val (alv σ x)
