import Derived.Test.YtadmfaohjnjajaaGreatDoorOa
import Derived.Test.YtadmfaohjnjajaaGreatDoorMd
set_option linter.unusedVariables false
set_option linter.unusedSimpArgs false
set_option maxHeartbeats 0
set_option maxRecDepth 100000
noncomputable section
namespace Go.Proofs.YtadmfaohjnjajaaGreatDoor
section
open Go Go.Sx Go.Proofs
def rdA {α:Type} (K:AK α) (ex:AV->Option (List α)) (mk:List α->AV):Rd AV:=fun H c=>match Jq K ex H c with
 | some (l,len,nm)=>some (mk l,len,nm)
 | none=>none
theorem JW {σ:Sg} {N:eI AV} (hF:N.F=F6 σ) {α:Type} {K:AK α} {ex:AV->Option (List α)} {mk:List α->AV} (hex:∀a l,ex a=some l->a=mk l) (hd:∀l,(mk l).xa=0) (hq:∀l lc S w,AV.q σ (mk l) lc S w↔K.q l lc S w) (hl:∀l,(mk l).len=l.length):U7 N (rdA K ex mk) K.es:=by
 intro H c a len nm h hlen ρ w hO;unfold rdA at h;split at h
 ·rename_i l' aim nm' ha;cases h;have el:N.F.len (mk l')=l'.length:=by rw [hF];exact hl l'
  rw [el] at hlen ⊢;obtain⟨lc,S,h1,h2,h3⟩:=Aj (N:=N) (fun a l he lc S w hqa=>by rw [hex a l he] at hqa;exact(hq l lc S w).1 ((u0 hF (hd l) lc S w).1 hqa)) ha hlen hO;exact⟨lc,S,h1,(u0 hF (hd l') lc S w).2 ((hq l' lc S w).2 h2),h3⟩
 ·cases h
def exN:AV->Option (List Nt) | .notes l=>some l | _=>none
def exP:AV->Option (List Pr) | .aX l=>some l | _=>none
abbrev KS:=List (Option (Rd AV×Nat))
def Bb:Nat->KS->KS
 | 0,r=>r
 | n+1,r=>none::Bb n r
def abG:Option (Rd AV×Nat):=some (rdA fg exW .fD,fg.es)
def Rb:Option (Rd AV×Nat):=some (rdA bx exN .notes,bx.es)
def aht:Option (Rd AV×Nat):=some (rdA gx exI .ie,gx.es)
def abH:Option (Rd AV×Nat):=some (rdA cq exP .aX,cq.es)
def YB (ty:TypeId):Option (Nat×KS) :=
 match Nat.beq ty fQ with
 | true=>some (1,Bb 44 ((abG::(Rb::Bb 52 ((Rb::Bb 7 []))))))
 | false=>match Nat.beq ty LG with
 | true=>some (1,Bb 34 [])
 | false=>match Nat.beq ty LJ with
 | true=>some (1,Bb 44 [])
 | false=>match Nat.beq ty y5 with
 | true=>some (1,Bb 38 [])
 | false=>match Nat.beq ty OR with
 | true=>some (2,Bb 34 [])
 | false=>match Nat.beq ty mH with
 | true=>some (1,Bb 64 [])
 | false=>match Nat.beq ty uM with
 | true=>some (2,Bb 32 [])
 | false=>match Nat.beq ty LC with
 | true=>some (3,Bb 51 [])
 | false=>match Nat.beq ty qJ with
 | true=>some (4,Bb 29 [])
 | false=>match Nat.beq ty AE with
 | true=>some (1,none::aht::abH::[])
 | false=>none
theorem Rn {σ:Sg} {a:AV} {d:Nat} {ty:TypeId} {gs:Gs} (h:a.ob=some (d,ty,gs)):o9 σ a=some (gk AV.len ty gs) /\ a.K3=true:=by
 cases a<;>first | (cases h;done) | skip
 all_goals (cases h;exact⟨rfl,rfl⟩)
def aeL (σ:Sg) (H:Hp AV) (n:Nat) (l:List Cell) (ty:TypeId):T (AV×List Nat):=match YB ty with
 | some (d,ks)=>match ru (F6 σ) H ks l with
   | some (gs,b,ns)=>match EP (n::je ns) with
     | true=>match mkO ty gs with
       | some a=>.aE b (.aD (a,je ns))
       | none=>match AV.K3 (.Pt d ty gs) with
         | true=>.aE b (.aD (.Pt d ty gs,je ns))
         | false=>.fail "object: depths"
     | false=>.fail "object: names"
   | none=>.fail "object: fields"
 | none=>.fail "object: type"
def DM (σ:Sg) (H:Hp AV) (n:Nat):T (AV×List Nat):=match af H n with
 | some (.cells l ty)=>match Nat.beq ty LF with
   | true=>VA σ H n
   | false=>aeL σ H n l ty
 | _=>.fail "object"
theorem lY {N:eI AV}:∀n {r:KS},MZ N r->MZ N (Bb n r)
 | 0,r,h=>h
 | n+1,r,h=>lY n h
theorem amW {σ:Sg} {N:eI AV} (hF:N.F=F6 σ):U7 N (rdA fg exW .fD) fg.es:=JW hF (fun a l h=>by cases a<;>first | (cases h;done) | (cases h;rfl)) (fun _=>rfl) (fun _ _ _ _=>Iff.rfl) (fun _=>rfl)
theorem aft {σ:Sg} {N:eI AV} (hF:N.F=F6 σ):U7 N (rdA bx exN .notes) bx.es:=JW hF (fun a l h=>by cases a<;>first | (cases h;done) | (cases h;rfl)) (fun _=>rfl) (fun _ _ _ _=>Iff.rfl) (fun _=>rfl)
theorem amY {σ:Sg} {N:eI AV} (hF:N.F=F6 σ):U7 N (rdA gx exI .ie) gx.es:=JW hF (fun a l h=>by cases a<;>first | (cases h;done) | (cases h;rfl)) (fun _=>rfl) (fun _ _ _ _=>Iff.rfl) (fun _=>rfl)
theorem amX {σ:Sg} {N:eI AV} (hF:N.F=F6 σ):U7 N (rdA cq exP .aX) cq.es:=JW hF (fun a l h=>by cases a<;>first | (cases h;done) | (cases h;rfl)) (fun _=>rfl) (fun _ _ _ _=>Iff.rfl) (fun _=>rfl)
theorem M7 {σ:Sg} {N:eI AV} (hF:N.F=F6 σ) {ty:TypeId} {d:Nat} {ks:KS} (h:YB ty=some (d,ks)):MZ N ks:=by
 unfold YB at h;split at h
 ·simp only [aaf,aaB] at h;obtain⟨_,rfl⟩:=h;exact lY 44 ⟨amW hF,aft hF,lY 52 ⟨aft hF,lY 7 trivial⟩⟩
 ·split at h
  ·simp only [aaf,aaB] at h;obtain⟨_,rfl⟩:=h;exact lY 34 trivial
  ·split at h
   ·simp only [aaf,aaB] at h;obtain⟨_,rfl⟩:=h;exact lY 44 trivial
   ·split at h
    ·simp only [aaf,aaB] at h;obtain⟨_,rfl⟩:=h;exact lY 38 trivial
    ·split at h
     ·simp only [aaf,aaB] at h;obtain⟨_,rfl⟩:=h;exact lY 34 trivial
     ·split at h
      ·simp only [aaf,aaB] at h;obtain⟨_,rfl⟩:=h;exact lY 64 trivial
      ·split at h
       ·simp only [aaf,aaB] at h;obtain⟨_,rfl⟩:=h;exact lY 32 trivial
       ·split at h
        ·simp only [aaf,aaB] at h;obtain⟨_,rfl⟩:=h;exact lY 51 trivial
        ·split at h
         ·simp only [aaf,aaB] at h;obtain⟨_,rfl⟩:=h;exact lY 29 trivial
         ·split at h
          ·simp only [aaf,aaB] at h;obtain⟨_,rfl⟩:=h;exact⟨amY hF,amX hF,trivial⟩
          ·cases h
theorem uJ {σ:Sg} {N:eI AV} (hF:N.F=F6 σ):GG N (DM σ):=by
 intro H n a ns h ρ w hO;unfold DM at h;split at h
 ·rename_i l ty hH;split at h
  ·exact Vz hF H n a ns h ρ w hO
  ·unfold aeL at h;split at h
   ·rename_i d ks hk;split at h
    ·rename_i gs b ms hf;split at h
     ·rename_i jQ;split at h
      ·rename_i a' ha';obtain⟨rfl,h⟩:=aC h;cases h;rw [<- hF] at hf;have hq:=Rw (M7 hF hk) hH hf (qW jQ) hO;rw [show N.F.len=AV.len by rw [hF];rfl] at hq;obtain⟨d',Bw⟩:=ah6 ha';exact(uZ hF (Rn Bw).1 (Rn (σ:=σ) Bw).2 _ _ _).2 hq
      ·split at h
       ·rename_i ho;obtain⟨rfl,h⟩:=aC h;cases h;rw [<- hF] at hf;have hq:=Rw (M7 hF hk) hH hf (qW jQ) hO;rw [show N.F.len=AV.len by rw [hF];rfl] at hq;exact(uZ hF (a:=.Pt d ty gs) rfl ho _ _ _).2 hq
       ·cases h
     ·cases h
    ·cases h
   ·cases h
 ·cases h
def NV (σ:Sg):eI AV:={tt:=tt,ft:=ft,gu:=gu,G:=7,F:=F6 σ,hv:=hvG (F6 σ) slT 7,mt:=mtF,sl:=slT}
variable {σ:Sg}
theorem sJ:fN Tryz.prog (NV σ):=VQ (alY 7 (F6 σ) (hvG (F6 σ) slT 7) (fun _ _=>none)) rfl rfl rfl rfl
theorem uD:fO Tryz.prog (NV σ):=fun f fn c _ _ id b _ g hg=>by cases hg
theorem K7:U8 Tryz.prog (NV σ):=YW aho rfl
abbrev m7:=FuncId->Option (List SV->Hp AV->T (SV×Hp AV))
theorem fnV {tab:m7} (ht:dH Tryz.prog (NV σ) tab) (n:Nat) (f:FuncId):cE Tryz.prog (NV σ) f (lv (NV σ) tab n (.fn f)):=afE sJ uD K7 ht n f
def cL:AV->Nat->Bool
 | .gH i,j=>Nat.beq i j
 | _,_=>false
theorem dL:∀a i,cL a i=true->a=.gH i:=fun a i h=>by
 cases a<;>first
  | (have h:=(aG _ _).1 h;subst h;rfl)
  | cases h
def Al:List Bool:=List.replicate 7 true
def MH (l:List Nat):Nat->Nat->List Bool
 | 0,_=>[]
 | n+1,i=>nS l i::MH l n (i+1)
def mkM (f:FuncId):List Bool:=match gu.get f with | some l=>MH l 7 0 | none=>MH [] 7 0
theorem Ii (l:List Nat):∀n i,(MH l n i).length=n
 | 0,_=>rfl
 | n+1,i=>by rw [MH,aaQ,Ii l n]
theorem ju (f:FuncId):7=(mkM f).length:=by unfold mkM;split<;>exact(Ii ..).symm
def iQ (M:List Bool) (l:List AV):Hp AV:=cZ AV.gH 0 M++fA l
def Pg (σ:Sg) (tab:m7) (f:FuncId) (M:List Bool) (args:List SV) (l:List AV) (K:Hp AV):T (SV×List AV×List AV) :=
 match p9 (iQ M l) M.length K with
 | H=>match Q.BP H args,Q.qy H H with
   | true,true=>(Q.bind (Q.lv (NV σ) tab 14 (.fn f) args H) (BO (DM σ) cL M l.length [M.length])).map XV
   | _,_=>.fail "run: names"
def kG (σ:Sg) (tab:m7) (f:FuncId) (M:List Bool) (args:List SV) (l:List AV):T (SV×List AV×List AV) :=
 (Q.bind (Q.lv (NV σ) tab 14 (.fn f) args (iQ M l)) (BO (DM σ) cL M l.length [])).map XV
theorem Dq {β:Type} {t:T (SV×β)} {v:SV} {r:β} (h:(t.map XV).val=some (v,r)):∃v0,v=XU v0 /\ t.val=some (v0,r):=by rw [T.gg] at h;obtain⟨⟨v0,r0⟩,h1,h2⟩:=aaT.1 h;cases h2;exact⟨v0,rfl,h1⟩
theorem Kr (M:List Bool) (l:List AV):eX (NV σ) (iQ M l):=by
 refine⟨fun n c h=>?_,trivial⟩;unfold iQ at h;rw [bA] at h;split at h
 ·rw [((nH _ _ _ _ _).1 h).2];intro c hc;cases hc
 ·obtain⟨a,_,rfl⟩:=(eW _ _ _).1 h;intro c hc;cases hc
theorem BQ {H:Hp AV} (h:qy H H=true):eX (NV σ) H:=⟨jH.1 h,trivial⟩
theorem Rc {tab:m7} (ht:dH Tryz.prog (NV σ) tab) {f:FuncId} {M:List Bool} (hM:7=M.length) {args:List SV} {a:AV} {l:List AV} {K:Hp AV} (R9:∃c,af K 0=some c) (hKq:∀l S w,(NV σ).F.q a l S w->oK (NV σ) K l S w) {v:SV} {l' nw:List AV}
 (bZ:∀x∈args,gf (iQ M (a::l)) x) (h:(Pg σ tab f M args (a::l) K).val=some (v,l',nw)):rT Tryz.prog (NV σ) f args (iQ M (a::l)) v (iQ M (l'++nw)) /\ l'.length=(a::l).length:=by
 unfold Pg at h;dsimp only at h;split at h
 ·rename_i h1 h2;rw [Q.clVs_eq] at h1;rw [Q.clHs_eq] at h2;obtain⟨v0,rfl,h0⟩:=Dq h;rw [Q.bind_eq,Q.lv_eq] at h0;obtain⟨⟨v1,H2⟩,hr,hc⟩:=T.bq h0;have hn:af (iQ M (a::l)) M.length=some (.bN a):=by unfold iQ;rw [bA,ij,if_neg (by omega),Nat.sub_self];rfl
  have Y3:Ou (NV σ) (iQ M (a::l)) (p9 (iQ M (a::l)) M.length K):=EC (Kr M _) hn R9 (by show 7<=M.length;omega) hKq;have Zb:=(fnV ht 14 f).ctr hr (qx.1 h1) (BQ h2);refine(fun x=>⟨DC x.1,x.2⟩) (xe (N:=NV σ) (uJ rfl) dL hM bZ Y3 (fun m c h=>?_) Zb hc);have hlt:=b7 hn;have h:af (iQ M (a::l)) m=some c:=h;rw [Bt hlt (by rintro rfl;obtain⟨c,hc⟩:=R9;cases hc)];by_cases e:m=M.length
  ·obtain⟨c0,xR⟩:=R9;rw [if_pos e,xR];exact⟨_,rfl⟩
  ·rw [if_neg e,if_pos (b7 h)];exact⟨c,h⟩
 ·cases h
theorem JS {tab:m7} (ht:dH Tryz.prog (NV σ) tab) {f:FuncId} {M:List Bool} (hM:7=M.length) {args:List SV} {a:AV} {l:List AV} {K:Hp AV} (hK:o9 σ a=some K) (R9:∃c,af K 0=some c) (ho:a.K3=true) {v:SV} {l' nw:List AV}
 (bZ:∀x∈args,gf (iQ M (a::l)) x) (h:(Pg σ tab f M args (a::l) K).val=some (v,l',nw)):rT Tryz.prog (NV σ) f args (iQ M (a::l)) v (iQ M (l'++nw)) /\ l'.length=(a::l).length :=
 Rc ht hM R9 (fun l S w hq=>(uZ (N:=NV σ) rfl hK ho l S w).1 hq) bZ h
theorem wK {tab:m7} (ht:dH Tryz.prog (NV σ) tab) {f:FuncId} {M:List Bool} (hM:7=M.length) {args:List SV} {l:List AV} {v:SV} {l' nw:List AV}
 (bZ:∀x∈args,gf (iQ M l) x) (h:(kG σ tab f M args l).val=some (v,l',nw)):rT Tryz.prog (NV σ) f args (iQ M l) v (iQ M (l'++nw)) /\ l'.length=l.length:=by
 unfold kG at h;obtain⟨v0,rfl,h0⟩:=Dq h;rw [Q.bind_eq,Q.lv_eq] at h0;obtain⟨⟨v1,H2⟩,hr,hc⟩:=T.bq h0;exact(fun x=>⟨DC x.1,x.2⟩) (xe (N:=NV σ) (uJ rfl) dL hM bZ (Ou.refl _) (fun m c h=>⟨c,h⟩) ((fnV ht 14 f).ctr hr bZ (Kr M l)) hc)
end
section
open Go Go.Sx Go.Proofs
variable {σ:Sg}
def b9:m7:=fun _=>none
theorem bp:dH Tryz.prog (NV σ) b9:=fun f g h=>by cases h
def br (f:FuncId) (g:List SV->Hp AV->T (SV×Hp AV)) (tab:m7):m7:=fun x=>match Nat.beq x f with
 | true=>some g
 | false=>tab x
theorem aH {f:FuncId} {g:List SV->Hp AV->T (SV×Hp AV)} {tab:m7} (hg:cE Tryz.prog (NV σ) f g) (ht:dH Tryz.prog (NV σ) tab):dH Tryz.prog (NV σ) (br f g tab):=by
 intro x y h;unfold br at h;split at h
 ·rename_i e;have e:=(aG _ _).1 e;subst e;cases h;exact hg
 ·exact ht x y h
def al0:m7:=br 16 LK b9
theorem abo:dH Tryz.prog (NV σ) al0:=aH YJ bp
def KT:T (SV×List AV×List AV)->Bool
 | .aD (.v (.c c),[],[])=>match lQ c with | some _=>true | none=>false
 | .ite _ t e=>match KT t with | true=>KT e | false=>false
 | .aE b t=>match b with | true=>KT t | false=>false
 | _=>false
def QR (args:List SV) (l:List AV):T (SV×List AV×List AV) :=
 match args,l with
 | [],[]=>.aD (.v (.c (.bl true)),[],[])
 | _,_=>.fail "arguments"
end
section
open Go Go.Sx Go.Proofs
variable {σ:Sg}
abbrev di (n:Int):Int:=IntKind.wrap .i64 (n+1)
def aq:W:=⟨0,0,0,0,false⟩
def dZ (n:Int):W:=⟨0,0,0,n,false⟩
def lG (a b:W):Bool:=a.ae==b.ae&&(a.tag==b.tag&&(a.bU==b.bU&&a.mark==b.mark))
def ah.ae (m:ah) (n:Int):Sl:=m.aW.getD (n - 1).toNat ic.bK
def ah.has (m:ah) (n:Int):Prop:=1<=n /\ n<=(m.aW.length:Int)
instance (m:ah) (n:Int):Decidable (m.has n):=inferInstanceAs (Decidable (_ /\ _))
def ah.yz (m:ah) (s g f:Int):Prop:=if s=0 then g=0 /\ 0<=f /\ f < (m.dX.length:Int) else m.has s /\ 0<=f /\ f < 10
instance (m:ah) (s g f:Int):Decidable (m.yz s g f):=by unfold ah.yz;exact inferInstance
def ah.bM (m:ah) (a:pB):Prop:=if a.aj=1 \/ a.aj=2 \/ a.aj=3 then m.yz a.s a.g a.f else if a.aj=4 then True else if a.aj=5 then m.has a.dy.ae else False
instance (m:ah) (a:pB):Decidable (m.bM a):=by unfold ah.bM;exact inferInstance
def ah.lE (m:ah) (n g:Int) (wf:Nat):Option Nat:=if n=0 then none else if (m.ae n).used=false then some wf else if (m.ae n).gen=g then none else some 6
def ah.oz (m:ah) (a:pB):Option Nat:=if a.aj=4 then none else if a.aj=5 then m.lE a.dy.ae a.dy.gen 4 else m.lE a.s a.g 5
def ah.read (m:ah) (s f:Int):W:=if s=0 then m.dX.getD f.toNat fg.bK else(m.ae s).at f.toNat
def ah.fP (m:ah) (s f:Int) (w:W):ah:=if s=0 then {m with dX:=m.dX.set f.toNat w} else {m with aW:=m.aW.set (s - 1).toNat ((m.ae s).B8 f.toNat w)}
def ah.alloc (m:ah) (Ah:Int):cJ×ah:=if m.free.length=0 then(⟨aq,false⟩,m) else
 let n:=(m.free.getD (m.free.length - 1) gx.bK).val;let g:=di (m.ae n).gen
 (⟨⟨n,g,0,0,false⟩,true⟩,{m with aW:=m.aW.set (n - 1).toNat ⟨g,true,[aq,aq,aq,aq,aq,aq,aq,aq,aq,dZ Ah]⟩,free:=m.free.take (m.free.length - 1),made:=di m.made})
def ah.aV (m:ah) (a:pB):cJ×ah :=
 let m1:={m with steps:=di m.steps}
 match m.oz a with
 | some e=>(⟨if a.aj=1 \/ a.aj=3 then dZ (-1) else aq,false⟩,match m.fault with | none=>{m1 with fault:=some (m1.steps,e)} | some _=>m1)
 | none=>if a.aj=4 then m1.alloc a.new.bU
   else if a.aj=5 then(⟨aq,true⟩,{m1 with aW:=m1.aW.set (a.dy.ae - 1).toNat {m1.ae a.dy.ae with used:=false},free:=m1.free++[⟨a.dy.ae⟩]})
   else if a.aj=1 then(⟨m1.read a.s a.f,true⟩,m1)
   else if a.aj=2 then(⟨aq,true⟩,m1.fP a.s a.f a.new)
   else if lG (m1.read a.s a.f) a.dy then(⟨m1.read a.s a.f,true⟩,m1.fP a.s a.f a.new) else(⟨m1.read a.s a.f,false⟩,m1)
structure ah.Ok (m:ah):Prop where
 lb:m.dX.length<=5000
 ls:m.aW.length<=5000
 lf:m.free.length<=5000
 fr:∀x∈m.free,m.has x.val
def rpC (r:cJ):V1:=.agg (r.w.enc++[.bt r.ok])
end
section
open Go Go.Sx Go.Proofs
variable {σ:Sg}
def bS:List Bool:=List.replicate 7 false
def Dw:Gs->List Cell
 | .p c::r=>c::Dw r
 | _=>[]
theorem rn:∀(l:List Cell),Dw (l.map .p)=l
 | []=>rfl
 | c::r=>by show c::Dw (r.map .p)=_;rw [rn r]
def Bf:List Cell->Bool
 | []=>true
 | c::r=>match c.name with | none=>Bf r | some _=>false
theorem vo:∀{l:List Cell},Bf l=true->∀c∈l,c.name=none
 | [],_,c,hc=>by cases hc
 | x::r,h,c,hc=>by
   simp only [Bf] at h;split at h
   ·rename_i hx;rcases aaO.1 hc with rfl | hc
    ·exact hx
    ·exact vo h c hc
   ·cases h
def Wd:SV->Bool
 | .v x=>Bf x.cells
 | .lU=>true
 | _=>false
def jq:List SV->Bool
 | []=>true
 | x::r=>match Wd x with | true=>jq r | false=>false
theorem AJ {x:SV} (h:Wd x=true) {H:Hp AV}:gf H x:=by
 cases x with
 | v x=>intro c hc n hn;rw [vo (l:=x.cells) h c hc] at hn;cases hn
 | lU=>trivial
 | iW l=>cases h
 | xz f l=>cases h
theorem fU:∀{l:List SV},jq l=true->∀{H:Hp AV},∀x∈l,gf H x
 | [],_,H,x,hx=>by cases hx
 | y::r,h,H,x,hx=>by
   simp only [jq] at h;split at h
   ·rename_i hy;rcases aaO.1 hx with rfl | hx
    ·exact AJ hy
    ·exact fU h x hx
   ·cases h
structure mh (A:Type) where
 enc:A->List SV
 jm:List SV->Option A
 ok:∀l a,jm l=some a->∀ρ:Nm,(enc a).map (SV.ay ρ)=l.map (SV.ay ρ)
 free:∀a,jq (enc a)=true
structure n5 (B:Type) where
 enc:B->SV
 jm:SV->Option B
 ok:∀v b,jm v=some b->v=enc b
structure xp (α:Type) where
 V:α->AV
 X:AV->Option α
 ok:∀a j,X a=some j->a=V j
 K3:∀j,(V j).K3=true
def jl:Gs->Gs
 | []=>[]
 | .p c::r=>.p (EN c)::jl r
 | x::r=>x::jl r
theorem qa:∀gs:Gs,gj (jl gs)=gj gs
 | []=>rfl
 | .p c::r=>qa r
 | .s a es::r=>by show a::gj (jl r)=_;rw [qa r];rfl
 | .r a::r=>by show a::gj (jl r)=_;rw [qa r];rfl
 | .i t a::r=>by show a::gj (jl r)=_;rw [qa r];rfl
theorem qb (ρ:Nm):∀(gs:Gs) (k:Nat),aF ρ (iK AV.len k (jl gs))=aF ρ (iK AV.len k gs)
 | [],k=>rfl
 | .p c::r,k=>by show (EN c).ay ρ::aF ρ (iK AV.len k (jl r))=_;rw [zv,qb ρ r k];rfl
 | .s a es::r,k=>by show _::aF ρ (iK AV.len (k+1) (jl r))=_;rw [qb ρ r (k+1)];rfl
 | .r a::r,k=>by show _::aF ρ (iK AV.len (k+1) (jl r))=_;rw [qb ρ r (k+1)];rfl
 | .i t a::r,k=>by show _::aF ρ (iK AV.len (k+1) (jl r))=_;rw [qb ρ r (k+1)];rfl
theorem zt {N:eI AV} {ty:TypeId} {gs:Gs} {l:Sx.m9} {S:Nat->Prop} {w:World} (h:oK N (gk AV.len ty (jl gs)) l S w):oK N (gk AV.len ty gs) l S w:=by
 obtain⟨ρ,hl,⟨hq,hd⟩,hS⟩:=h;have hp:=qa gs;have get:∀i c,af (gk AV.len ty gs) i=some c->∃c',af (gk AV.len ty (jl gs)) i=some c' /\ (c'.q N ρ i w->c.q N ρ i w) /\ ∀k,c.fp ρ i k↔c'.fp ρ i k:=fun i c hc=>by
  cases i with
  | zero =>simp only [gk,af,aaf] at hc;subst hc;refine⟨_,rfl,fun h=>?_,fun k=>Iff.rfl⟩;have h:w.heap[ρ 0]?=some (.cells (aF ρ (iK AV.len 1 (jl gs))).toArray ty (0,0)):=h;rw [qb] at h;exact h
  | succ i =>refine⟨c,?_,id,fun k=>Iff.rfl⟩;show af (fA (gj (jl gs))) i=some c;rw [hp];exact hc
 have back:∀i c,af (gk AV.len ty (jl gs)) i=some c->∃c',af (gk AV.len ty gs) i=some c' /\ ∀k,c.fp ρ i k↔c'.fp ρ i k:=fun i c hc=>by
  cases i with
  | zero =>simp only [gk,af,aaf] at hc;subst hc;exact⟨_,rfl,fun k=>Iff.rfl⟩
  | succ i =>refine⟨c,?_,fun k=>Iff.rfl⟩;show af (fA (gj gs)) i=some c;rw [<- hp];exact hc
 refine⟨ρ,hl,⟨fun i c hc=>?_,fun i j c d hij hc Bw k hk eh=>?_⟩,fun k=>?_⟩
 ·obtain⟨c',h1,h2,_⟩:=get i c hc;exact h2 (hq i c' h1)
 ·obtain⟨c',h1,_,h3⟩:=get i c hc;obtain⟨d',g1,_,g3⟩:=get j d Bw;exact hd i j c' d' hij h1 g1 k ((h3 k).1 hk) ((g3 k).1 eh)
 ·rw [hS k];constructor
  ·rintro ⟨i,c,hc,hf⟩;obtain⟨c',h1,h2⟩:=back i c hc;exact⟨i,c',h1,(h2 k).1 hf⟩
  ·rintro ⟨i,c,hc,hf⟩;obtain⟨c',h1,_,h3⟩:=get i c hc;exact⟨i,c',h1,(h3 k).1 hf⟩
def gJ (σ:Sg) (tab:m7) (f:FuncId) (M:List Bool) (args:List SV) (a:AV) (ty:TypeId) (gs:Gs) (l:List AV):T (SV×List AV×List AV) :=
 Pg σ tab f M (.v (.c (.ptr 7 0))::args) (a::l) (gk AV.len ty gs)
theorem J0 {M:List Bool} {a:AV} {l:List AV} (hM:7=M.length):gf (iQ M (a::l)) (.v (.c (.ptr 7 0))):=by intro c hc n hn;have hc:c∈[Cell.ptr 7 0]:=hc;rw [aet.1 hc] at hn;cases hn;refine⟨.bN a,?_⟩;unfold iQ;rw [bA,ij,if_neg (by omega),hM,Nat.sub_self];rfl
theorem L6 {tab:m7} (ht:dH Tryz.prog (NV σ) tab) {f:FuncId} {M:List Bool} (hM:7=M.length) {args:List SV} {a:AV} {ty:TypeId} {gs:Gs} {l:List AV} (ho:a.K3=true) (hl:o9 σ a=some (gk AV.len ty (jl gs))) {v:SV} {l' nw:List AV}
 (bZ:∀x∈args,gf (iQ M (a::l)) x) (h:(gJ σ tab f M args a ty gs l).val=some (v,l',nw)) :
 rT Tryz.prog (NV σ) f (.v (.c (.ptr 7 0))::args) (iQ M (a::l)) v (iQ M (l'++nw)) /\ l'.length=l.length+1 :=
 Rc ht hM (a:=a) (K:=gk AV.len ty gs) ⟨_,rfl⟩ (fun L S w hq=>zt ((uZ (N:=NV σ) rfl hl ho L S w).1 hq)) (fun x hx=>by
  rcases aaO.1 hx with rfl | hx
  ·exact J0 hM
  ·exact bZ x hx) h
def lA {β α:Type} (B:n5 β) (O:xp α):SV×List AV×List AV->Option (β×α)
 | (v,[a],[])=>match B.jm v,O.X a with
   | some b,some j=>some (b,j)
   | _,_=>none
 | _=>none
def ET {α:Type}:Option Bool->T α->T α
 | none,t=>t
 | some b,t=>.aE b t
def okO:Option Bool->Bool
 | none=>true
 | some b=>b
theorem kt {α:Type} {o:Option Bool} {t:T α} {r:α} (h:(ET o t).val=some r):okO o=true /\ t.val=some r:=by
 cases o with
 | none=>exact⟨rfl,h⟩
 | some b=>exact aC h
def fS {γ β α:Type} (A:mh γ) (B:n5 β) (O:xp α) (ok:α->γ->Option Bool) (next:α->γ->β×α) (args:List SV) (l:List AV):T (SV×List AV×List AV):=match args,l with
 | .v (.c (.ptr 7 0))::r,[a]=>match A.jm r,O.X a with
   | some x,some j=>ET (ok j x) (.aD (B.enc (next j x).1,[O.V (next j x).2],[]))
   | _,_=>.fail "method"
 | _,_=>.fail "method"
theorem dw {α β:Type} {t:T α} {d:α->β} {y:β} (h:(t.map d).val=some y):∃r,t.val=some r /\ d r=y:=by rw [T.gg] at h;obtain⟨r,h1,h2⟩:=aaT.1 h;exact⟨r,h1,h2⟩
theorem BJ {β α:Type} {B:n5 β} {O:xp α} {r:SV×List AV×List AV} {b:β} {j:α} (h:lA B O r=some (b,j)):r=(B.enc b,[O.V j],[]):=by
 unfold lA at h;split at h
 ·split at h
  ·rename_i hb hj;cases h;rw [B.ok _ _ hb,O.ok _ _ hj]
  ·cases h
 ·cases h
def aew {γ β α:Type} (σ:Sg) (tab:m7) (f:FuncId) (M:List Bool) (A:mh γ) (B:n5 β) (O:xp α) (j:α) (x:γ) (r:β×α):Prop :=
 ∃ty gs,o9 σ (O.V j)=some (gk AV.len ty (jl gs)) /\ ∃args,jq args=true /\ (∀ρ:Nm,args.map (SV.ay ρ)=(A.enc x).map (SV.ay ρ)) /\ ((gJ σ tab f M args (O.V j) ty gs []).map (lA B O)).val=some (some r)
theorem Ig {tab:m7} (ht:dH Tryz.prog (NV σ) tab) {f:FuncId} {M:List Bool} (hM:7=M.length) {γ β α:Type} {A:mh γ} {B:n5 β} {O:xp α} {ok:α->γ->Option Bool} {next:α->γ->β×α} (hrun:∀j x,okO (ok j x)=true->aew σ tab f M A B O j x (next j x))
 {args:List SV} {l:List AV} {v:SV} {l' nw:List AV} (h:(fS A B O ok next args l).val=some (v,l',nw)) (hl:l'.length=l.length) (bZ:∀x∈args,gf (cZ AV.gH 0 M++fA l) x):rT Tryz.prog (NV σ) f args (cZ AV.gH 0 M++fA l) v (cZ AV.gH 0 M++fA (l'++nw)):=by
 unfold fS at h;split at h
 ·rename_i r a;split at h
  ·rename_i x j hx hj
   replace h:=kt h
   obtain⟨pf,h⟩:=h;cases h;have ea:=O.ok _ _ hj;subst ea;obtain⟨ty,gs,e1,Gn,e2,e3,e4⟩:=hrun j x pf;obtain⟨y,h1,h2⟩:=dw e4;have h2:=BJ h2;subst h2;have hc:=L6 ht hM (O.K3 j) e1 (fU e2) h1;exact jh hc.1 fun ρ=>by simp only [aaU];rw [e3 ρ,A.ok _ _ hx ρ]
  ·cases h
 ·cases h
theorem lJ {tab:m7} (ht:dH Tryz.prog (NV σ) tab) {f:FuncId} {M:List Bool} (hM:7=M.length) {γ β α:Type} {A:mh γ} {B:n5 β} {O:xp α} {ok:α->γ->Option Bool} {next:α->γ->β×α} (hrun:∀j x,okO (ok j x)=true->aew σ tab f M A B O j x (next j x)) :
 cE Tryz.prog (NV σ) f (bJ cL M (fS A B O ok next)) :=
 hZ dL hM fun args l v l' nw h hl bZ=>Ig ht hM hrun h hl bZ
def qv {β:Type} (B:n5 β):SV×List AV×List AV->Option β
 | (v,[],[])=>B.jm v
 | _=>none
def oL {γ β α:Type} (A:mh γ) (B:n5 β) (O:xp α) (ok:α->γ->Option Bool) (next:α->γ->β×α) (z:β) (args:List SV) (l:List AV):T (SV×List AV×List AV):=match args,l with
 | .v (.c .jj)::r,[]=>match A.jm r with
   | some x=>.aD (B.enc z,[],[])
   | none=>.fail "method"
 | _,_=>fS A B O ok next args l
theorem qd {tab:m7} (ht:dH Tryz.prog (NV σ) tab) {f:FuncId} {M:List Bool} (hM:7=M.length) {γ β α:Type} {A:mh γ} {B:n5 β} {O:xp α} {ok:α->γ->Option Bool} {next:α->γ->β×α} {z:β} (hrun:∀j x,okO (ok j x)=true->aew σ tab f M A B O j x (next j x))
 (hz:∀x,((kG σ tab f M (.v (.c .jj)::A.enc x) []).map (qv B)).val=some (some z)):cE Tryz.prog (NV σ) f (bJ cL M (oL A B O ok next z)):=by
 refine hZ dL hM fun args l v l' nw h hl bZ=>?_;unfold oL at h;split at h
 ·split at h
  ·rename_i r x hx;cases h;obtain⟨⟨y0,y1,y2⟩,h1,h2⟩:=dw (hz x);unfold qv at h2;split at h2
   ·rename_i v0 he;cases he;rw [B.ok _ _ h2] at h1;have hc:=wK ht hM (args:=.v (.c .jj)::A.enc x) (fun y hy=>by
     rcases aaO.1 hy with rfl | hy
     ·exact AJ rfl
     ·exact fU (A.free x) y hy) h1
    exact jh hc.1 fun ρ=>by simp only [aaU];rw [A.ok _ _ hx ρ]
   ·cases h2
  ·cases h
 ·exact Ig ht hM hrun h hl bZ
def UJ {α:Type} (O:xp α):SV×List AV×List AV->Option α
 | (.v (.c (.ptr 7 0)),[],[a])=>O.X a
 | _=>none
theorem UI {α:Type} {O:xp α} {r:SV×List AV×List AV} {j:α} (h:UJ O r=some j):r=(.v (.c (.ptr 7 0)),[],[O.V j]):=by
 unfold UJ at h;split at h
 ·rw [O.ok _ _ h]
 ·cases h
def Mx {γ α:Type} (A:mh γ) (O:xp α) (ok:γ->Option Bool) (mk:γ->α) (args:List SV) (l:List AV):T (SV×List AV×List AV):=match l with
 | []=>match A.jm args with
   | some x=>ET (ok x) (.aD (.v (.c (.ptr 7 0)),[],[O.V (mk x)]))
   | none=>.fail "maker"
 | _=>.fail "maker"
theorem J9 {tab:m7} (ht:dH Tryz.prog (NV σ) tab) {f:FuncId} {M:List Bool} (hM:7=M.length) {γ α:Type} {A:mh γ} {O:xp α} {ok:γ->Option Bool} {mk:γ->α}
 (hrun:∀x,okO (ok x)=true->∃args,jq args=true /\ (∀ρ:Nm,args.map (SV.ay ρ)=(A.enc x).map (SV.ay ρ)) /\ ((kG σ tab f M args []).map (UJ O)).val=some (some (mk x))):cE Tryz.prog (NV σ) f (bJ cL M (Mx A O ok mk)):=by
 refine hZ dL hM fun args l v l' nw h hl bZ=>?_;unfold Mx at h;split at h
 ·split at h
  ·rename_i x hx
   replace h:=kt h
   obtain⟨pf,h⟩:=h;cases h;obtain⟨Gn,e2,e3,e4⟩:=hrun x pf;obtain⟨y,h1,h2⟩:=dw e4;have h2:=UI h2;subst h2;have hc:=wK ht hM (fU e2) h1;exact jh hc.1 fun ρ=>by rw [e3 ρ,A.ok _ _ hx ρ]
  ·cases h
 ·cases h
def xx {γ β:Type} (A:mh γ) (B:n5 β) (ok:γ->Option Bool) (fn:γ->β) (args:List SV) (l:List AV):T (SV×List AV×List AV):=match l with
 | []=>match A.jm args with
   | some x=>ET (ok x) (.aD (B.enc (fn x),[],[]))
   | none=>.fail "function"
 | _=>.fail "function"
theorem wT {tab:m7} (ht:dH Tryz.prog (NV σ) tab) {f:FuncId} {M:List Bool} (hM:7=M.length) {γ β:Type} {A:mh γ} {B:n5 β} {ok:γ->Option Bool} {fn:γ->β}
 (hrun:∀x,okO (ok x)=true->∃args,jq args=true /\ (∀ρ:Nm,args.map (SV.ay ρ)=(A.enc x).map (SV.ay ρ)) /\ ((kG σ tab f M args []).map (qv B)).val=some (some (fn x))):cE Tryz.prog (NV σ) f (bJ cL M (xx A B ok fn)):=by
 refine hZ dL hM fun args l v l' nw h hl bZ=>?_;unfold xx at h;split at h
 ·split at h
  ·rename_i x hx
   replace h:=kt h
   obtain⟨pf,h⟩:=h;cases h;obtain⟨Gn,e2,e3,e4⟩:=hrun x pf;obtain⟨⟨y0,y1,y2⟩,h1,h2⟩:=dw e4;unfold qv at h2;split at h2
   ·rename_i v0 he;cases he;rw [B.ok _ _ h2] at h1;have hc:=wK ht hM (fU e2) h1;exact jh hc.1 fun ρ=>by rw [e3 ρ,A.ok _ _ hx ρ]
   ·cases h2
  ·cases h
 ·cases h
def tI {α:Type} (b:Bool) (t e:T α):T α:=.ite b t e
def tL {α:Type} (a:α):T (Option α):=.aE true (.aD (some a))
theorem vI {α:Type} {b:Bool} {t e:T (Option α)} {x y:α} (h1:t.val=some (some x)) (h2:e.val=some (some y)):(tI b t e).val=some (some (cond b x y)):=by cases b<;>assumption
theorem vL {α:Type} {a:α}:(tL a).val=some (some (id a)):=rfl
def Rf (x:cJ):List Cell:=x.w.enc++[.bt x.ok]
def nD:mh cJ where
 enc x:=[.v (.agg (Rf x))]
 jm:=fun | [.v (.agg [c0,c1,c2,c3,c4,c5])]=>(match W.jm [c0,c1,c2,c3,c4],bOf c5 with | some w,some b=>some ⟨w,b⟩ | _,_=>none) | _=>none
 ok:=fun l a h ρ=>by
  split at h
  ·split at h
   ·rename_i w b hw hb;cases h;have e:=W.ig _ _ hw;have e2:=sZ hb;have d:aF ρ w.enc=aF ρ _:=(ke fun c hc=>(by simp [W.enc] at hc;rcases hc with rfl | rfl | rfl | rfl | rfl<;>rfl)).trans (e.1.trans (ke e.2).symm);have d2:Cell.ay ρ (.bt b)=Cell.ay ρ _:=(e2.1.symm.trans (cg _ fun m hm=>by rw [e2.2] at hm;cases hm));simp only [Rf,aaU,afm,SV.ay,V1.ay,aF,adA] at d d2 ⊢;rw [d,d2];rfl
   ·cases h
  ·cases h
 free:=fun _=>rfl
def C4:n5 Cl where
 enc c:=.v (.agg (Dw (Cl.wr c)))
 jm:=fun | .v (.agg cs)=>(match Cl.rd (cs.map .p) with | some (c,[])=>some c | _=>none) | _=>none
 ok:=fun v b h=>by
  split at h
  ·split at h
   ·rename_i hc;cases h;have:=Cl.ia hc;rw [aeF] at this;rw [<- this,rn]
   ·cases h
  ·cases h
@[reducible] def HW:xp dz:=⟨HM,HL,fun _ _=>Dj,fun _=>rfl⟩
@[reducible] def HX:xp dj:=⟨Jb,Ja,fun _ _=>DD,fun _=>rfl⟩
@[reducible] def uo:xp bs:=⟨DK,Lj,fun _ _=>Jy,fun _=>rfl⟩
@[reducible] def EH:xp cU:=⟨PH,T8,fun _ _=>Kh,fun _=>rfl⟩
@[reducible] def mO:xp aQ:=⟨rR,F9,fun _ _=>F8,fun _=>rfl⟩
@[reducible] def EG:xp cD:=⟨D8,Tu,fun _ _=>JN,fun _=>rfl⟩
@[reducible] def iA:xp ax:=⟨jn,HH,fun _ _=>Dd,fun _=>rfl⟩
end
section
open Go Go.Sx Go.Proofs
variable {σ:Sg}
def dB (w:W):W:=⟨w.ae,w.gen,0,0,false⟩
def iV (w r:W):W:=⟨r.ae,r.gen,di w.tag,0,false⟩
def n6 (w:W):W:=⟨w.ae,w.gen,di w.tag,w.bU,true⟩
def fH (w:W) (n:Int):W:=⟨0,0,di w.tag,IntKind.wrap .i64 (w.bU+n),false⟩
def az (w:W) (n:Int):Ad:=⟨w.ae,w.gen,n⟩
def bc (n:Int):Ad:=⟨0,0,n⟩
def iC:Ad:=⟨0,0,0⟩
def bf:Cl:=⟨0,iC,aq,aq,0,0,⟨0,0⟩⟩
def bC (a:Ad):Cl:=⟨3,a,aq,aq,0,0,⟨0,0⟩⟩
def cW (a:Ad) (w:W):Cl:=⟨4,a,aq,w,0,0,⟨0,0⟩⟩
def cr (a:Ad) (o n:W):Cl:=⟨5,a,o,n,0,0,⟨0,0⟩⟩
def bL (a:Ad) (i:Int):Cl:=⟨6,a,aq,aq,i,0,⟨0,0⟩⟩
def pj (i j:Int):Cl:=⟨7,iC,aq,aq,i,j,⟨0,0⟩⟩
def kP:Cl:=⟨8,iC,aq,aq,0,0,⟨0,0⟩⟩
def qz (w:W):Cl:=⟨9,iC,w,aq,0,0,⟨0,0⟩⟩
def kD (w:W):Cl:=⟨10,iC,w,aq,0,0,⟨0,0⟩⟩
def jS (mZ val:Int):Cl:=⟨12,iC,aq,aq,0,0,⟨mZ,val⟩⟩
def HN {β:Type} (I:Bool->β->β->β) (L:Cl×dz->β) (j:dz) (x:cJ):β :=
 let ask (n:Int) (c:Cl) (j:dz):β:=L (c,{j with pc:=n});let done (j:dz) (c v:Int):β:=L (jS c v,{j with pc:=-1,last:=jS c v})
 I (j.op.aj==1)
   (I (j.pc==0) (ask 1 kP j)
   (I (j.pc==1) (I (!x.ok) (done j 4 0) (ask 2 (cW (az x.w 1) (dZ j.op.val)) {j with node:=x.w}))
   (I (j.pc==5) (I x.ok (done j 1 0) (ask 3 (bC (bc 0)) j))
   (I (j.pc==2) (ask 3 (bC (bc 0)) j)
   (I (j.pc==3) (ask 4 (cW (az j.node 2) (dB x.w)) {j with top:=x.w})
   (I (j.pc==4) (ask 5 (cr (bc 0) j.top (iV j.top j.node)) j)
   (L (j.last,j))))))))
   (I (j.pc==3) (I x.ok (ask 4 (bC (az j.top 1)) j) (ask 1 (bL (bc 0) 0) j))
   (I (j.pc==0) (ask 1 (bL (bc 0) 0) j)
   (I (j.pc==1) (I (x.w.ae==0) (done {j with top:=x.w} 2 0) (I (j.op.aj==3) (ask 4 (bC (az x.w 1)) {j with top:=x.w}) (ask 2 (bC (az x.w 2)) {j with top:=x.w})))
   (I (j.pc==2) (ask 3 (cr (bc 0) j.top (iV j.top x.w)) j)
   (I (j.pc==4) (I (j.op.aj==3) (done {j with val:=x.w.bU} 1 x.w.bU) (ask 5 (kD j.top) {j with val:=x.w.bU}))
   (I (j.pc==5) (done j 1 j.val)
   (L (j.last,j))))))))
def oJ (j:dz) (x:cJ):Cl×dz:=HN cond id j x
theorem am7 (σ:Sg) (j:dz) (x:cJ):(gJ σ b9 133 bS (nD.enc x) (HM j) LG (dz.wr j) []).map (lA C4 HW)=HN tI tL j x:=by kernel_rfl
theorem ab2:cE Tryz.prog (NV σ) 133 (bJ cL bS (fS nD C4 HW (fun _ _=>none) oJ)) :=
 lJ bp rfl fun j x _=>⟨LG,dz.wr j,rfl,nD.enc x,rfl,fun _=>rfl,by
  rw [am7];unfold HN oJ HN;dsimp only
  repeat' first | apply vI | exact vL⟩
def FZ {β:Type} (I:Bool->β->β->β) (L:Cl×dj->β) (j:dj) (x:cJ):β :=
 let two (p q:Bool) (t e:β):β:=I p (I p t e) (I q t e);let ask (n:Int) (c:Cl) (j:dj):β:=L (c,{j with pc:=n});let done (j:dj) (c v:Int):β:=L (jS c v,{j with pc:=-1,last:=jS c v})
 I (j.op.aj==4)
   (I (j.pc==0) (ask 1 kP j)
   (I (j.pc==1) (I (!x.ok) (done j 4 0) (ask 2 (cW (az x.w 1) (dZ j.op.val)) {j with node:=x.w}))
   (I (j.pc==3) (ask 4 (bC (az x.w 2)) {j with t:=x.w})
   (I (j.pc==4) (ask 5 (bC (bc 1)) {j with n:=x.w})
   (I (j.pc==5) (I (!lG x.w j.t) (ask 3 (bL (bc 1) 0) j) (I (!(j.n.ae==0)) (ask 6 (cr (bc 1) j.t (iV j.t j.n)) j) (ask 7 (cr (az j.t 2) j.n (iV j.n j.node)) j)))
   (I (j.pc==7) (I x.ok (ask 8 (cr (bc 1) j.t (iV j.t j.node)) j) (ask 3 (bL (bc 1) 0) j))
   (two (j.pc==2) (j.pc==6) (ask 3 (bL (bc 1) 0) j)
   (I (j.pc==8) (done j 1 0)
   (L (j.last,j))))))))))
   (I (j.pc==1) (ask 2 (bC (bc 1)) {j with h:=x.w})
   (I (j.pc==2) (ask 3 (bL (az j.h 2) 1) {j with t:=x.w})
   (I (j.pc==3) (ask 4 (bC (bc 0)) {j with n:=x.w})
   (I (j.pc==4) (I (!lG x.w j.h) (ask 1 (bL (bc 0) 0) j) (I (j.n.ae==0) (done j 2 0) (I (j.h.ae==j.t.ae) (ask 5 (cr (bc 1) j.t (iV j.t j.n)) j) (ask 6 (bC (az j.n 1)) j))))
   (I (j.pc==6) (ask 7 (cr (bc 0) j.h (iV j.h j.n)) {j with val:=x.w.bU})
   (I (j.pc==7) (I x.ok (ask 8 (kD j.h) j) (ask 1 (bL (bc 0) 0) j))
   (two (j.pc==0) (j.pc==5) (ask 1 (bL (bc 0) 0) j)
   (I (j.pc==8) (done j 1 j.val)
   (L (j.last,j))))))))))
def mY (j:dj) (x:cJ):Cl×dj:=FZ cond id j x
theorem apO (σ:Sg) (j:dj) (x:cJ):(gJ σ b9 143 bS (nD.enc x) (Jb j) LJ (dj.wr j) []).map (lA C4 HX)=FZ tI tL j x:=by kernel_rfl
theorem adX:cE Tryz.prog (NV σ) 143 (bJ cL bS (fS nD C4 HX (fun _ _=>none) mY)) :=
 lJ bp rfl fun j x _=>⟨LJ,dj.wr j,rfl,nD.enc x,rfl,fun _=>rfl,by
  rw [apO];unfold FZ mY FZ;dsimp only
  repeat' first | apply vI | exact vL⟩
end
section
open Go Go.Sx Go.Proofs
variable {σ:Sg}
def GY:n5 (Cl×Bool) where
 enc c:=.iW [.agg (Dw (Cl.wr c.1)),.c (.bt c.2)]
 jm:=fun | .iW [.agg cs,.c (.bt b)]=>(match Cl.rd (cs.map .p) with | some (c,[])=>some (c,b) | _=>none) | _=>none
 ok:=fun v b h=>by
  split at h
  ·split at h
   ·rename_i hc;cases h;have:=Cl.ia hc;rw [aeF] at this;rw [<- this,rn]
   ·cases h
  ·cases h
def B3 {β:Type} (I:Bool->β->β->β) (L:(Cl×Bool)×bs->β) (w:bs) (x:cJ):β :=
 let ask (n:Int) (c:Cl) (w:bs):β:=L ((c,true),{w with pc:=n});let finish (f:Bool) (w:bs):β:=L ((bf,false),{w with pc:=-1,found:=f});let again (w:bs):β:=ask 1 (bL w.start 1) {w with prev:=w.start};let behind (w:bs):β:=ask 2 (bL (az w.cur 2) 0) w;let on (w:bs):β:=I (w.cur.ae==0) (finish false w) (ask 8 (pj 1 0) w)
 I (w.pc==1) (I x.w.mark (again w) (I (x.w.ae==0) (finish false {w with cur:=x.w}) (behind {w with cur:=x.w})))
 (I (w.pc==2) (ask 3 (bC (az w.cur 0)) {w with next:=x.w})
 (I (w.pc==3) (ask 4 (bC w.prev) {w with k:=x.w.bU})
 (I (w.pc==4) (I (!lG x.w w.cur) (again w) (I w.next.mark (ask 5 (cr w.prev w.cur (iV w.cur w.next)) w) (I (decide (w.k>=w.key)) (finish (w.k==w.key) w) (ask 7 (pj 2 1) {w with prev:=az w.cur 2}))))
 (I (w.pc==5) (I x.ok (ask 6 (kD w.cur) w) (again w))
 (I (w.pc==0) (again w)
 (I (w.pc==6) (on {w with cur:=iV w.cur w.next})
 (I (w.pc==7) (on {w with cur:=w.next})
 (I (w.pc==8) (behind w)
 (L ((bf,false),w))))))))))
def bh (w:bs) (x:cJ):(Cl×Bool)×bs:=B3 cond id w x
theorem ala (σ:Sg) (w:bs) (x:cJ):(gJ σ b9 160 bS (nD.enc x) (DK w) y5 (bs.wr w) []).map (lA GY uo)=B3 tI tL w x:=by kernel_rfl
theorem agF (σ:Sg) (x:cJ):(kG σ b9 160 bS (.v (.c .jj)::nD.enc x) []).map (qv GY)=.aD (some (bf,false)):=by kernel_rfl
theorem aa6:cE Tryz.prog (NV σ) 160 (bJ cL bS (oL nD GY uo (fun _ _=>none) bh (bf,false))) :=
 qd bp rfl (fun j x _=>⟨y5,bs.wr j,rfl,nD.enc x,rfl,fun _=>rfl,by
  rw [ala];unfold B3 bh B3;dsimp only
  repeat' first | apply vI | exact vL⟩) fun x=>congrArg T.val (agF σ x)
def aer:mh (Ad×Int) where
 enc x:=[.v (.agg [.it .i64 x.1.s,.it .i64 x.1.g,.it .i64 x.1.f]),.v (.c (.it .i64 x.2))]
 jm:=fun | [.v (.agg [c0,c1,c2]),.v (.c c3)]=>(match kL c0,kL c1,kL c2,kL c3 with | some a,some b,some c,some n=>some (⟨a,b,c⟩,n) | _,_,_,_=>none) | _=>none
 ok:=fun l a h ρ=>by
  split at h
  ·split at h
   ·rename_i h0 h1 h2 h3;cases h;simp only [aaU,afm,SV.ay,V1.ay,aF,b6 h0 ρ,b6 h1 ρ,b6 h2 ρ,b6 h3 ρ];rfl
   ·cases h
  ·cases h
 free:=fun _=>rfl
def iD (x:Ad×Int):bs:=⟨0,bf,x.1,x.2,x.1,aq,aq,0,false⟩
theorem X2 (σ:Sg) (x:Ad×Int):(kG σ b9 164 bS (aer.enc x) []).map (UJ uo)=tL (iD x):=by kernel_rfl
theorem PA:cE Tryz.prog (NV σ) 164 (bJ cL bS (Mx aer uo (fun _=>none) iD)) :=
 J9 bp rfl fun x _=>⟨aer.enc x,rfl,fun _=>rfl,by rw [X2];rfl⟩
def Jt:mh Unit:=⟨fun _=>[],fun | []=>some () | _=>none,fun l a h ρ=>by split at h<;>cases h;rfl,fun _=>rfl⟩
def QO:n5 Bool where
 enc b:=.v (.c (.bt b))
 jm:=fun | .v (.c (.bt b))=>some b | _=>none
 ok:=fun v b h=>by split at h<;>cases h;rfl
def JF:n5 (Ad×W×W) where
 enc x:=.iW [.agg [.it .i64 x.1.s,.it .i64 x.1.g,.it .i64 x.1.f],.agg x.2.1.enc,.agg x.2.2.enc]
 jm:=fun | .iW [.agg [.it .i64 a,.it .i64 b,.it .i64 c],.agg [.it .i64 d,.it .i64 e,.it .i64 f,.it .i64 g,.bt h],.agg [.it .i64 i,.it .i64 k,.it .i64 l,.it .i64 m,.bt n]]=>some (⟨a,b,c⟩,⟨d,e,f,g,h⟩,⟨i,k,l,m,n⟩) | _=>none
 ok:=fun v b h=>by split at h<;>cases h;rfl
theorem ajA (σ:Sg) (w:bs):(gJ σ b9 161 bS [] (DK w) y5 (bs.wr w) []).map (lA QO uo)=tL (w.found,w):=by kernel_rfl
theorem ahK (σ:Sg) (w:bs):(gJ σ b9 162 bS [] (DK w) y5 (bs.wr w) []).map (lA JF uo)=tL ((w.prev,w.cur,w.next),w):=by kernel_rfl
theorem adt (σ:Sg):(kG σ b9 161 bS [.v (.c .jj)] []).map (qv QO)=.aD (some false):=by kernel_rfl
theorem Zk:cE Tryz.prog (NV σ) 161 (bJ cL bS (oL Jt QO uo (fun _ _=>none) (fun w _=>(w.found,w)) false)) :=
 qd bp rfl (fun j x _=>⟨y5,bs.wr j,rfl,[],rfl,fun _=>rfl,by rw [ajA];rfl⟩) fun x=>congrArg T.val (adt σ)
theorem abZ (σ:Sg):(kG σ b9 162 bS [.v (.c .jj)] []).map (qv JF)=.aD (some (iC,aq,aq)):=by kernel_rfl
theorem Xx:cE Tryz.prog (NV σ) 162 (bJ cL bS (oL Jt JF uo (fun _ _=>none) (fun w _=>((w.prev,w.cur,w.next),w)) (iC,aq,aq))) :=
 qd bp rfl (fun j x _=>⟨y5,bs.wr j,rfl,[],rfl,fun _=>rfl,by rw [ahK];rfl⟩) fun x=>congrArg T.val (abZ σ)
def Lw:m7:=br 160 (bJ cL bS (oL nD GY uo (fun _ _=>none) bh (bf,false))) (br 164 (bJ cL bS (Mx aer uo (fun _=>none) iD))
 (br 161 (bJ cL bS (oL Jt QO uo (fun _ _=>none) (fun w _=>(w.found,w)) false)) (br 162 (bJ cL bS (oL Jt JF uo (fun _ _=>none) (fun w _=>((w.prev,w.cur,w.next),w)) (iC,aq,aq))) b9)))
theorem Lv:dH Tryz.prog (NV σ) Lw:=aH aa6 (aH PA (aH Zk (aH Xx bp)))
def MS {β:Type} (I:Bool->β->β->β) (L:Cl×cU->β) (j:cU) (x:cJ):β :=
 let ask (n:Int) (c:Cl) (j:cU):β:=L (c,{j with pc:=n});let done (j:cU) (c v:Int):β:=L (jS c v,{j with pc:=-1,last:=jS c v});let uB (j:cU) (n:Int):cU:={j with walk:=some (iD (j.start,j.key)),pc:=n};let found (j:cU) (t e:β):β:=match j.walk with | none=>I false t e | some w=>I w.found t e
 let asF (j:cU) (t e:β):β:=match j.walk with | none=>I (!false) t e | some w=>I (!w.found) t e
 let prev (j:cU):Ad:=match j.walk with | none=>iC | some w=>w.prev
 let cur (j:cU):W:=match j.walk with | none=>aq | some w=>w.cur
 let next (j:cU):W:=match j.walk with | none=>aq | some w=>w.next
 let step (j:cU) (k:cU->β):β:=match j.walk with
  | none=>I false (L (bf,j)) (k j)
  | some w=>I (bh w x).1.2 (L ((bh w x).1.1,{j with walk:=some (bh w x).2})) (k {j with walk:=some (bh w x).2})
 let aiE (j:cU):β:=step j fun j=>found j (ask 5 (qz j.node) j) (ask 6 (cW (az j.node 2) (dB (cur j))) j);let Mb (j:cU):β:=step j fun j=>asF j (done j 2 0) (ask 2 (bC (az (cur j) 1)) j)
 I (j.op.aj==6)
   (I (j.pc==0) (ask 1 kP j)
   (I (j.pc==1) (I (!x.ok) (done j 4 0) (ask 2 (cW (az x.w 0) (dZ j.key)) {j with node:=x.w}))
   (I (j.pc==2) (ask 3 (cW (az j.node 1) (dZ j.op.val)) j)
   (I (j.pc==7) (I x.ok (done j 1 0) (aiE (uB j 4)))
   (I (j.pc==3) (aiE (uB j 4))
   (I (j.pc==4) (aiE j)
   (I (j.pc==5) (done j 3 0)
   (I (j.pc==6) (ask 7 (cr (prev j) (cur j) (iV (cur j) j.node)) j)
   (L (j.last,j))))))))))
 (I (j.op.aj==7)
   (I (j.pc==3) (I x.ok (ask 4 (cr (prev j) (cur j) (iV (cur j) (next j))) j) (Mb (uB j 1)))
   (I (j.pc==0) (Mb (uB j 1))
   (I (j.pc==1) (Mb j)
   (I (j.pc==2) (ask 3 (cr (az (cur j) 2) (next j) (n6 (next j))) {j with val:=x.w.bU})
   (I (j.pc==4) (I x.ok (ask 5 (kD (cur j)) j) (step (uB j 6) fun j=>done j 1 j.val))
   (I (j.pc==6) (step j fun j=>done j 1 j.val)
   (I (j.pc==5) (done j 1 j.val)
   (L (j.last,j)))))))))
   (I (j.pc==0) (Mb (uB j 1))
   (I (j.pc==1) (Mb j)
   (I (j.pc==2) (done j 1 x.w.bU)
   (L (j.last,j))))))
def ct (j:cU) (x:cJ):Cl×cU:=MS cond id j x
theorem anK (σ:Sg) (pc:Int) (la:Cl) (st:Ad) (key:Int) (op:O) (nd:W) (v:Int) (x:cJ):(gJ σ Lw 152 bS (nD.enc x) (PH ⟨pc,la,st,key,op,none,nd,v⟩) OR (cU.wr ⟨pc,la,st,key,op,none,nd,v⟩) []).map (lA C4 EH)=MS tI tL ⟨pc,la,st,key,op,none,nd,v⟩ x:=by kernel_rfl
theorem anJ (σ:Sg) (pc:Int) (la:Cl) (st:Ad) (key:Int) (op:O) (w:bs) (nd:W) (v:Int) (x:cJ):(gJ σ Lw 152 bS (nD.enc x) (PH ⟨pc,la,st,key,op,some w,nd,v⟩) OR (cU.wr ⟨pc,la,st,key,op,some w,nd,v⟩) []).map (lA C4 EH)=MS tI tL ⟨pc,la,st,key,op,some w,nd,v⟩ x:=by kernel_rfl
theorem anI (σ:Sg) (x:cJ):(kG σ Lw 152 bS (.v (.c .jj)::nD.enc x) []).map (qv C4)=.aD (some bf):=by kernel_rfl
theorem Yn:cE Tryz.prog (NV σ) 152 (bJ cL bS (oL nD C4 EH (fun _ _=>none) ct bf)) :=
 qd Lv rfl (fun j x _=>by
  obtain⟨pc,la,st,key,op,w,nd,v⟩:=j;cases w with
  | none=>exact⟨OR,cU.wr ⟨pc,la,st,key,op,none,nd,v⟩,rfl,nD.enc x,rfl,fun _=>rfl,by
     rw [anK];unfold MS ct MS;dsimp only
     repeat' first | apply vI | exact vL⟩
  | some w=>exact⟨OR,cU.wr ⟨pc,la,st,key,op,some w,nd,v⟩,rfl,nD.enc x,rfl,fun _=>rfl,by
     rw [anJ];unfold MS ct MS;dsimp only
     repeat' first | apply vI | exact vL⟩) fun x=>congrArg T.val (anI σ x)
