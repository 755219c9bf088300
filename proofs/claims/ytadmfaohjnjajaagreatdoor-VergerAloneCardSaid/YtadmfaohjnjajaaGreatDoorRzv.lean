import Derived.Test.YtadmfaohjnjajaaGreatDoorRd
import Derived.Test.YtadmfaohjnjajaaGreatDoorEf
import Derived.Test.YtadmfaohjnjajaaGreatDoorCa
import Derived.Test.YtadmfaohjnjajaaGreatDoorEc
import Derived.Shelf.SlGeneric
import Derived.Ground.SlgnProg
import Derived.Shelf.SlicesE.Clone
import Derived.Test.YtadmfaohjnjajaaGreatDoorDd
set_option linter.unusedVariables false
set_option linter.unusedSimpArgs false
set_option maxHeartbeats 0
set_option maxRecDepth 100000
noncomputable section
namespace Go.Proofs.YtadmfaohjnjajaaGreatDoor
section
open Go Go.Sx Go.Proofs
theorem BG:∀{k:Nat} {x:N1},x∈uy k->1<=x.val /\ x.val<=(k:Int)
 | 0,x,h=>by cases h
 | k+1,x,h=>by
   rcases aaO.1 h with rfl | h
   ·exact⟨by show 1<=((k+1:Nat):Int);omega,adi _⟩
   ·have:=BG h;omega
theorem NZ:∀(k:Nat),((uy k).map N1.val).Nodup
 | 0=>List.nodup_nil
 | k+1=>by refine ads.2 ⟨fun h=>?_,NZ k⟩;obtain⟨y,hy,e⟩:=ac0.1 h;have:=BG hy;have e:y.val=((k+1:Nat):Int):=e;omega
theorem ahn {k:Nat} {i:Nat}:(List.replicate k Va).getD i ic.bK=Va \/ (List.replicate k Va).getD i ic.bK=ic.bK:=by
 rw [ac7,afU];split
 ·exact .inl rfl
 ·exact .inr rfl
theorem yj {k:Nat} (hk:k<=1024):(oo k).WF k:=by
 have hz:gV k aq:=aU (by omega);refine⟨hk,rfl,List.length_replicate,fun w hw=>?_,fun s hs=>?_,fun s hs w hw=>?_,fun x hx=>BG hx,fun x hx=>?_,NZ k⟩
 ·rw [age (show w∈List.replicate 85 aq from hw)];exact hz
 ·rw [age (show s∈List.replicate k Va from hs)];rfl
 ·rw [age (show s∈List.replicate k Va from hs)] at hw;simp only [Va,aaO,aaR,or_false] at hw;rcases hw with rfl | rfl | rfl | rfl | rfl | rfl | rfl | rfl | rfl | rfl<;>exact hz
 ·show ((List.replicate k Va).getD _ ic.bK).used=false;rcases ahn (k:=k) (i:=(x.val - 1).toNat) with h | h<;>rw [h]<;>rfl
theorem aeq (p:ah) (f:Int) (w:W):p.aV (Ap f w)=(⟨aq,true⟩,{p with steps:=di p.steps,dX:=p.dX.set f.toNat w}):=rfl
theorem wG {n:Nat} {p:ah} (h:p.WF n) {f:Int} {w:W} (h0:0<=f) (h1:f < 85):p.bM (Ap f w):=by show (if (2:Int)=1 \/ (2:Int)=2 \/ (2:Int)=3 then p.yz 0 0 f else _);rw [if_pos (by decide)];unfold ah.yz;rw [if_pos rfl,h.lb];exact⟨rfl,h0,h1⟩
theorem JL {n:Nat} {p:ah} (h:p.WF n) {f:Int} {w:W} (h0:0<=f) (h1:f < 85) (hw:gV n w):(p.aV (Ap f w)).2.WF n :=
 (BV (hd:=false) h (fun e=>by cases e) (wG h h0 h1) hw fun e=>by cases e).wf
theorem SP {n:Nat} {p:ah} (h:p.WF n) (hf:p.free.length≠0):(p.aV pO).1.ok=true /\ 1<=(p.aV pO).1.w.ae /\ gV n (p.aV pO).1.w /\ (p.aV pO).2.WF n:=by
 have hv:p.bM pO:=by show (if (4:Int)=1 \/ (4:Int)=2 \/ (4:Int)=3 then _ else if (4:Int)=4 then True else _);rw [if_neg (by decide),if_pos rfl];trivial
 have ha:=BV (hd:=false) h (fun e=>by cases e) hv (aU (by omega)) fun e=>by cases e
 have pf:(p.aV pO).1.ok=true:=by show (ah.alloc {p with steps:=di p.steps} 0).1.ok=true;unfold ah.alloc;rw [if_neg (show ¬({p with steps:=di p.steps}:ah).free.length=0 from hf)]
 exact⟨pf,ha.al rfl pf,ha.w,ha.wf⟩
theorem aah {s e i n no:Int} (hs:1<=s /\ s<=5) (he:1<=e /\ e<=5) (hn:1<=n /\ n<=6) (vD:1<=no /\ no<=64) (hi:0<=i /\ i < n):Gj (s,e,i,n,no)=false:=by
 unfold Gj Ai;dsimp only
 rw [aaK (show ¬s < 1 by omega),aaK (show ¬s > 5 by omega),aaK (show ¬e < 1 by omega),aaK (show ¬e > 5 by omega),aaK (show ¬n < 1 by omega),aaK (show ¬n > 6 by omega),
  aaK (show ¬i < 0 by omega),aaK (show ¬i>=n by omega),aaK (show ¬no < 1 by omega),aaK (show ¬no > 64 by omega)]
 rfl
end
section
open Go Go.Sx Go.Proofs AH
def h00:AH:=⟨fun _=>aq,fun _ _=>aq,fun _ _=>False⟩
theorem aaz (k:Nat):Au (oo k) h00:=by refine⟨fun f f0 f1=>?_,fun s g _ hl=>hl.elim,fun s g f _ hl=>hl.elim⟩;unfold ah.read;rw [if_pos rfl];show (List.replicate 85 aq).getD f.toNat _=aq;rw [ac7,afU,if_pos (by omega)];rfl
def jR (k:Nat):ah:=((oo k).aV (Ap 24 (dZ 1))).2
theorem ZZ {k:Nat} (hk:k<=1024):(jR k).WF k:=JL (yj hk) (f:=24) (w:=dZ 1) (by decide) (by decide) (iy (by omega) _)
theorem UR {k:Nat} (hk:k<=1024):Au (jR k) h00:=by unfold jR;rw [aeq];exact GA (wE (yj hk)) (Gy (k:=di (oo k).steps) (aaz k)) (f:=24) (w:=dZ 1) (by decide) (by decide)
theorem Qn {k:Nat} (h1:1<=k):(jR k).free.length≠0:=by show (uy k).length≠0;rw [wZ];omega
def Ck (f1 f2:Int) (w1 w2:W->W) (p:ah):ah:=(((p.aV pO).2.aV (Ap f1 (w1 (p.aV pO).1.w))).2.aV (Ap f2 (w2 (p.aV pO).1.w))).2
def rK (s:Nat) (p:ah):ah:=match s with
 | 2=>Ck 0 1 dB dB p
 | 4=>Ck 8 16 dB (fun _=>dZ 1) p
 | _=>p
section
variable {n:Nat} {p:ah} {f1 f2:Int} {w1 w2:W->W}
theorem zK {β:Type} {fl:T β} {k:ah->T β} (h:p.WF n) (hf:p.free.length≠0) (h1:0<=f1 /\ f1 < 85) (h2:0<=f2 /\ f2 < 85) (hw1:∀{w},gV n w->gV n (w1 w)) (hw2:∀{w},gV n w->gV n (w2 w)) :
 (Ck f1 f2 w1 w2 p).WF n /\ (acI tI tN fl f1 f2 w1 w2 p k).val=(k (Ck f1 f2 w1 w2 p)).val:=by
 obtain⟨a1,a2,a3,a4⟩:=SP h hf;have b1:=JL a4 h1.1 h1.2 (hw1 a3);refine⟨JL b1 h2.1 h2.2 (hw2 a3),?_⟩;unfold acI;dsimp only;exact(nv (aaC h.ok)).trans ((oX rfl).trans ((oY (by rw [a1];rfl)).trans ((nv (aaC a4.ok)).trans ((oX (aaC (wG a4 h1.1 h1.2))).trans ((nv (aaC b1.ok)).trans (oX (aaC (wG b1 h2.1 h2.2))))))))
theorem MW (h:p.WF n) (hf:p.free.length≠0) (h1:0<=f1 /\ f1 < 18) (h2:0<=f2 /\ f2 < 18) (hw1:∀{w},gV n w->gV n (w1 w)) (A:Au p h00) :
 ∃x:W,1<=x.ae /\ Au (Ck f1 f2 w1 w2 p) (((h00.new x.ae x.gen).wr (bc f1) (w1 x)).wr (bc f2) (w2 x)):=by
 obtain⟨a1,a2,a3,a4⟩:=SP h hf;obtain⟨g1,A1,k1⟩:=GB (c:=kP) h A (.inr (.inr (.inr (.inr (.inl rfl))))) (K:=fun x g=>x.ok=true->g=h00.new x.w.ae x.w.gen) (rV (fun e=>by cases e) fun w _ _ _=>rfl);have A1:Au (p.aV pO).2 g1:=A1;have k1:=k1 a1;rw [k1] at A1;obtain⟨g2,A2,k2⟩:=GB (c:=cW (bc f1) (w1 (p.aV pO).1.w)) a4 A1 (.inr (.inl rfl)) (K:=fun _ g=>g=(h00.new (p.aV pO).1.w.ae (p.aV pO).1.w.gen).wr (bc f1) (w1 (p.aV pO).1.w)) (iw (b4 h1.1 h1.2) rfl);rw [k2] at A2;have b1:=JL a4 h1.1 (by omega) (hw1 a3);obtain⟨g3,A3,k3⟩:=GB (c:=cW (bc f2) (w2 (p.aV pO).1.w)) b1 A2 (.inr (.inl rfl)) (K:=fun _ g=>g=((h00.new (p.aV pO).1.w.ae (p.aV pO).1.w.gen).wr (bc f1) (w1 (p.aV pO).1.w)).wr (bc f2) (w2 (p.aV pO).1.w)) (iw (b4 h2.1 h2.2) rfl);rw [k3] at A3;exact⟨(p.aV pO).1.w,a2,A3⟩
end
theorem RU {k:Nat} (h1:1<=k) (hk:k<=1024) {s:Nat} (hs:1<=s /\ s<=5):(rK s (jR k)).WF k /\ Hd ((s:Int)==2) (rK s (jR k)) /\ (∃h,Au (rK s (jR k)) h /\ aeA s 0 h) /\
 ∀{β:Type} {fl:T β} {c:ah->T β},(ain tI tN fl s (jR k) c).val=(c (rK s (jR k))).val:=by
 have W:=ZZ hk;have A:=UR hk;have F:=Qn h1;have nh:∀q,Hd false q:=fun q (e:false=true)=>by cases e
 rcases (by omega:s=1 \/ s=2 \/ s=3 \/ s=4 \/ s=5) with rfl | rfl | rfl | rfl | rfl
 ·exact⟨W,nh _,⟨h00,A,[],⟨[],rfl,List.nodup_nil,rfl⟩,ab4 _⟩,fun {_ _ _}=>rfl⟩
 ·obtain⟨x,x1,B⟩:=MW (f1:=0) (f2:=1) (w1:=dB) (w2:=dB) W F (by decide) (by decide) (fun h=>cK h) A;refine⟨(zK (β:=Unit) (f1:=0) (f2:=1) (w1:=dB) (w2:=dB) (fl:=.aD ()) (k:=fun _=>.aD ()) W F (by decide) (by decide) (fun h=>cK h) (fun h=>cK h)).1,fun _=>?_,⟨_,B,[],⟨⟨x.ae,x.gen,aq.bU⟩,[],[],⟨x.ae,x.gen,aq.bU⟩,rfl,?_,?_,?_,?_,rfl⟩,ab4 _⟩,fun {_ _ _}=>(zK (f1:=0) (f2:=1) (w1:=dB) (w2:=dB) W F (by decide) (by decide) (fun h=>cK h) (fun h=>cK h)).2⟩
  ·have:=B.bd 0 (by decide) (by decide);show 1<=((Ck 0 1 dB dB (jR k)).dX.getD 0 fg.bK).ae;have e:(Ck 0 1 dB dB (jR k)).dX.getD 0 fg.bK=dB x:=this;rw [e];exact x1
  ·exact⟨rfl,rfl,x1,by show (if x.ae=x.ae then x.gen=x.gen else _);rw [if_pos rfl],by show (if x.ae=x.ae then aq else _).bU=_;rw [if_pos rfl],by show (if x.ae=x.ae then aq else _).ae=0;rw [if_pos rfl];rfl⟩
  ·simp
  ·rfl
  ·rfl
 ·exact⟨W,nh _,⟨h00,A,[],⟨⟨b4 (by decide) (by decide),.inr rfl,⟨rfl,rfl⟩,List.nodup_nil,by simp⟩,List.Pairwise.nil,fun x hx=>by cases hx⟩,ab4 _⟩,fun {_ _ _}=>rfl⟩
 ·obtain⟨x,x1,B⟩:=MW (f1:=8) (f2:=16) (w1:=dB) (w2:=fun _=>dZ 1) W F (by decide) (by decide) (fun h=>cK h) A;refine⟨(zK (β:=Unit) (f1:=8) (f2:=16) (w1:=dB) (w2:=fun _=>dZ 1) (fl:=.aD ()) (k:=fun _=>.aD ()) W F (by decide) (by decide) (fun h=>cK h) (fun _=>iy (by omega) _)).1,nh _,⟨_,B,[⟨x.ae,x.gen,0,0⟩],⟨?_,?_,?_,?_,?_,?_⟩,ab4 _⟩,fun {_ _ _}=>(zK (f1:=8) (f2:=16) (w1:=dB) (w2:=fun _=>dZ 1) W F (by decide) (by decide) (fun h=>cK h) (fun _=>iy (by omega) _)).2⟩
  ·exact⟨rfl,rfl,rfl,x1,by show (if x.ae=x.ae then x.gen=x.gen else _);rw [if_pos rfl],by show (if x.ae=x.ae then aq else _).bU=_;rw [if_pos rfl];rfl,by show (if x.ae=x.ae then aq else _).bU=_;rw [if_pos rfl];rfl,by show (if x.ae=x.ae then aq else _).ae=0 /\ (if x.ae=x.ae then aq else _).mark=false;rw [if_pos rfl];exact⟨rfl,rfl⟩⟩
  ·simp
  ·exact List.pairwise_singleton _ _
  ·exact⟨_,aaV,rfl,rfl,rfl⟩
  ·intro c c0 c8;rcases (by omega:c=0 \/ c=1 \/ c=2 \/ c=3 \/ c=4 \/ c=5 \/ c=6 \/ c=7) with rfl | rfl | rfl | rfl | rfl | rfl | rfl | rfl
   ·exact .inr ⟨_,aaV,rfl,rfl,rfl⟩
   all_goals exact .inl rfl
  ·intro y hy;rw [aet.1 hy];exact⟨by show (0:Int)<=0;decide,by show (0:Int) < 512;decide,fun _=>rfl⟩
 ·exact⟨W,nh _,⟨h00,A,[],⟨fun m _ _=>⟨rfl,rfl⟩,List.nodup_nil,List.Pairwise.nil,(fun x hx=>by cases hx),fun x hx=>by cases hx⟩,ab4 _⟩,fun {_ _ _}=>rfl⟩
end
end Go.Proofs.YtadmfaohjnjajaaGreatDoor

namespace Go.Proofs
open Go Go.Sx Go.Proofs
open Go.Shelf in
def Tryz.N5:Go.Shelf.Ren:=⟨fun | 41=>65 | n=>n,fun | 22=>41 | 23=>151 | 4=>4 | n=>n,fun | n=>n⟩
theorem Tryz.aqZ:Go.Proofs.SlLaysE0.n41 Tryz.prog Tryz.N5:={
 mixed:=by kernel_rfl
 f41:=⟨Tryz.f65.name,by decide,Tryz.func65.trans (congrArg some (by kernel_rfl))⟩
 t4:=Tryz.underlying4
 a4:=Tryz.isAgg4
 z4:=Tryz.sizeOf4
 v4:=Tryz.zeroValue4
 t22:=Tryz.underlying41
 a22:=Tryz.isAgg41
 z22:=Tryz.sizeOf41
 v22:=Tryz.zeroValue41}
end Go.Proofs
namespace Go.Proofs.YtadmfaohjnjajaaGreatDoor
section
open Go Go.Sx Go.Proofs Go.RowKit
variable {σ:Sg} {lp:Lp}
def Oe (v:aA):Bool:=v.aO != 0
theorem Od:cE Tryz.prog (NV σ) 10 (bJ cL bS (fS Lf C5 EF (fun _ _=>none) (fun v _=>(Oe v,v)))) :=
 lJ bp rfl fun v x _=>by obtain⟨so,en,ri,dg,cl,op,cF,an⟩:=v;rcases cF with _ | ⟨j | j | j | j | j⟩<;>exact⟨qJ,aA.wr _,rfl,[],rfl,fun _=>rfl,congrArg T.val (by kernel_rfl:_=tN true (.aD (some (Oe _,_))))⟩
def amQ (args:List SV) (l:List AV):T (SV×List AV×List AV):=match args,l with
 | [.v (.c (.ptr 7 0))],[.aP m]=>.aE (decide (m.notes.length<=1000000)) (.aD (.v (.c (.vs 8 0 m.notes.length 7 false)),[.aP m],[.notes m.notes]))
 | _,_=>.fail "Notes"
def mLd:List Bool:=mkM 7
def alZ (σ:Sg) (np:Int->ah):m7:=br 20 (bJ cL bS (qO aI2 Rx (fun x=>some (decide (0<=x.1 /\ x.1<=1024 /\ x.2=85))) (fun x=>np x.1))) (br 22 (bJ cL mDo (doS σ)) b9)
def ZO:SV×List AV×List AV->Option ah
 | (.v (.c (.ptr 7 0)),[],[.gi p])=>some p
 | _=>none
theorem Qh {r:SV×List AV×List AV} {p:ah} (h:ZO r=some p):r=(.v (.c (.ptr 7 0)),[],[.gi p]):=by
 unfold ZO at h;split at h
 ·cases h;rfl
 ·cases h
def Ei (σ:Sg) (np:Int->ah) (s:Nat) (k:Int):T (Option ah):=(kG σ (alZ σ np) 7 mLd [.v (.c (.il .i64 (Int.ofNat s))),.v (.c (.it .i64 k))] []).map ZO
def Fp (np:Int->ah) (s:Nat) (k:Int):T (Option ah) :=
 .aE (decide (0<=k /\ k<=1024 /\ (85:Int)=85)) (.aE (decide (np k).Ok) (.ite (decide ((np k).bM (Ap 24 (dZ 1)))) (ain tI tN (.aD none) s ((np k).aV (Ap 24 (dZ 1))).2 fun p=>.aD (some p)) (ain tI tN (.aD none) s (np k) fun p=>.aD (some p))))
theorem ait (σ:Sg) (np:Int->ah) (k:Int):Ei σ np 1 k=Fp np 1 k:=by kernel_rfl
theorem ais (σ:Sg) (np:Int->ah) (k:Int):Ei σ np 2 k=Fp np 2 k:=by kernel_rfl
theorem air (σ:Sg) (np:Int->ah) (k:Int):Ei σ np 3 k=Fp np 3 k:=by kernel_rfl
theorem aiq (σ:Sg) (np:Int->ah) (k:Int):Ei σ np 4 k=Fp np 4 k:=by kernel_rfl
theorem aip (σ:Sg) (np:Int->ah) (k:Int):Ei σ np 5 k=Fp np 5 k:=by kernel_rfl
def RV (XK:Int->Int->Bool) (ld:Int->Int->ah) (args:List SV) (l:List AV):T (SV×List AV×List AV):=match args,l with
 | [.v (.c a),.v (.c b)],[]=>match kL a,kL b with
   | some s,some k=>.aE (XK s k) (.aD (.v (.c (.ptr 7 0)),[],[.gi (ld s k)]))
   | _,_=>.fail "laid"
 | _,_=>.fail "laid"
def MX (s k:Int):ah:=rK s.toNat (jR k.toNat)
def XO (s k:Int):Bool:=decide (1<=s /\ s<=5 /\ 1<=k /\ k<=1024)
theorem Yu (σ:Sg) {s:Nat} {k:Int} (hs:1<=s /\ s<=5) (h1:1<=k) (hk:k<=1024):(Ei σ (fun i=>oo i.toNat) s k).val=some (some (rK s (jR k.toNat))):=by
 have e:Ei σ (fun i=>oo i.toNat) s k=Fp (fun i=>oo i.toNat) s k:=by
  rcases (by omega:s=1 \/ s=2 \/ s=3 \/ s=4 \/ s=5) with rfl | rfl | rfl | rfl | rfl
  ·exact ait σ _ k
  ·exact ais σ _ k
  ·exact air σ _ k
  ·exact aiq σ _ k
  ·exact aip σ _ k
 rw [e];have w0:=yj (k:=k.toNat) (by omega);unfold Fp;refine(nv (aaC ⟨by omega,hk,rfl⟩)).trans ((nv (aaC w0.ok)).trans ((oX (aaC (wG w0 (by decide) (by decide)))).trans ?_));exact(RU (k:=k.toNat) (by omega) (by omega) hs).2.2.2
theorem MY:cE Tryz.prog (NV σ) 7 (bJ cL mLd (RV XO MX)):=by
 refine hZ dL (ju _) fun args l v l' nw h hl bZ=>?_;unfold RV at h;split at h
 ·rename_i a b;split at h
  ·rename_i s k ha hb;obtain⟨h1,h⟩:=aC h;obtain⟨s1,s5,k1,k2⟩:=aaF h1;obtain⟨s,rfl⟩:∃n:Nat,s=Int.ofNat n:=⟨s.toNat,by simp;omega⟩;cases h;have hs:1<=s /\ s<=5:=by simp at s1 s5;omega
   obtain⟨y,g1,g2⟩:=dw (Yu σ hs k1 k2);have g2:=Qh g2;subst g2;have hc:=(wK (aH PB (aH ZJ bp)) (M:=mLd) (ju _) (fU rfl) g1).1;exact jh hc fun ρ=>by simp only [aaU,afm,SV.ay,V1.ay,b6 ha ρ,b6 hb ρ];rfl
  ·cases h
 ·cases h
end
section
open Go Go.Sx Go.Proofs
variable {σ:Sg}
theorem Hu {cL:AV->Nat->Bool} {M:List Bool} {t1 t2:List SV->List AV->T (SV×List AV×List AV)} (h:∀args l r,(t2 args l).val=some r->(t1 args l).val=some r) {args:List SV} {H:Hp AV} {r:SV×Hp AV} (h2:(bJ cL M t2 args H).val=some r):(bJ cL M t1 args H).val=some r:=by
 unfold bJ at h2 ⊢;split at h2
 ·cases h2
 ·dsimp only at h2 ⊢;split at h2
  ·obtain⟨y,g1,g2⟩:=T.bq h2;rw [T.oC,h _ _ _ g1];exact g2
  ·cases h2
theorem BB {f:FuncId} {M:List Bool} {t1 t2:List SV->List AV->T (SV×List AV×List AV)} (hf:cE Tryz.prog (NV σ) f (bJ cL M t1)) (h:∀args l r,(t2 args l).val=some r->(t1 args l).val=some r):cE Tryz.prog (NV σ) f (bJ cL M t2) :=
 fun args H v H' h2=>hf args H v H' (Hu h h2)
structure U4 where
 XK:Int->Int->Bool
 ld:Int->Int->ah
 Ax:Int×Int×Int×Int×Int->Bool
 mv:Int×Int×Int×Int×Int->aA
 okk:aA->Bool
 OD:aA->O->Bool
 XL:aA->O->Bool
 gv:aA->O->aA
 qM:aA->ah->Bool
 sr:aA->ah->uf
 sv:aA->ah->aA
 sp:aA->ah->ah
def adm (σ:Sg) (F:U4) (args:List SV) (l:List AV):T (SV×List AV×List AV):=match args,l with
 | [.v (.c (.ptr 7 0)),a],[.rE v]=>match BZ.jm [a] with
   | some o=>.aE (F.okk v) (.ite (!F.OD v o) (.aD (.v (zZ σ QF),[.rE v],[])) (.aE (F.XL v o) (.aD (.v (.c .fL),[.rE (F.gv v o)],[]))))
   | none=>.fail "Give"
 | _,_=>.fail "Give"
def abu (F:U4) (args:List SV) (l:List AV):T (SV×List AV×List AV):=match args,l with
 | [.v (.c (.ptr 7 0)),.v (.c (.ptr 8 0))],[.rE v,.gi p]=>.aE (F.qM v p) (.aD (.iW [Wm (F.sr v p),.c .fL],[.rE (F.sv v p),.gi (F.sp v p)],[]))
 | _,_=>.fail "Step"
def CH:U4 where
 XK:=XO
 ld:=MX
 Ax:=Gj
 mv:=qc
 okk v:=iI (CO v /\ v.aO=0)
 OD v o:=dU v.sort o
 XL v o:=iI (EE v o)
 gv:=dx
 qM v p:=iI (v.aO≠0 /\ p.Ok /\ p.bM (gw v.aP).1 /\ XM v p)
 sr v p:=(bo v p).1
 sv v p:=(bo v p).2.1
 sp v p:=(bo v p).2.2
theorem Zi (args:List SV) (l:List AV) (r:SV×List AV×List AV) (h:(adm σ CH args l).val=some r):(NA σ args l).val=some r:=by
 unfold adm at h;split at h
 ·split at h
  ·rename_i o h0;obtain⟨h1,h⟩:=aC h;obtain⟨k1,k2⟩:=fv h1;simp only [NA,h0];rw [nv (fh k1),oY (by rw [k2];rfl)];exact h
  ·cases h
 ·cases h
theorem Wo (args:List SV) (l:List AV) (r:SV×List AV×List AV) (h:(abu CH args l).val=some r):(LO σ args l).val=some r:=by
 unfold abu at h;split at h
 ·rename_i v p;obtain⟨h1,h⟩:=aC h;obtain⟨k1,k2,k3,k4⟩:=fv h1;simp only [LO];rw [oY (by simpa using k1),nv (aaC k2),oX (aaC k3),nv (fh k4)];exact h
 ·cases h
theorem aje:cE Tryz.prog (NV σ) 9 (bJ cL mGv (adm σ CH)):=BB Sc Zi
theorem ag8:cE Tryz.prog (NV σ) 11 (bJ cL Yd (abu CH)):=BB Q2 Wo
end
section
open Go Go.Sx Go.Proofs AH
variable {σ:Sg}
theorem KU {v:aA} {r:Ex×aA} (h:(cd v).val=some r):r.2.op=v.op /\ (v.aO≠4->r.2.aO≠4):=by
 have lf:∀{x:Ex×aA},(GN x).val=some r->x.2.op=v.op->(v.aO≠4->x.2.aO≠4)->r.2.op=v.op /\ (v.aO≠4->r.2.aO≠4):=fun {x} h h1 h2=>by cases h;exact⟨h1,h2⟩
 have ci:∀{b:Bool} {t e:T (Ex×aA)},(tI b t e).val=some r->t.val=some r \/ e.val=some r:=fun {b t e} h=>by cases b;exact .inr h;exact .inl h
 have c0:(match v.cF with | none=>T.fail "no job" | some j=>tN j.ok (fM tI tN GN GW v (j.next v.aP.bD))).val=some r->r.2.op=v.op /\ (v.aO≠4->r.2.aO≠4):=fun h=>by
  split at h
  ·cases h
  ·obtain⟨_,h⟩:=aC h;unfold fM at h;rcases ci h with h | h<;>(obtain⟨_,h⟩:=aC h;cases h;exact⟨rfl,fun _=>by first | (show (2:Int)≠4;decide) | (show (3:Int)≠4;decide)⟩)
 unfold cd eF at h;rcases ci h with h | h
 ·rcases ci h with h | h
  ·rcases ci h with h | h
   ·rcases ci h with h | h
    ·exact c0 h
    ·exact lf h rfl fun _=>by show (0:Int)≠4;decide
   ·rcases ci h with h | h
    ·exact c0 h
    ·exact lf h rfl fun _=>by show (0:Int)≠4;decide
  ·exact lf h rfl id
 ·exact lf h rfl id
theorem R0:∀{k:Nat} {v v':aA} {e:Ex},dK cd k v=some (e,v')->v'.op=v.op /\ (v.aO≠4->v'.aO≠4)
 | 0,_,_,_,h=>by cases h
 | k+1,v,v',e,h=>by
   unfold dK at h;split at h
   ·rename_i m hm;obtain⟨a,b⟩:=KU hm;obtain⟨a',b'⟩:=R0 h;exact⟨a'.trans a,fun h=>b' (b h)⟩
   ·rename_i i m hm;cases h;exact KU hm
   ·rename_i m hm;cases h;exact KU hm
   ·cases h
theorem IF {v:aA} {o:O} (pf:tz (CU bj v.sort.toNat v o)=true):(dx v o).op=o /\ (dx v o).aO≠4:=by obtain⟨a,b⟩:=R0 (kJ pf);exact⟨a,b (by show (1:Int)≠4;decide)⟩
theorem Wn (v:aA) (p:ah):∃r:Int,(-1<=r /\ r<=1) /\ (bo v p).1=cond ((bo v p).2.1.aO==0) ⟨true,(bo v p).2.1.answer.mZ,(bo v p).2.1.answer.val,r⟩ ⟨false,0,0,r⟩:=by
 let P:uf×aA×ah->Prop:=fun x=>∃r:Int,(-1<=r /\ r<=1) /\ x.1=cond (x.2.1.aO==0) ⟨true,x.2.1.answer.mZ,x.2.1.answer.val,r⟩ ⟨false,0,0,r⟩;have one:∀r:Int,(-1<=r /\ r<=1)->P (mJ cond (fun _ t=>t) (fun s v'=>(s,v',(p.aV (gw v.aP).1).2)) (fun _=>true) jI (eO v p) r):=fun r hr=>by
  unfold mJ;cases hd:((jI (eO v p)).aO==0) with
  | true=>exact⟨r,hr,by show (⟨true,_,_,r⟩:uf)=cond ((jI (eO v p)).aO==0) _ _;rw [hd];rfl⟩
  | false=>exact⟨r,hr,by show (⟨false,0,0,r⟩:uf)=cond ((jI (eO v p)).aO==0) _ _;rw [hd];rfl⟩
 have c:∀{b:Bool} {x y:uf×aA×ah},P x->P y->P (cond b x y):=fun {b x y} h1 h2=>by cases b<;>assumption
 show P (bo v p);unfold bo lW
 repeat' first | exact one _ (by decide) | apply c
theorem ah9 {s:Nat} (hs:s=1 \/ s=2 \/ s=3 \/ s=4 \/ s=5) {c c':aY} {o:O} {a:An} (h1:c'.st=c.st) (hm:Ov s c o a c'):c'=A9 c o a:=by
 obtain⟨k,ky,va,ta⟩:=o;obtain⟨st',U9,ps'⟩:=c';have h1:st'=c.st:=h1;subst h1;have key:∀{vs ps},U9=vs->ps'=ps->A9 c ⟨k,ky,va,ta⟩ a=⟨c.st,vs,ps⟩->(⟨c.st,U9,ps'⟩:aY)=A9 c ⟨k,ky,va,ta⟩ a:=fun {vs ps} e1 e2 e3=>by rw [e1,e2,e3]
 have map:∀{ps'},U9=c.aT->akg c.aX ⟨k,ky,va,ta⟩ a ps'->(⟨c.st,U9,ps'⟩:aY)=A9 c ⟨k,ky,va,ta⟩ a:=fun {ps'} e hm=>by
  rw [e];rcases hm with⟨k6,⟨_,rfl,rfl⟩ | ⟨_,rfl,rfl⟩ | ⟨rfl,rfl⟩⟩ | ⟨_,_,rfl,rfl⟩ | ⟨x,_,rfl,⟨k7,rfl⟩ | ⟨k8,rfl⟩⟩
  ·have k6:k=6:=k6;subst k6;rfl
  ·rfl
  ·rfl
  ·rfl
  ·have k7:k=7:=k7;subst k7;rfl
  ·have k8:k=8:=k8;subst k8;rfl
 rcases hs with rfl | rfl | rfl | rfl | rfl
 ·obtain⟨e,hm⟩:=hm;have e:ps'=c.aX:=e;rcases hm with⟨k1,⟨rfl,e1⟩ | ⟨rfl,e1⟩⟩ | ⟨_,h0,rfl,e1⟩ | ⟨x,r,h0,rfl,⟨k2,e1⟩ | ⟨k3,e1⟩⟩
  ·have k1:k=1:=k1;subst k1;exact key e1 e rfl
  ·exact key e1 e rfl
  ·exact key (e1.trans h0.symm) e rfl
  ·have k2:k=2:=k2;subst k2;refine key (e1.trans (Fo h0).2.2.symm) e rfl
  ·have k3:k=3:=k3;subst k3;exact key e1 e rfl
 ·obtain⟨e,hm⟩:=hm;have e:ps'=c.aX:=e;rcases hm with⟨k1,⟨rfl,e1⟩ | ⟨rfl,e1⟩⟩ | ⟨k5,⟨h0,rfl,e1⟩ | ⟨x,r,h0,rfl,e1⟩⟩
  ·have k1:k=4:=k1;subst k1;exact key e1 e rfl
  ·exact key e1 e rfl
  ·exact key (e1.trans h0.symm) e rfl
  ·have k5:k=5:=k5;subst k5;have e1:U9=r:=e1;have:c.aT.drop 1=r:=by rw [h0];rfl
   exact key (e1.trans this.symm) e rfl
 all_goals exact map hm.1 hm.2
def opG (args:List SV) (l:List AV):T (SV×List AV×List AV):=match args,l with
 | [.v (.c (.ptr 7 0))],[.rE v]=>.aE (decide (v.aO≠0 /\ v.aO≠4)) (.aD (.iW [.agg [.it .i64 v.op.aj,.it .i64 v.op.key,.it .i64 v.op.val,.it .i64 v.op.bI],.c (.bt true)],[.rE v],[]))
 | _,_=>.fail "Op"
def opZ:SV:=.iW [.agg [.it .i64 0,.it .i64 0,.it .i64 0,.it .i64 0],.c (.bt false)]
def afp (σ:Sg) (v:aA):T (SV×List AV×List AV):=Pg σ b9 17 bS [.v (.c (.ptr 7 0))] [iG v] (gk AV.len qJ (aA.wr v))
theorem ahQ (σ:Sg) (v:aA):afp σ v=.ite ((!(v.aO != 0))==false) (.ite (v.aO==4) (.aE true (.aD (opZ,[iG v],[]))) (.aE true (.aD (.iW [.agg [.it .i64 v.op.aj,.it .i64 v.op.key,.it .i64 v.op.val,.it .i64 v.op.bI],.c (.bt true)],[iG v],[])))) (.aE true (.aD (opZ,[iG v],[]))):=by obtain⟨so,en,ri,dg,cl,op,cF,an⟩:=v;rcases cF with _ | ⟨j | j | j | j | j⟩<;>as_aux_lemma=>kernel_rfl
theorem am8:cE Tryz.prog (NV σ) 17 (bJ cL bS opG):=by
 refine hZ dL rfl fun args l v l' nw h hl bZ=>?_;unfold opG at h;split at h
 ·rename_i w;obtain⟨h1,h⟩:=aC h;obtain⟨d0,d4⟩:=aaF h1;have h2:(afp σ w).val=some (v,l',nw):=(congrArg T.val (ahQ σ w)).trans ((oX (by simpa using d0)).trans ((oY (by simpa using d4)).trans ((nv rfl).trans h)));exact(JS bp (σ:=σ) (M:=bS) rfl (a:=iG w) (l:=[]) (K:=gk AV.len qJ (aA.wr w)) rfl ⟨_,rfl⟩ rfl bZ h2).1
 ·cases h
def ajC (args:List SV) (l:List AV):T (SV×List AV×List AV):=match args,l with
 | [.v (.c (.ptr 7 0))],[.gi p]=>.aE (match p.fault with | none=>true | some _=>false) (.aD (.v (.c .fL),[.gi p],[]))
 | _,_=>.fail "Fault"
theorem auz (σ:Sg) (b:List W) (sl:List Sl) (fr:List N1) (st md:Int):Pg σ b9 19 bS [.v (.c (.ptr 7 0))] [.gi ⟨b,sl,fr,st,md,none⟩] (tH σ ⟨b,sl,fr,st,md,none⟩) =
 .aE (decide (b.length=b.length)) (.aE (decide (sl.length=sl.length)) (.aE (decide (fr.length=fr.length)) (.aE true (.aD (.v (.c .fL),[.gi ⟨b,sl,fr,st,md,none⟩],[]))))):=by kernel_rfl
theorem ajB:cE Tryz.prog (NV σ) 19 (bJ cL bS ajC):=by
 refine hZ dL rfl fun args l v l' nw h hl bZ=>?_;unfold ajC at h;split at h
 ·rename_i p;obtain⟨h1,h⟩:=aC h;obtain⟨b,sl,fr,st,md,fa⟩:=p;cases fa with
  | some f=>cases h1
  | none =>have h2:=(congrArg T.val (auz σ b sl fr st md)).trans ((nv (aaC rfl)).trans ((nv (aaC rfl)).trans ((nv (aaC rfl)).trans ((nv rfl).trans h))));exact(JS bp (σ:=σ) (M:=bS) rfl (a:=.gi ⟨b,sl,fr,st,md,none⟩) (l:=[]) (K:=tH σ ⟨b,sl,fr,st,md,none⟩) rfl ⟨_,rfl⟩ rfl bZ h2).1
 ·cases h
def ahs (σ:Sg) (args:List SV) (l:List AV):T (SV×List AV×List AV):=match args,l with
 | [.v (.c (.ptr 7 0))],[.rE v]=>.aE (v.aO != 0) (.aD (.v (zZ σ KY),[.rE v],[]))
 | _,_=>.fail "Scan"
theorem ahr:cE Tryz.prog (NV σ) 13 (bJ cL mSc (ahs σ)):=by
 refine hZ dL (ju _) fun args l x l' nw h hl bZ=>?_;unfold ahs at h;split at h
 ·rename_i v;obtain⟨h1,h⟩:=aC h;cases h;have hv:(B9 σ Lb (pF 0) v).val=some (some (.v (zZ σ KY),v)):=by rw [abF];unfold LW;exact(oX h1).trans ((nv rfl).trans rfl)
  obtain⟨y,g1,g2⟩:=dw hv;rw [I6 g2] at g1;exact tZ (uS nO (CJ VW) (ju _) (a:=iG v) (K:=gk AV.len qJ (aA.wr v)) ⟨_,rfl⟩ (fun L S w hq=>(uZ (N:=iu jE σ) rfl (by exact rfl) rfl L S w).1 hq) bZ g1).1
 ·cases h
end
section
open Go Go.Sx Go.Proofs
variable {σ:Sg}
structure qE where
 a0:Int
 a1:Int
 a2:Int
 a3:Int
 bY:List O
 no:Nat
def afH (x:qE):List Cell:=[.it .i64 x.a0,.it .i64 x.a1,.it .i64 x.a2,.it .i64 x.a3]
def ev0 (x:qE) (i:Int):Ev:=[(1,.v (.c (.vs 7 0 x.no 4 false))),(6,.v (.c (.ptr 9 0))),(7,.v (.c (.ptr 10 0))),(9,.v (.c (.it .i64 i)))]
structure MI where
 k:Nat
 p:ah
 v:aA
structure LpI (n:Nat) (e C:Int) (R:Nat) (s:Int) (Q:An->AH->Prop) (B K0:Nat) (m:MI):Prop where
 kb:m.k<=B
 wf:m.v.WF n (K0+17 * m.k)
 nK:m.v.nK
 pl:m.p.WF n
 hd:Hd (s==2) m.p
 so:m.v.sort=s
 st:StN n (Dn n e C R s Q) (B - m.k) m.v m.p
def nxI (m:MI):MI:=⟨m.k+1,(bo m.v m.p).2.2,(bo m.v m.p).2.1⟩
section
variable {n:Nat} {e C:Int} {R:Nat} {s:Int} {Q:An->AH->Prop} {B K0:Nat} {m:MI}
theorem acv (h:LpI n e C R s Q B K0 m) (hK:K0+17 * B+17<=100000) (hb:m.v.aO≠0):CH.qM m.v m.p=true /\ m.k < B /\ LpI n e C R s Q B K0 (nxI m):=by
 have hlt:m.k < B:=by
  rcases Nat.lt_or_ge m.k B with h1 | h1
  ·exact h1
  ·have h2:=h.st;rw [show B - m.k=0 by omega] at h2;exact absurd h2.1 hb
 have hk:=h.kb;have hd2:Hd (m.v.sort==2) m.p:=by rw [h.so];exact h.hd
 obtain⟨s1,s2,s3,s4,s5,s6,s7⟩:=ag7 (by omega) h.wf h.nK hb h.pl hd2;refine⟨fh ⟨hb,h.pl.ok,s2,s1⟩,hlt,hlt,?_,s4,s6,by rw [<- h.so];exact s7,s5.trans h.so,?_⟩
 ·show aA.WF n (K0+17 * (m.k+1)) _;rw [show K0+17 * (m.k+1)=K0+17 * m.k+17 by omega];exact s3
 ·have h2:=h.st;rw [show B - m.k=(B - (m.k+1))+1 by omega] at h2;rcases h2 with⟨h3,_⟩ | ⟨_,h3⟩
  ·exact absurd h3 hb
  ·exact h3 s1.2 s6
theorem RN (h:LpI n e C R s Q B K0 m) (hb:m.v.aO=0):Dn n e C R s Q m.v m.p:=by
 have h2:=h.st;generalize B - m.k=j at h2;cases j with
 | zero=>exact h2.2
 | succ j =>
   rcases h2 with⟨_,q⟩ | ⟨h3,_⟩
   ·exact q
   ·exact absurd hb h3
def ahv:Nat->MI->MI
 | 0,m=>m
 | f+1,m=>cond (Oe m.v) (ahv f (nxI m)) m
end
section
variable {n:Nat} {e C:Int} {R:Nat} {s:Int} {Q:An->AH->Prop} {K0 B:Nat}
end
end
section
open Go Go.Sx Go.Proofs
variable {σ:Sg}
def apC (p:ah) (v:aA):MI:=ahv 3911 ⟨0,p,v⟩
def apB (q:Int) (p:ah) (v:aA):MI:=ahv (9+q.toNat) ⟨0,p,v⟩
end
section
open Go Go.Sx Go.Proofs
variable {σ:Sg}
def lD (x:qE) (i:Int):O:=let o:=x.bY.getD (0+i.toNat) CR.bK;⟨o.aj,o.key,o.val,o.bI⟩
end
section
open Go Go.Sx Go.Proofs
variable {σ:Sg}
theorem agD {n:Int} {K K':Nat} {v:aA} (h:v.WF n K) (hn:v.aP.notes.length<=K'):v.WF n K':=by have b:=h.aP.b;exact⟨h.kj,h.dg,⟨⟨b.Dz,b.me,b.nA,b.holds,b.notes,hn,b.word,b.seen⟩,h.aP.call,h.aP.acc,h.aP.st⟩,h.call,h.acU,h.cF⟩
theorem Kz {s:Int} {o:O} (h:dU s o=true):aki s.toNat o:=by
 rcases Se h with⟨rfl,hk⟩ | ⟨rfl,hk⟩ | ⟨hs,hk,k0,k1,ht⟩
 ·exact⟨fun _=>hk,fun e=>absurd e (by decide),fun e=>absurd e (by decide),fun e=>absurd e (by decide)⟩
 ·exact⟨fun e=>absurd e (by decide),fun _=>hk,fun e=>absurd e (by decide),fun e=>absurd e (by decide)⟩
 ·refine⟨fun e=>by omega,fun e=>by omega,fun _=>⟨hk,k0,k1⟩,fun e h6=>⟨?_,ht h6⟩⟩;have e:s=5:=by omega
  subst e;have h:cond (vY o) false true=true:=h;cases hb:vY o with
  | true=>rw [hb] at h;cases h
  | false =>unfold vY at hb;rw [Oh (by unfold vY;exact hb),h6] at hb;have hb:decide (o.bI < 1)=false:=hb;have:=aaL hb;omega
structure SvI (s e:Int) (n i:Nat) (v:aA) (p:ah):Prop where
 so:v.sort=s
 wf:v.WF n 100
 nK:v.nK
 pl:p.WF n
 hd:Hd (s==2) p
 dg:v.aO=0
 q:∃N h,RQ e N v.aP /\ EB n (1+3 * (i:Int)) N p h /\ N.length<=i /\ aeA s.toNat i h
section
variable {s e:Int} {n i:Nat} {v:aA} {p:ah} {o:O}
end
def ra (p:ah) (v:aA) (o:O):MI:=apC p (dx v o)
def rb (r:MI):MI:=apB (r.v.aP.notes.length:Nat) r.p (amL r.v)
section
variable {s e:Int} {n i:Nat} {v:aA} {p:ah} {o:O}
end
structure MO where
 i:Nat
 p:ah
 v:aA
def anY (s e:Int) (n:Nat) (x:qE) (m:MO):Prop:=m.i<=x.bY.length /\ x.bY.length<=40 /\ SvI s e n m.i m.v m.p
def asm (s:Int) (o:O) (m:MO):MO:=cond (dU s o) ⟨m.i+1,(rb (ra m.p m.v o)).p,(rb (ra m.p m.v o)).v⟩ ⟨m.i+1,m.p,m.v⟩
def O8 (s e:Int) (n:Nat) (x:qE) (m:MO):T (Ex×MO):=.aE (iI (anY s e n x m)) (.aD (if m.i < x.bY.length then(.normal,asm s (lD x m.i) m) else(.exit 0,m)))
section
variable {s e:Int} {n:Nat} {x:qE}
end
end
section
open Go Go.Sx Go.Proofs AH
variable {σ:Sg}
def A12:Code:=jv 12 (cQ (eG Tryz.f5))
def A24:Code:=jv 24 (cQ (eG Tryz.f5))
def Uo (x:qE) (p:ah) (v:aA) (c:aY):Hp AV:=iQ Al [.J3 x.bY]++[some (.cells (afH x) 44),some (.bN (.gi p)),some (.bN (.rE v)),some (.bN (.cre c))]
def evA (x:qE) (s i:Int):Ev:=[(1,.v (.c (.vs 7 0 x.no 4 false))),(5,.v (.c (.it .i64 s))),(6,.v (.c (.ptr 9 0))),(7,.v (.c (.ptr 10 0))),(9,.v (.c (.ptr 11 0))),(11,.v (.c (.it .i64 i)))]
def Ue:List Nat:=[1,5,6,7,9,11]
def zV (x:qE) (s i:Int) (p:ah) (v:aA) (c:aY):Sx.St AV:={E:=only Ue (evA x s i) 212,H:=Uo x p v c}
def Ud:List Nat:=[1,5,6,7,9,11,15,16,17]
def opC (o:O):List Cell:=[.it .i64 o.aj,.it .i64 o.key,.it .i64 o.val,.it .i64 o.bI]
def Y2 (x:qE) (p:ah) (v:aA) (c:aY) (o:O):Hp AV:=Uo x p v c++[some (.cells (opC o) 34)]
def vO (x:qE) (s i r:Int) (ov:Bool) (k:Int) (p:ah) (v:aA) (c:aY) (o:O):Sx.St AV:={E:=only Ud (evA x s i++[(15,.v (.c (.it .i64 r))),(16,.v (.c (.bt ov))),(17,.v (.c (.it .i64 k)))]) 212,H:=Y2 x p v c o}
structure MyG where
 ok:aY->O×An->Bool
 nx:aY->O×An->aY
def QY (F:U4) (G:MyG):m7:=br 11 (bJ cL Yd (abu F)) (br 18 (bJ cL mMy (fS aMy C5 Pv (fun c x=>some (G.ok c x)) (fun c x=>(true,G.nx c x)))) b9)
def mgM:MyG:=⟨acf,fun c x=>A9 c x.1 x.2⟩
theorem V6:dH Tryz.prog (NV σ) (QY CH mgM):=aH ag8 (aH acs bp)
abbrev TB:=T (Ex×Sx.St AV)
def aef (s:uf):Bool:=match decide (s.real < -1)==false with
 | true=>(match decide (s.real > 1)==false with | true=>(match (!s.over)==true with | true=>!(s.mZ==0&&s.val==0) | false=>false) | false=>true)
 | false=>true
def al5 (F:U4) (G:MyG) (x:qE) (s i r:Int) (ov:Bool) (k:Int) (p:ah) (v:aA) (c:aY) (o:O):TB :=
 let d:=F.sr v p;let a:O×An:=(lD x i,⟨d.mZ,d.val⟩);let on (r:Int):TB:=.ite (d.over==true) (.aE (decide (0<=i /\ i < (x.no:Int))) (.aE (decide (0+i.toNat < x.bY.length)) (.aE (G.ok c a) (.ite false (.aD (.ret,vO x s i r d.over k (F.sp v p) (F.sv v p) (G.nx c a) o)) (.aD (.normal,vO x s i r d.over (IntKind.wrap .i64 (k+1)) (F.sp v p) (F.sv v p) (G.nx c a) o)))))) (.aD (.normal,vO x s i r d.over (IntKind.wrap .i64 (k+1)) (F.sp v p) (F.sv v p) c o))
 .ite (match decide (k < 20000)==true with | true=>!ov | false=>false)
  (.aE (F.qM v p) (.ite (aef d) (.aD (.ret,vO x s i r ov k (F.sp v p) (F.sv v p) c o)) (.ite (decide (d.real>=0)) (on (IntKind.wrap .i64 (r+1))) (on r))))
  (.aD (.exit 2,vO x s i r ov k p v c o))
theorem avb (σ:Sg) (F:U4) (G:MyG) (x:qE) (s i r:Int) (ov:Bool) (k:Int) (p:ah) (v:aA) (c:aY) (o:O):(xc (NV σ) (bE (lv (NV σ) (QY F G) 8)) (fun _=>none) 212 A24 (vO x s i r ov k p v c o)).bind (ff 13 212 Ud fw)=al5 F G x s i r ov k p v c o:=by kernel_rfl
structure GX where
 k:Nat
 r:Nat
 ov:Bool
 p:ah
 v:aA
 c:aY
def Ry (o:O) (m:GX):GX :=
 ⟨m.k+1,cond (decide ((bo m.v m.p).1.real>=0)) (m.r+1) m.r,(bo m.v m.p).1.over,(bo m.v m.p).2.2,(bo m.v m.p).2.1,cond (bo m.v m.p).1.over (A9 m.c o ⟨(bo m.v m.p).1.mZ,(bo m.v m.p).1.val⟩) m.c⟩
def QA (s:Int) (i:Nat) (c:aY) (o:O) (a:An) (h:AH):Prop:=∃c':aY,c'.st=c.st /\ Ov s.toNat c o a c' /\ As s.toNat (i+1) c' h
def QC (s:Int) (c:aY) (o:O):Prop:=(1<=s /\ s<=5) /\ dU c.st o=true /\ c.aT.length<=1000 /\ (3<=s.toNat->QD c.aX o.key)
structure Vm (n:Nat) (e C:Int) (R:Nat) (s:Int) (i:Nat) (c:aY) (o:O) (m:GX):Prop where
 lp:LpI n e C R s (QA s i c o) 3911 117 ⟨m.k,m.p,m.v⟩
 ov:m.ov=(m.v.aO==0)
 c0:m.ov=false->m.c=c
 c1:m.ov=true->m.c=A9 c o m.v.answer
 rl:RlN n (7 - m.k) m.v m.p \/ 1<=m.r
 rk:m.r<=m.k
section
variable {n:Nat} {e C:Int} {R:Nat} {s:Int} {i:Nat} {c:aY} {o:O} {m:GX}
theorem SK (hp:QC s c o) {a:An} {h:AH} (q:QA s i c o a h):aev c o a /\ As s.toNat (i+1) (A9 c o a) h:=by
 obtain⟨c',e1,e2,e3⟩:=q;obtain⟨hs,hf,hl,ho⟩:=hp;have Dv:s.toNat=1 \/ s.toNat=2 \/ s.toNat=3 \/ s.toNat=4 \/ s.toNat=5:=by omega
 have e:=ah9 Dv e1 e2;subst e;exact⟨⟨s.toNat,Dv,e2,hf,hl,ho⟩,e3⟩
theorem vB (hp:QC s c o) (h:Vm n e C R s i c o m) (hov:m.ov=false) :
 CH.qM m.v m.p=true /\ m.k < 3911 /\ aef (bo m.v m.p).1=false /\ ((bo m.v m.p).1.over=true->acf m.c (o,⟨(bo m.v m.p).1.mZ,(bo m.v m.p).1.val⟩)=true) /\ Vm n e C R s i c o (Ry o m):=by
 have hd:m.v.aO≠0:=by have:=h.ov;rw [hov] at this;simpa using this.symm
 obtain⟨o1,o2,o3⟩:=acv h.lp (by decide) hd;have o3:LpI n e C R s (QA s i c o) 3911 117 ⟨m.k+1,(bo m.v m.p).2.2,(bo m.v m.p).2.1⟩:=o3;obtain⟨r,hr,hs⟩:=Wn m.v m.p;have ec:=h.c0 hov;refine⟨o1,o2,?_⟩;have Vf:RlN n (7 - (m.k+1)) (bo m.v m.p).2.1 (bo m.v m.p).2.2 \/ 1<=(Ry o m).r:=by
  rcases h.rl with h1 | h1
  ·by_cases h7:m.k < 7
   ·rw [show 7 - m.k=(7 - (m.k+1))+1 by omega] at h1;rcases h1.2 with h2 | h2
    ·refine .inr ?_;show 1<=cond (decide ((bo m.v m.p).1.real>=0)) (m.r+1) m.r;rw [aaC (show (bo m.v m.p).1.real>=0 from h2)];exact Nat.succ_pos _
    ·exact .inl (h2 (fv o1).2.2.2.2 o3.pl)
   ·rw [show 7 - m.k=0 by omega] at h1;exact h1.elim
  ·refine .inr ?_;show 1<=cond (decide ((bo m.v m.p).1.real>=0)) (m.r+1) m.r;cases decide ((bo m.v m.p).1.real>=0)
   ·exact h1
   ·exact Nat.succ_pos _
 have hrk:(Ry o m).r<=m.k+1:=by
  show cond (decide ((bo m.v m.p).1.real>=0)) (m.r+1) m.r<=m.k+1;have:=h.rk;cases decide ((bo m.v m.p).1.real>=0)
  ·show m.r<=_;omega
  ·show m.r+1<=_;omega
 cases hw:(bo m.v m.p).2.1.aO==0 with
 | false =>
   rw [hw] at hs;have hs:(bo m.v m.p).1=⟨false,0,0,r⟩:=hs;refine⟨?_,fun hh=>(by rw [hs] at hh;cases hh),o3,?_,fun _=>?_,fun hh=>?_,Vf,hrk⟩
   ·rw [hs];unfold aef;dsimp only;rw [aaK (by omega),aaK (by omega)];rfl
   ·show (bo m.v m.p).1.over=((bo m.v m.p).2.1.aO==0);rw [hw,hs]
   ·show cond (bo m.v m.p).1.over _ m.c=c;rw [hs];exact ec
   ·have hh:(bo m.v m.p).1.over=true:=hh;rw [hs] at hh;cases hh
 | true =>
   rw [hw] at hs;have hs:(bo m.v m.p).1=⟨true,(bo m.v m.p).2.1.answer.mZ,(bo m.v m.p).2.1.answer.val,r⟩:=hs;have hdd:(bo m.v m.p).2.1.aO=0:=by simpa using hw
   obtain⟨N,g,_,_,q⟩:=(RN o3 hdd).q;obtain⟨mo,_⟩:=SK hp q;refine⟨?_,fun _=>?_,o3,?_,fun hh=>?_,fun _=>?_,Vf,hrk⟩
   ·rw [hs];unfold aef;dsimp only;rw [aaK (by omega),aaK (by omega)];rfl
   ·rw [hs,ec];exact fh mo
   ·show (bo m.v m.p).1.over=((bo m.v m.p).2.1.aO==0);rw [hw,hs]
   ·have hh:(bo m.v m.p).1.over=false:=hh;rw [hs] at hh;cases hh
   ·show cond (bo m.v m.p).1.over (A9 m.c o ⟨(bo m.v m.p).1.mZ,(bo m.v m.p).1.val⟩) m.c=A9 c o (bo m.v m.p).2.1.answer;rw [hs,ec];rfl
def Ej (o:O):Nat->GX->GX
 | 0,m=>m
 | f+1,m=>cond m.ov m (Ej o f (Ry o m))
def D5 (n:Nat) (e C:Int) (R:Nat) (s:Int) (i:Nat) (c:aY) (o:O) (m:GX):T (Ex×GX):=.aE (iI (Vm n e C R s i c o m)) (.aD (cond m.ov (.exit 2,m) (.normal,Ry o m)))
theorem aiA (hp:QC s c o):∀{f:Nat} {m:GX},m.k+f=3911->Vm n e C R s i c o m->dK (D5 n e C R s i c o) (f+1) m=some (.exit 2,Ej o f m) /\ Vm n e C R s i c o (Ej o f m) /\ (Ej o f m).ov=true
 | 0,m,hk,h=>by
   have ho:m.ov=true:=by
    cases ho:m.ov with
    | true=>rfl
    | false=>have:=(vB hp h ho).2.1;omega
   refine⟨?_,h,ho⟩;rw [dK,D5,nv (fh h),ho];rfl
 | f+1,m,hk,h=>by
   rw [dK,D5,nv (fh h),Ej];cases ho:m.ov with
   | true=>exact⟨rfl,h,ho⟩
   | false=>exact aiA hp (f:=f) (m:=Ry o m) (by show m.k+1+f=3911;omega) (vB hp h ho).2.2.2.2
def NP (x:qE) (s i:Int) (o:O) (m:GX):Sx.St AV:=vO x s i (m.r:Int) m.ov (m.k:Int) m.p m.v m.c o
theorem aes (σ:Sg) (x:qE) (hx:x.no=x.bY.length) (hi:i < x.bY.length) (hl:x.bY.length<=40) (st:Int) (hp:QC s c (lD x i)) (m:GX) (r:Ex×GX) (h:(D5 n e C R s i c (lD x i) m).val=some r) :
 ((xc (NV σ) (bE (lv (NV σ) (QY CH mgM) 8)) (fun _=>none) 212 A24 (NP x st i (lD x i) m)).bind (ff 13 212 Ud fw)).val=some (r.1,NP x st i (lD x i) r.2):=by
 obtain⟨hb,h⟩:=aC (h:(T.aE _ _).val=_);have hv:=fv hb;have hkb:=hv.lp.kb;have hrk:=hv.rk;have hkb:m.k<=3911:=hkb;cases h;show ((xc (NV σ) _ _ 212 A24 (vO x st i m.r m.ov m.k m.p m.v m.c (lD x i))).bind _).val=_;rw [avb];unfold al5;dsimp only;cases ho:m.ov with
 | true =>
   refine(oY ?_).trans ?_
   ·rw [aaC (show (m.k:Int) < 20000 by omega)];rfl
   ·show some (Ex.exit 2,vO x st i m.r true m.k m.p m.v m.c (lD x i))=some (Ex.exit 2,vO x st i m.r m.ov m.k m.p m.v m.c (lD x i));rw [ho]
 | false =>
   obtain⟨o1,o2,o3,o4,o5⟩:=vB hp hv ho;refine(oX (by rw [aaC (show (m.k:Int) < 20000 by omega)];rfl)).trans ((nv o1).trans ((oY o3).trans ?_))
   have fin:∀r':Nat,(Ry (lD x i) m).r=r'->((.ite ((bo m.v m.p).1.over==true) (.aE (decide (0<=(i:Int) /\ (i:Int) < (x.no:Int))) (.aE (decide (0+(i:Int).toNat < x.bY.length)) (.aE (acf m.c (lD x i,⟨(bo m.v m.p).1.mZ,(bo m.v m.p).1.val⟩)) (.ite false (.aD (.ret,vO x st i r' (bo m.v m.p).1.over m.k (bo m.v m.p).2.2 (bo m.v m.p).2.1 (A9 m.c (lD x i) ⟨(bo m.v m.p).1.mZ,(bo m.v m.p).1.val⟩) (lD x i)))
         (.aD (.normal,vO x st i r' (bo m.v m.p).1.over (IntKind.wrap .i64 ((m.k:Int)+1)) (bo m.v m.p).2.2 (bo m.v m.p).2.1 (A9 m.c (lD x i) ⟨(bo m.v m.p).1.mZ,(bo m.v m.p).1.val⟩) (lD x i)))))))
    (.aD (.normal,vO x st i r' (bo m.v m.p).1.over (IntKind.wrap .i64 ((m.k:Int)+1)) (bo m.v m.p).2.2 (bo m.v m.p).2.1 m.c (lD x i))):TB)).val=some (Ex.normal,NP x st i (lD x i) (Ry (lD x i) m)):=fun r' e=>by
    have ew:IntKind.wrap .i64 ((m.k:Int)+1)=((m.k+1:Nat):Int):=by rw [uh (by omega)];omega
    rw [ew];cases hov:(bo m.v m.p).1.over with
    | true =>refine(oX rfl).trans ((nv (aaC ⟨by omega,by rw [hx];omega⟩)).trans ((nv (aaC (by omega))).trans ((nv (o4 hov)).trans ((oY rfl).trans ?_))));show _=some (Ex.normal,vO x st i ((Ry (lD x i) m).r:Int) (bo m.v m.p).1.over ((m.k+1:Nat):Int) _ _ (cond (bo m.v m.p).1.over _ m.c) _);rw [e,hov];rfl
    | false =>refine(oY rfl).trans ?_;show _=some (Ex.normal,vO x st i ((Ry (lD x i) m).r:Int) (bo m.v m.p).1.over ((m.k+1:Nat):Int) _ _ (cond (bo m.v m.p).1.over _ m.c) _);rw [e,hov];rfl
   show (T.ite (decide ((bo m.v m.p).1.real>=0)) _ _).val=some (Ex.normal,NP x st i (lD x i) (Ry (lD x i) m));cases hr:decide ((bo m.v m.p).1.real>=0) with
   | true =>refine(oX rfl).trans ?_;rw [show IntKind.wrap .i64 ((m.r:Int)+1)=((m.r+1:Nat):Int) by rw [uh (by omega)];omega];exact fin _ (by show cond (decide ((bo m.v m.p).1.real>=0)) (m.r+1) m.r=_;rw [hr];rfl)
   | false =>refine(oY rfl).trans ?_;exact fin _ (by show cond (decide ((bo m.v m.p).1.real>=0)) (m.r+1) m.r=_;rw [hr];rfl)
end
end
section
open Go Go.Sx Go.Proofs AH
variable {σ:Sg}
def vz (v:aA):aA:=⟨v.sort,v.au,v.aP,0,v.call,v.op,v.cF,v.answer⟩
theorem vz_eq {v:aA} (h:v.aO=0):vz v=v:=by unfold vz;rw [<- h]
def apv (x:qE) (st i:Int) (p:ah) (v:aA) (c:aY) (s:Sx.St AV):Prop:=Sx.aJ s.E 1=.v (.c (.vs 7 0 x.no 4 false)) /\ Sx.aJ s.E 5=.v (.c (.it .i64 st)) /\ Sx.aJ s.E 6=.v (.c (.ptr 9 0)) /\ Sx.aJ s.E 7=.v (.c (.ptr 10 0)) /\ Sx.aJ s.E 9=.v (.c (.ptr 11 0)) /\ Sx.aJ s.E 11=.v (.c (.it .i64 i)) /\ Sx.aJ s.E 15=.v (.c (.il .i64 (Int.ofNat 0))) /\ Sx.aJ s.E 16=.v (.c (.bl false)) /\ Sx.aJ s.E 17=.v (.c (.il .i64 (Int.ofNat 0))) /\ s.H=Y2 x p v c (lD x i)
def g24 (x:qE) (e:Int->ah->aA->aY->GX) (k:Int->ah->aA->aY->Prop) (s:Sx.St AV):T (Ex×Sx.St AV):=match Sx.aJ s.E 5,Sx.aJ s.E 11,af s.H 9,af s.H 10,af s.H 11 with
 | .v (.c (.it .i64 st)),.v (.c (.it .i64 i)),some (.bN (.gi p)),some (.bN (.rE v)),some (.bN (.cre c))=>.aE (iI (apv x st i p v c s /\ k i p v c)) (.aD (.exit 2,vO x st i (e i p v c).r true (e i p v c).k (e i p v c).p (vz (e i p v c).v) (e i p v c).c (lD x i)))
 | _,_,_,_,_=>.fail "enter"
def mX (x:qE) (i:Int) (p:ah) (v:aA) (c:aY):GX:=Ej (lD x i) 3911 ⟨0,0,false,p,v,c⟩
def c24 (n:Nat) (e:Int) (x:qE) (i:Int) (p:ah) (v:aA) (c:aY):Prop:=0<=i /\ i.toNat < x.bY.length /\ ∃C R s,QC s c (lD x i) /\ Vm n e C R s i.toNat c (lD x i) ⟨0,0,false,p,v,c⟩
theorem ajy {N':eI AV} (hF:N'.F=(NV σ).F) (hG:N'.G=(NV σ).G) (x:qE) (hx:x.no=x.bY.length) (hl:x.bY.length<=40) (n:Nat) (e:Int):gr Tryz.prog N' 212 A24 (g24 x (mX x) (c24 n e x)):=by
 have cR:gZ Tryz.prog (NV σ) (bE (lv (NV σ) (QY CH mgM) 8)):=dt (mQ sJ uD K7 V6 8);refine eY (N:=NV σ) hF hG sJ cR (lp:=fun _=>none) (fun _ _ _ g hg=>by cases hg) fun s s' ex cM=>?_;obtain⟨E1,H1⟩:=s;unfold g24 at cM;split at cM
 ·rename_i st i p v c _ _ _ _ _
  replace cM:=aC cM
  obtain⟨hb,cM⟩:=cM;obtain⟨⟨e1,e5,e6,e7,e9,Ss,e15,e16,e17,eH⟩,i0,i1,C,R,so,hp,hv⟩:=fv hb;simp only at e1 e5 e6 e7 e9 Ss e15 e16 e17 eH;subst eH;cases cM;obtain⟨i,rfl⟩:∃k:Nat,i=(k:Int):=⟨i.toNat,by omega⟩;have i1:i < x.bY.length:=i1;have hv:Vm n e C R so i c (lD x i) ⟨0,0,false,p,v,c⟩:=hv;obtain⟨it,iv,io⟩:=aiA hp (f:=3911) (m:=⟨0,0,false,p,v,c⟩) rfl hv;have iz:(Ej (lD x i) 3911 ⟨0,0,false,p,v,c⟩).v.aO=0:=by have:=iv.ov;rw [io] at this;simpa using this.symm
  refine⟨{M:=GX,tX:=NP x st i (lD x i),step:=D5 n e C R so i c (lD x i),ks:=Ud,pk:=fw,Aw:=fun d a h=>(by cases h),L:=13,len:=rfl,GV:=(by show 7<=13;decide),run:=aes σ x hx i1 hl st hp,m:=⟨0,0,false,p,v,c⟩,k:=3912,m':=mX x i p v c,Ld:=?_,it:=it,fin:=?_}⟩
  ·have he:=jz (N:=NV σ) (nt:=212) (s:={E:=E1,H:=Y2 x p v c (lD x i)}) (ks:=Ud) (E':=evA x st i++[(15,.v (.c (.it .i64 ((0:Nat):Int)))),(16,.v (.c (.bt false))),(17,.v (.c (.it .i64 ((0:Nat):Int))))]) (l:=[]) (fun a h=>by cases h) (by show 7<=13;decide) fun k hk=>by
    simp only [Ud,aaO,aaR,or_false] at hk;rcases hk with rfl | rfl | rfl | rfl | rfl | rfl | rfl | rfl | rfl
    ·exact .inl e1.symm
    ·exact .inl e5.symm
    ·exact .inl e6.symm
    ·exact .inl e7.symm
    ·exact .inl e9.symm
    ·exact .inl Ss.symm
    ·refine .inr (.inl ⟨?_,?_,fun ρ=>?_⟩)
     ·show Sx.aJ E1 15≠_;rw [e15];exact fun h=>by cases h
     ·exact tu 0
     ·show _=(Sx.aJ E1 15).ay ρ;rw [e15];rfl
    ·refine .inr (.inl ⟨?_,?_,fun ρ=>?_⟩)
     ·show Sx.aJ E1 16≠_;rw [e16];exact fun h=>by cases h
     ·intro c hc;simp [V1.cells] at hc;subst hc;rfl
     ·show _=(Sx.aJ E1 16).ay ρ;rw [e16];rfl
    ·refine .inr (.inl ⟨?_,?_,fun ρ=>?_⟩)
     ·show Sx.aJ E1 17≠_;rw [e17];exact fun h=>by cases h
     ·exact tu 0
     ·show _=(Sx.aJ E1 17).ay ρ;rw [e17];rfl
   exact he
  ·show _=vO x st i (mX x i p v c).r (mX x i p v c).ov (mX x i p v c).k (mX x i p v c).p (mX x i p v c).v (mX x i p v c).c (lD x i);rw [vz_eq (v:=(mX x i p v c).v) iz,show (mX x i p v c).ov=true from io]
 ·cases cM
