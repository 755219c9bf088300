import Derived.Test.YtadmfaohjnjajaaGreatDoorRn
import Derived.Test.YtadmfaohjnjajaaGreatDoorPb
import Derived.Test.YtadmfaohjnjajaaGreatDoorOr
set_option linter.unusedVariables false
set_option linter.unusedSimpArgs false
set_option maxHeartbeats 0
set_option maxRecDepth 100000
noncomputable section
namespace Go.Sx
variable {AV:Type} {P:Program} {N:eI AV}
theorem wu.own {L nt:Nat} {s t:St AV} {π:Nat->Nat} (h:wu N L nt s t π) {ρ:Nm} {w:World} (ho:gF N ρ s.H w):gF N (ρ.cV π) t.H w:=by
 refine⟨⟨fun n c hc=>?_,fun n m c d uv hc hd k hk eh=>?_,fun g hg=>?_⟩,ho.ro.1,fun n c k hc hk=>?_⟩
 ·obtain⟨d,g1,g2⟩:=h.H n c hc;exact Mg.1 ((g2 ρ (π n) w).1 (ho.q _ _ g1))
 ·obtain⟨c',g1,g2⟩:=h.H n c hc;obtain⟨d',g3,g4⟩:=h.H m d hd;rw [<- ph] at hk eh;exact ho.qR (π n) (π m) _ _ (fun e=>uv (h.inj n m c d hc hd e)) g1 g3 k (((g2 ρ (π n) w).2 k).1 hk) (((g4 ρ (π m) w).2 k).1 eh)
 ·show ρ (π g)=g;rw [h.fix g (by have:=h.G;omega)];exact ho.rU g hg
 ·obtain⟨d,g1,g2⟩:=h.H n c hc;rw [<- ph] at hk;exact ho.ro.2 (π n) _ k g1 (((g2 ρ (π n) w).2 k).1 hk)
def C8 (r:SV×Hp AV):Ex×St AV:=(.ret,{E:=only [0] [(0,r.1)] 1,H:=r.2})
theorem ZS {L:Nat} {f:FuncId} {args:List SV} {H H2:Hp AV} {v:SV} (hL:H.length=L) (hG:N.G<=L) (hc:rT P N f args H v H2) {pk:aK AV->Option AV} (Aw:∀d a,pk d=some a->∀π,iM N (d.cV π) (.bN a))
 {v':SV} {H':Hp AV} (hv:v'≠.lU) (hb:(ff L 1 [0] pk (C8 (v,H2))).val=some (C8 (v',H'))):rT P N f args H v' H':=by
 subst hL;obtain⟨_,π,hb⟩:=Gl Aw hG hb;obtain⟨h1,h2,h3⟩:=hc;have e0:v=v'.cV π:=hb.E 0 (by omega) hv;refine⟨hb.cl.E 0,⟨hb.cl.H,trivial⟩,fun ρ w hO=>(h3 ρ w hO).mono ?_⟩;rintro e w' ⟨ρ',rfl,o,ev⟩;refine⟨ρ'.cV π,?_,hb.own o,hb.evo rfl ev⟩;rw [e0,SV.lZ]
theorem ab8 {H:Hp AV} (hC:eX N H) {n:Nat} {l l':List Cell} {ty:TypeId} (hn:af H n=some (.cells l ty)) {a:AV} {es:Nat} {aty:TypeId} (ha:N.F.gb a=some (es,aty,[]))
 (hl:∀ρ ρ':Nm,(∀m,m < H.length->ρ'.L m=ρ.L m)->ρ'.L H.length=⟨0,0,0⟩->aF ρ' l'=aF ρ l) (hG:N.G<=H.length):Ou N H (de H n (some (.cells l' ty))++fA [a]):=fun ρ w hO=>by
 have hlt:=b7 hn;have get:∀m,af (de H n (some (.cells l' ty))++fA [a]) m=if m < H.length then(if m=n then some (.cells l' ty) else af H m) else if m=H.length then some (.bN a) else none:=fun m=>by
  rw [bA,eB];by_cases h1:m < H.length
  ·rw [if_pos h1,if_pos h1];by_cases h2:m=n
   ·subst h2;rw [if_pos rfl,cG _ h1]
   ·rw [if_neg h2,bz _ fun e=>h2 e.symm]
  ·rw [if_neg h1,if_neg h1];by_cases h2:m=H.length
   ·subst h2;rw [if_pos rfl,Nat.sub_self];rfl
   ·rw [if_neg h2];obtain⟨k,hk⟩:∃k,m - H.length=k+1:=⟨m - H.length - 1,by omega⟩;rw [hk];rfl
 let ρ':Nm:=⟨fun m=>if m < H.length then ρ.L m else⟨0,0,0⟩,fun m=>if m < H.length then ρ.S m else fun _=>False⟩;have eL:∀m,m < H.length->ρ'.L m=ρ.L m:=fun m h=>if_pos h;have eS:∀m,m < H.length->ρ'.S m=ρ.S m:=fun m h=>if_pos h;have eL0:ρ'.L H.length=⟨0,0,0⟩:=if_neg (by omega);have eS0:ρ'.S H.length=fun _=>False:=if_neg (by omega);have agr:∀m c,af H m=some c->ρ'.L m=ρ.L m:=fun m c h=>eL m (b7 h);have fp0:∀m c k,af (de H n (some (.cells l' ty))++fA [a]) m=some c->c.fp ρ' m k->∃d,af H m=some d /\ d.fp ρ m k:=fun m c k hc hk=>by
  rw [get] at hc;split at hc
  ·rename_i h1;split at hc
   ·rename_i h2;cases hc;subst h2;rw [cY (eL _ h1) (eS _ h1)] at hk;exact⟨_,hn,hk⟩
   ·rw [cY (eL m h1) (eS m h1)] at hk;exact⟨c,hc,hk⟩
  ·split at hc
   ·rename_i h2;cases hc;subst h2;have hk:ρ'.S H.length k:=hk;rw [eS0] at hk;exact hk.elim
   ·cases hc
 refine⟨ρ',hO.sub ⟨fun m c hc=>?_,fun m m' c d dE hc hd k hk eh=>?_,fun g hg=>?_⟩ fun m c k hc hk=>?_,fun m h=>eL m h,fun m d k hd hk=>?_⟩
 ·rw [get] at hc;split at hc
  ·rename_i h1;split at hc
   ·rename_i h2;cases hc;subst h2;have hq:=hO.q _ _ hn;have e:=hl ρ ρ' eL eL0;have hf:ρ' m=ρ m:=by simp only [Nm.f,eL m h1]
    show w.heap[ρ' m]?=_;rw [hf,e];exact hq
   ·exact o7 (hO.q m c hc) (eL m h1) (eS m h1) (eV (hC.1 m c hc) fun x y hy=>agr x y hy) (fun _ _=>rfl)
  ·split at hc
   ·rename_i h2;cases hc;subst h2;show N.F.q a _ _ _;rw [eL0,eS0];exact((N.F.kZ a _ _ _ ha).2 _ _ _).2 (.inl ⟨acX _,rfl,fun k h=>h⟩)
   ·cases hc
 ·obtain⟨c',h1,h2⟩:=fp0 m c k hc hk;obtain⟨d',h3,h4⟩:=fp0 m' d k hd eh;exact hO.qR m m' c' d' dE h1 h3 k h2 h4
 ·show (ρ'.L g).b=g;rw [eL g (by omega)];exact hO.rU g hg
 ·obtain⟨c',h1,h2⟩:=fp0 m c k hc hk;exact⟨m,c',h1,h2⟩
 ·obtain⟨c',h1,h2⟩:=fp0 m d k hd hk;exact⟨m,c',h1,h2⟩
end Go.Sx

namespace Go.Proofs.YtadmfaohjnjajaaGreatDoor
section
open Go Go.Sx Go.Proofs
abbrev Lp:=FuncId->Nat->Option (St AV->T (Ex×St AV))
def jE:Lp:=fun _ _=>none
def iu (lp:Lp) (σ:Sg):eI AV:={tt:=tt,ft:=ft,gu:=gu,G:=7,F:=F6 σ,hv:=hvG (F6 σ) slT 7,lp:=lp,mt:=mtF,sl:=slT}
variable {σ:Sg} {lp:Lp}
theorem asn:fN Tryz.prog (iu lp σ):=by obtain⟨a,b,c,d,e⟩:=sJ (σ:=σ);exact⟨a,b,c,d,e⟩
theorem as7:U8 Tryz.prog (iu lp σ):=YW aho rfl
theorem kC {N N':eI AV} (hF:N'.F=N.F) (hG:N'.G=N.G) {f:FuncId} {g:List SV->Hp AV->T (SV×Hp AV)} (h:cE Tryz.prog N f g):cE Tryz.prog N' f g:=fun args H v H' hr ha hC=>by obtain⟨h1,h2,h3⟩:=h args H v H' hr ha ⟨hC.1,trivial⟩;refine⟨h1,⟨h2.1,trivial⟩,fun ρ w hO=>(h3 ρ w (oc hF.symm hG.symm hO)).mono ?_⟩;rintro e w' ⟨ρ',he,o,ev⟩;exact⟨ρ',he,oc hF hG o,zW N' ev⟩
theorem adu (qG:fO Tryz.prog (iu lp σ)) {tab:m7} (ht:dH Tryz.prog (iu lp σ) tab) (n:Nat) (f:FuncId):cE Tryz.prog (iu lp σ) f (lv (iu lp σ) tab n (.fn f)):=afE asn qG as7 ht n f
theorem CJ {tab:m7} (h:dH Tryz.prog (NV σ) tab):dH Tryz.prog (iu lp σ) tab:=fun f g hg=>kC (N:=NV σ) (N':=iu lp σ) rfl rfl (h f g hg)
theorem nO:fO Tryz.prog (iu jE σ):=fun f fn c _ _ id b _ g hg=>by cases hg
def jv (id:Nat):List (Nat×Code)->Code
 | []=>.skip
 | (k,c)::r=>match Nat.beq k id with | true=>c | false=>jv id r
def eG (fn:Func):Code:=match fn.body with | some c=>c | none=>.skip
theorem Fb {P:Program} {N N':eI AV} (hF:N'.F=N.F) (hG:N'.G=N.G) {nt:Nat} {c:Code} {g:St AV->T (Ex×St AV)} (h:gr P N nt c g):gr P N' nt c g:=by intro L s s' ex hg hcl hL;obtain⟨h1,h2,h3⟩:=h L s s' ex hg (ub N hcl) hL;refine⟨ub N' h1,h2,fun {ρ a w} bG=>?_⟩;refine wp_mono (h3 ⟨bG.em,oc hF.symm hG.symm bG.own⟩) ?_;rintro e a' w' ⟨he,⟨ρ',e1,o1,v1⟩,d1⟩;exact⟨he,⟨ρ',e1,oc hF hG o1,zW N' v1⟩,d1⟩
def lK (f id:Nat) (g:St AV->T (Ex×St AV)) (lp:Lp):Lp:=fun f'=>match Nat.beq f' f with
 | true=>fun K6=>match Nat.beq K6 id with
   | true=>some g
   | false=>lp f' K6
 | false=>lp f'
theorem lu {f id:Nat} {g:St AV->T (Ex×St AV)} {lp:Lp} (h:fO Tryz.prog (iu lp σ)) {fn:Func} (hf:ft.get f=some fn) {c:Code} (hc:fn.body=some c) {nt:Nat} (hnt:fn.ntmps=nt) {b:Code} (hb:∀x∈cQ c,x.1=id->x.2=b) (hg:gr Tryz.prog (iu lp σ) nt b g):fO Tryz.prog (iu (lK f id g lp) σ):=by
 intro f' fn' c' hf' oU K6 b' OB g' GU;have GU:lK f id g lp f' K6=some g':=GU;have dy:lp f' K6=some g'->gr Tryz.prog (iu (lK f id g lp) σ) fn'.ntmps b' g':=fun h1=>Fb (N:=iu lp σ) (N':=iu (lK f id g lp) σ) rfl rfl (h f' fn' c' hf' oU K6 b' OB g' h1);by_cases e:f'=f
 ·subst e;by_cases e2:K6=id
  ·subst e2;have GU:(match Nat.beq f' f' with
    | true=>fun id=>match Nat.beq id K6 with
      | true=>some g
      | false=>lp f' id
    | false=>lp f') K6=some g':=GU
   simp only [afQ] at GU;cases GU;have hf':ft.get f'=some fn':=hf';rw [hf] at hf';cases hf';rw [hc] at oU;cases oU;have hbb:b'=b:=hb _ OB rfl;rw [hnt,hbb];exact Fb (N:=iu lp σ) (N':=iu (lK f' K6 g lp) σ) rfl rfl hg
  ·refine dy ?_;have GU:(match Nat.beq f' f' with
    | true=>fun K6=>match Nat.beq K6 id with
      | true=>some g
      | false=>lp f' K6
    | false=>lp f') K6=some g':=GU
   simp only [afQ,(bT _ _).2 e2] at GU;exact GU
 ·refine dy ?_;have GU:(match Nat.beq f' f with
   | true=>fun K6=>match Nat.beq K6 id with
     | true=>some g
     | false=>lp f' K6
   | false=>lp f') K6=some g':=GU
  simp only [(bT _ _).2 e] at GU;exact GU
def J4 (id:Nat):List (Nat×Code)->Bool
 | []=>true
 | (k,c)::r=>match Nat.beq k id with
   | true=>match nS (r.map Prod.fst) id with | true=>false | false=>true
   | false=>J4 id r
theorem cN {id:Nat}:∀{l:List (Nat×Code)},J4 id l=true->∀x∈l,x.1=id->x.2=jv id l
 | [],_,x,h,_=>by cases h
 | (k,c)::r,h,x,hx,he=>by
   simp only [J4] at h;show x.2=match Nat.beq k id with | true=>c | false=>jv id r
   cases hk:Nat.beq k id with
   | true =>
     rw [hk] at h;have hk:=(aG _ _).1 hk;simp only at h ⊢;split at h
     ·cases h
     ·rename_i hn;rcases aaO.1 hx with rfl | hx
      ·rfl
      ·exfalso;have:id∈r.map Prod.fst:=ac0.2 ⟨x,hx,he⟩;rw [(gP _ _).2 this] at hn;cases hn
   | false =>
     rw [hk] at h;simp only at h ⊢;rcases aaO.1 hx with rfl | hx
     ·exact absurd he ((bT _ _).1 hk)
     ·exact cN h x hx he
theorem nv {α:Type} {b:Bool} {t:T α} (h:b=true):(T.aE b t).val=t.val:=by subst h;rfl
theorem oX {α:Type} {c:Bool} {t u:T α} (h:c=true):(T.ite c t u).val=t.val:=by subst h;rfl
theorem oY {α:Type} {c:Bool} {t u:T α} (h:c=false):(T.ite c t u).val=u.val:=by subst h;rfl
theorem Qc {N:eI AV} {nt:Nat} {E E':Ev} {H:Hp AV} {ks:List Nat} {n:Nat} {c c':aK AV} (hn:af H n=some c) (hl:iM N c c') (R8:c'.cellsOf=[])
 (hE:∀k∈ks,Sx.aJ E' k=Sx.aJ E k \/ (Sx.aJ E k≠.lU /\ gf H (Sx.aJ E' k) /\ ∀ρ,(Sx.aJ E' k).ay ρ=(Sx.aJ E k).ay ρ)):td N nt {E:=E,H:=H} {E:=only ks E' nt,H:=de H n (some c')}:=fun hc=>by
 have hlt:=b7 hn;have get:∀m,af (de H n (some c')) m=if m=n then some c' else af H m:=fun m=>by
  by_cases h2:m=n
  ·subst h2;rw [if_pos rfl,cG _ hlt]
  ·rw [if_neg h2,bz _ fun e=>h2 e.symm]
 have dC:∀m d,af H m=some d->∃d',af (de H n (some c')) m=some d':=fun m d h=>by
  rw [get];by_cases h2:m=n
  ·rw [if_pos h2];exact⟨_,rfl⟩
  ·rw [if_neg h2];exact⟨d,h⟩
 have su:∀m d,af (de H n (some c')) m=some d->∃d',af H m=some d' /\ (∀ρ w,d'.q N ρ m w->d.q N ρ m w) /\ ∀ρ k,d.fp ρ m k↔d'.fp ρ m k:=fun m d h=>by
  rw [get] at h;split at h
  ·rename_i e;subst e;cases h;exact⟨_,hn,fun ρ w hq=>(hl ρ m w).1 hq,fun ρ k=>(hl ρ m default).2 k⟩
  ·exact⟨d,h,fun _ _ h=>h,fun _ _=>Iff.rfl⟩
 refine⟨⟨fun k=>?_,fun m x hx=>?_⟩,by show H.length<=(de H n _).length;rw [eB];exact ab4 _,fun ρ a w bG=>⟨ρ,⟨⟨bG.em.size,fun k hk=>?_⟩,?_⟩,⟨dC,fun _ _ _=>rfl,fun m hm h=>?_,by show H.length<=(de H n _).length;rw [eB];exact ab4 _,fun _ _ _=>rfl,fun m d k h hk=>?_,rfl,rfl,rfl,ab4 _⟩⟩⟩
 ·show gf (de H n (some c')) (Sx.aJ (only ks E' nt) k);simp only [jd];split
  ·cases hh:nS ks k with
   | false=>trivial
   | true =>
     rcases hE k ((gP _ _).1 hh) with e | ⟨_,e,_⟩
     ·simp only [e];exact(hc.E k).mono fun m d h=>dC m d h
     ·exact e.mono fun m d h=>dC m d h
  ·exact mG _
 ·have Ko:af (de H n (some c')) m=some x:=hx;clear hx;rw [get] at Ko;split at Ko
  ·cases Ko;intro d hd;rw [R8] at hd;cases hd
  ·exact(hc.H m x Ko).mono fun m d h=>dC m d h
 ·have hk:Sx.aJ (only ks E' nt) k≠.lU:=hk;show a.tmps.getD k undef=(Sx.aJ (only ks E' nt) k).ay ρ;simp only [jd] at hk ⊢;split
  ·rename_i PW;rw [if_pos PW] at hk;cases hh:nS ks k with
   | false=>rw [hh] at hk;exact absurd rfl hk
   | true =>
     rw [hh] at hk;simp only at hk ⊢;rcases hE k ((gP _ _).1 hh) with e | ⟨e0,_,e⟩
     ·rw [e] at hk ⊢;exact bG.em.get k hk
     ·rw [e ρ];exact bG.em.get k e0
  ·rename_i PW;have:nt<=k:=by omega
   rw [Array.getD_eq_getD_getElem?,Array.getElem?_eq_none (by rw [bG.em.size];exact this)];rfl
 ·refine bG.own.sub ⟨fun m d h=>?_,fun m m' d d' dE h h' k hk eh=>?_,bG.own.rU⟩ fun m d k h hk=>?_
  ·obtain⟨d',h1,h2,_⟩:=su m d h;exact h2 ρ w (bG.own.q m d' h1)
  ·obtain⟨e,h1,_,h3⟩:=su m d h;obtain⟨e',g1,_,g3⟩:=su m' d' h';exact bG.own.qR m m' e e' dE h1 g1 k ((h3 ρ k).1 hk) ((g3 ρ k).1 eh)
  ·obtain⟨e,h1,_,h3⟩:=su m d h;exact⟨m,e,h1,(h3 ρ k).1 hk⟩
 ·have h:af H m=none:=h;show af (de H n _) m=none;rw [get];split
  ·rename_i e;subst e;rw [h] at hn;cases hn
  ·exact h
 ·obtain⟨e,h1,_,h3⟩:=su m d h;exact .inr ⟨m,e,h1,(h3 ρ k).1 hk⟩
theorem uh {m:Int} (h:-9223372036854775808<=m /\ m<=9223372036854775807):IntKind.wrap .i64 m=m:=by
 unfold IntKind.wrap;simp only [IntKind.bits,IntKind.signed];first | omega | (simp;omega)
theorem qp {N:eI AV} {nt:Nat} {E E':Ev} {H:Hp AV} {ks:List Nat} (hE:∀k∈ks,Sx.aJ E' k=Sx.aJ E k \/ (Sx.aJ E k≠.lU /\ uA (Sx.aJ E' k) /\ ∀ρ,(Sx.aJ E' k).ay ρ=(Sx.aJ E k).ay ρ)):td N nt {E:=E,H:=H} {E:=only ks E' nt,H:=H}:=by
 refine Qb ⟨fun k hk=>?_,fun k hk=>?_⟩ rfl
 ·show Sx.aJ (only ks E' nt) k=_ \/ Sx.aJ (only ks E' nt) k=_ \/ _;simp only [jd,if_pos hk];cases hh:nS ks k with
  | false=>exact .inl rfl
  | true =>
    rcases hE k ((gP _ _).1 hh) with e | ⟨e0,e1,e2⟩
    ·exact .inr (.inl e)
    ·exact .inr (.inr ⟨e0,e1,e2⟩)
 ·show Sx.aJ (only ks E' nt) k=_;rw [jd,if_neg (by omega)]
def tj (M:List Bool) (l:List (aK AV)):Hp AV:=cZ AV.gH 0 M++Jh l
def fw:aK AV->Option AV:=fun _=>none
def uU (lp:Lp) (σ:Sg) (tab:m7) (f:FuncId) (M:List Bool) (args:List SV) (l:List (aK AV)):T (Ex×St AV) :=
 match BP (tj M l) args,qy (tj M l) (tj M l) with
 | true,true=>(Q.lv (iu lp σ) tab 26 (.fn f) args (tj M l)).bind fun r=>ff (M.length+l.length) 1 [0] fw (C8 r)
 | _,_=>.fail "names"
theorem jC (qG:fO Tryz.prog (iu lp σ)) {tab:m7} (ht:dH Tryz.prog (iu lp σ) tab) {f:FuncId} {M:List Bool} (hM:M.length=7) {args:List SV} {l:List (aK AV)} {v:SV} {H':Hp AV} (h:(uU lp σ tab f M args l).val=some (C8 (v,H'))) (hv:v≠.lU) :
 rT Tryz.prog (iu lp σ) f args (tj M l) v H':=by
 unfold uU at h;split at h
 ·rename_i h1 h2;obtain⟨⟨v1,H2⟩,hr,hb⟩:=T.bq h;rw [Q.lv_eq] at hr;have Zb:=(adu qG ht 26 f).ctr hr (qx.1 h1) ⟨jH.1 h2,trivial⟩;have hlen:(tj M l).length=M.length+l.length:=by simp [tj,ij,ad7]
  exact ZS hlen (by show 7<=_;omega) Zb (fun d a h=>by cases h) hv hb
 ·cases h
def mI:Hp AV->Nat->List Bool->Option (Hp AV)
 | H,_,[]=>some H
 | some (.bN a)::r,i,true::M=>match cL a i with | true=>mI r (i+1) M | false=>none
 | none::r,i,false::M=>mI r (i+1) M
 | _,_,_::_=>none
theorem iY:∀{M:List Bool} {H R:Hp AV} {i:Nat},mI H i M=some R->H=cZ AV.gH i M++R
 | [],H,R,i,h=>by simp only [mI,aaf] at h;rw [h];rfl
 | b::M,H,R,i,h=>by
   unfold mI at h;split at h
   ·cases ‹b::M=[]›
   ·rename_i e;cases e;split at h
    ·rename_i hs;rw [iY h,dL _ _ hs];rfl
    ·cases h
   ·rename_i e;cases e;rw [iY h];rfl
   ·cases h
end
section
open Go Go.Sx Go.Proofs
variable {σ:Sg}
def aII:mh (Int×Int) where
 enc x:=[.v (.c (.it .i64 x.1)),.v (.c (.it .i64 x.2))]
 jm:=fun | [.v (.c c),.v (.c d)]=>(match kL c,kL d with | some a,some b=>some (a,b) | _,_=>none) | _=>none
 ok:=fun l a h ρ=>by
  split at h
  ·split at h
   ·rename_i h0 h1;cases h;simp only [aaU,afm,SV.ay,V1.ay,b6 h0 ρ,b6 h1 ρ];rfl
   ·cases h
  ·cases h
 free:=fun _=>rfl
def S8:n5 Ad where
 enc x:=.iW [.agg [.it .i64 x.s,.it .i64 x.g,.it .i64 x.f],.c .fL]
 jm:=fun | .iW [.agg [.it .i64 a,.it .i64 b,.it .i64 c],.c .fL]=>some ⟨a,b,c⟩ | _=>none
 ok:=fun v b h=>by split at h<;>cases h;rfl
def RW (x:Int×Int):Ad:=⟨0,0,25+x.1 * 9+x.2⟩
def afl (t:Int):Ad:=⟨0,0,79+t⟩
def A7 (x:Int×Int):Bool:=decide (0<=x.1 /\ x.1 < 6 /\ 0<=x.2 /\ x.2 < 9)
def A6 (t:Int):Bool:=decide (0<=t /\ t < 6)
theorem anR (σ:Sg) (x:Int×Int):(kG σ b9 102 bS (aII.enc x) []).map (qv S8)=.ite (ll (!(gU (decide (0<=x.1)) (decide (x.1 < 6)))) (ll (decide (x.2 < 0)) (decide (x.2>=9)))) (.fail "load")
 (.aD (some ⟨0,0,IntKind.wrap .i64 (IntKind.wrap .i64 (25+IntKind.wrap .i64 (x.1 * 9))+x.2)⟩)):=by kernel_rfl
theorem amA (σ:Sg) (t:Int):(kG σ b9 77 bS (aI.enc t) []).map (qv S8)=.ite (!(gU (decide (0<=t)) (decide (t < 6)))) (.fail "load") (.aD (some ⟨0,0,IntKind.wrap .i64 (79+t)⟩)):=by kernel_rfl
theorem ml {m:Int} (h:-9223372036854775808<=m /\ m<=9223372036854775807):IntKind.wrap .i64 m=m:=by
 unfold IntKind.wrap;simp only [IntKind.bits,IntKind.signed];first | omega | (simp;omega)
theorem aap {a b:Bool} (ha:a=true) (hb:b=true):gU a b=true:=by subst ha hb;rfl
theorem afz {a b:Bool} (ha:a=false) (hb:b=false):ll a b=false:=by subst ha hb;rfl
theorem acO:cE Tryz.prog (NV σ) 102 (bJ cL bS (xx aII S8 (fun x=>some (A7 x)) RW)) :=
 wT bp rfl fun x h=>⟨aII.enc x,rfl,fun _=>rfl,by
  obtain⟨t,n⟩:=x;have h:0<=t /\ t < 6 /\ 0<=n /\ n < 9:=aaF h;obtain⟨h1,h2,h3,h4⟩:=h;rw [anR,afz (by rw [aap (aaC h1) (aaC h2)];rfl) (afz (aaK (by omega)) (aaK (by omega)))];show some (some (⟨0,0,_⟩:Ad))=_;have e1:IntKind.wrap .i64 (t * 9)=t * 9:=ml (by omega);have e2:IntKind.wrap .i64 (25+t * 9)=25+t * 9:=ml (by omega);have e3:IntKind.wrap .i64 (25+t * 9+n)=25+t * 9+n:=ml (by omega);dsimp only;rw [e1,e2,e3];rfl⟩
theorem abB:cE Tryz.prog (NV σ) 77 (bJ cL bS (xx aI S8 (fun x=>some (A6 x)) afl)) :=
 wT bp rfl fun t h=>⟨aI.enc t,rfl,fun _=>rfl,by
  have h:0<=t /\ t < 6:=aaF h;obtain⟨h1,h2⟩:=h;rw [amA,aap (aaC h1) (aaC h2)];show some (some (⟨0,0,_⟩:Ad))=_;have e1:IntKind.wrap .i64 (79+t)=79+t:=ml (by omega);rw [e1];rfl⟩
end
section
open Go Go.Sx Go.Proofs
variable {σ:Sg}
def H9.get (s:H9) (n:Int):W:=if n=0 then s.h0 else if n=1 then s.h1 else if n=2 then s.h2 else if n=3 then s.h3 else if n=4 then s.h4 else if n=5 then s.h5 else if n=6 then s.h6 else if n=7 then s.h7 else s.h8
def H9.put (s:H9) (n:Int) (w:W):H9:=if n=0 then {s with h0:=w} else if n=1 then {s with h1:=w} else if n=2 then {s with h2:=w} else if n=3 then {s with h3:=w} else if n=4 then {s with h4:=w}
 else if n=5 then {s with h5:=w} else if n=6 then {s with h6:=w} else if n=7 then {s with h7:=w} else {s with h8:=w}
structure RT where
 m:ax
 ls:Nat
 ld:Nat
 ln:Nat
def CI:n5 Unit where
 enc _:=.v (.c .fL)
 jm:=fun | .v (.c .fL)=>some () | _=>none
 ok:=fun v b h=>by split at h<;>cases h;rfl
def Ip (r:RT):Bool:=match decide (r.ls=r.m.seen.length) with
 | true=>(match decide (r.ld=r.m.aS.length) with
   | true=>(match decide (r.ln=r.m.notes.length) with | true=>true | false=>false)
   | false=>false)
 | false=>false
def tR (r:RT):T (Option (Unit×ax)):=.aE (Ip r) (.aD (some ((),r.m)))
def Mv:pB:=⟨0,0,0,0,aq,aq⟩
def isZero (w:W):Bool:=w.ae==0&&(w.gen==0&&(w.tag==0&&(w.bU==0&&w.mark==false)))
def eqW (a b:W):Bool:=a.ae==b.ae&&(a.gen==b.gen&&(a.tag==b.tag&&(a.bU==b.bU&&a.mark==b.mark)))
def Pc (s:Sp):Bool:=s.is==false&&(s.Cj==0&&s.Ks==0)
def fF (s:Int) (a:pB) (r:RT):RT:={r with m:={r.m with step:=s,acc:=a}}
def eo (s:Int) (a:Ad) (r:RT):RT:=fF s ⟨1,a.s,a.g,a.f,aq,aq⟩ r
def dA (x:cJ) (r:RT):RT:={r with m:={r.m with call:=bf,step:=0,acc:=Mv,word:=aq,clock:=aq,index:=0,seen:=[],aS:=[],bD:=x},ls:=0,ld:=0}
def lz:Ad:=bc 24
section
variable {β:Type} (I:Bool->β->β->β) (N:Bool->β->β) (L:RT->β)
def kU (r:RT):β:=L (dA ⟨aq,true⟩ r)
def uY (s n:Int) (w:W) (r:RT):β:=N (A7 (r.m.me,n)) (L (fF s ⟨2,0,0,25+r.m.me * 9+n,aq,w⟩ {r with m:={r.m with holds:=H9.put r.m.holds n w}}))
def kH (s:Int) (sp:Sp) (w:W) (r:RT):β:=N (A6 r.m.me) (L (fF s ⟨2,0,0,79+r.m.me,aq,w⟩ {r with m:={r.m with span:=sp}}))
def qV (r:RT):Nat->Int->β
 | 0,_=>kU L r
 | k+1,n=>I (!isZero (H9.get r.m.holds n)) (uY N L 4 n aq {r with m:={r.m with index:=n}}) (qV r k (n+1))
def nM (n:Nat) (r:RT):β :=
 if r.m.au=4 \/ r.m.au=5 then I (!Pc r.m.span) (kH N L 2 ⟨false,0,0⟩ aq r) (kU L r)
 else if r.m.au=2 \/ r.m.au=3 then qV I N L r (9 - n) n else kU L r
def gK (x:cJ) (r:RT):β :=
 if r.m.step=7 then L (eo 5 r.m.call.dh r)
 else if r.m.step=5 then
  (if r.m.au=3 \/ r.m.au=5 then L (eo 6 lz {r with m:={r.m with word:=x.w}})
  else if r.m.au=2 then
   I (gU (!(x.w.ae==0)) (!eqW (H9.get r.m.holds r.m.call.i) (dB x.w))) (uY N L 7 r.m.call.i (dB x.w) {r with m:={r.m with word:=x.w}}) (L (dA ⟨x.w,true⟩ r))
  else L (dA ⟨x.w,true⟩ r))
 else if r.m.au=3 then
  I (gU (!isZero (H9.get r.m.holds r.m.call.i)) ((H9.get r.m.holds r.m.call.i).bU==x.w.bU)) (L (dA ⟨r.m.word,true⟩ r)) (uY N L 7 r.m.call.i (dZ x.w.bU) r)
 else
  I (gU r.m.span.is (r.m.span.Ks==x.w.bU)) (L (dA ⟨r.m.word,true⟩ r))
    (I r.m.span.is (kH N L 7 ⟨true,r.m.span.Cj,x.w.bU⟩ ⟨0,0,x.w.bU,r.m.span.Cj,true⟩ r) (kH N L 7 ⟨true,x.w.bU,x.w.bU⟩ ⟨0,0,x.w.bU,x.w.bU,true⟩ r))
def jD (x:cJ) (r:RT):β :=
 if r.m.step=1 then L (dA x r)
 else if r.m.step=2 then kU L r
 else if r.m.step=3 then kH N L 2 ⟨true,x.w.bU,x.w.bU⟩ ⟨0,0,x.w.bU,x.w.bU,true⟩ r
 else if r.m.step=4 then nM I N L (r.m.index+1).toNat r
 else if r.m.step=8 then L (fF 1 ⟨4,0,0,0,aq,dZ x.w.bU⟩ r)
 else gK I N L x r
end
def Ly:m7:=br 102 (bJ cL bS (xx aII S8 (fun x=>some (A7 x)) RW)) (br 77 (bJ cL bS (xx aI S8 (fun x=>some (A6 x)) afl)) b9)
theorem DY:dH Tryz.prog (NV σ) Ly:=aH acO (aH abB bp)
def W5 (σ:Sg) (ks:List Nat) (m:ax) (x:cJ):T (Option (Unit×ax)):=(gJ σ Ly 31 bS (nD.enc x) (jn m) fQ (ks.foldl (fun g k=>dp k g) (ax.wr m)) []).map (lA CI iA)
end
section
open Go Go.Sx Go.Proofs
variable {σ:Sg}
section
variable {β:Type} (I:Bool->β->β->β) (N:Bool->β->β) (L:RT->β)
def j8 (c:Cl) (r:RT):β :=
 if c.aj=1 then(if r.m.au=4 \/ r.m.au=5 then L (eo 3 lz r) else kU L r)
 else if c.aj=2 then nM I N L 0 r
 else if c.aj=3 then L (eo 1 c.dh r)
 else if c.aj=4 then L (fF 1 ⟨2,c.dh.s,c.dh.g,c.dh.f,c.dy,c.new⟩ r)
 else if c.aj=5 then L (fF 1 ⟨3,c.dh.s,c.dh.g,c.dh.f,c.dy,c.new⟩ r)
 else if c.aj=6 then L (eo 5 c.dh r)
 else if c.aj=7 then(if r.m.au=2 \/ r.m.au=3 then I (!eqW (H9.get r.m.holds c.i) (H9.get r.m.holds c.j)) (uY N L 2 c.i (H9.get r.m.holds c.j) r) (kU L r) else kU L r)
 else if c.aj=8 then(if r.m.au=3 \/ r.m.au=5 then L (eo 8 lz r) else L (fF 1 ⟨4,0,0,0,aq,aq⟩ r))
 else if c.aj=9 then L (fF 2 ⟨5,0,0,0,c.dy,aq⟩ r)
 else if c.aj=10 then(if r.m.au=4 then L (eo 10 lz r) else if r.m.au=3 \/ r.m.au=5 then L (eo 9 ⟨c.dy.ae,c.dy.gen,9⟩ r) else kU L r)
 else(if r.m.au=4 then L (eo 12 lz r) else kU L r)
end
def aCl:mh Cl where
 enc c:=[.v (.agg (Dw (Cl.wr c)))]
 jm:=fun | [.v (.agg cs)]=>(match Cl.rd ((CP cs).map .p) with | some (c,[])=>some c | _=>none) | _=>none
 ok:=fun l a h ρ=>by
  split at h
  ·split at h
   ·rename_i hc;cases h;have:=Cl.ia hc;rw [aeF] at this;rw [<- this,rn];simp only [aaU,afm,SV.ay,V1.ay,vn]
   ·cases h
  ·cases h
 free:=fun _=>rfl
end
section
open Go Go.Sx Go.Proofs
variable {σ:Sg}
section
variable {β:Type} (I:Bool->β->β->β) (N:Bool->β->β) (L:RT->β)
def lI (n:Int) (r:RT) (k:β):β :=
 if r.m.au=2 \/ r.m.au=3 then I (decide (n>=IntKind.wrap .i64 (r.m.dk * 9))) k (N true (N true (N (A7 (IntKind.wrap .i64 (Int.tdiv n 9),Int.tmod n 9)) (L (fF 13 ⟨1,0,0,(RW (IntKind.wrap .i64 (Int.tdiv n 9),Int.tmod n 9)).f,aq,aq⟩ {r with m:={r.m with index:=n}})))))
 else I (decide (n>=r.m.dk)) k (N (A6 n) (L (fF 13 ⟨1,0,0,79+n,aq,aq⟩ {r with m:={r.m with index:=n}})))
def xI (r:RT):β :=
 if r.m.au=1 then kU L r else if r.m.au=4 then L (eo 12 lz r) else lI I N L 0 r (L r)
def HA (σ:Sg) (r:RT):Bool:=decide (r.ln=gX.len (F6 σ) (AV.notes r.m.notes) /\ (r.ln+1) * (SI.bytes abD+1)<=zF)
def Ep (Ah Cu:Int) (r:RT):RT:={r with m:={r.m with notes:=r.m.notes++[⟨r.m.call.dy.ae,r.m.call.dy.gen,0,0,false,Ah,Cu⟩]},ln:=r.ln+1}
def mb (r:RT):β:=I (decide ((r.ln:Int)>=r.m.most)) (xI I N L r) (kU L r)
def ahD (σ:Sg) (x:cJ) (r:RT):β :=
 if r.m.step=9 then L (eo 10 lz {r with m:={r.m with word:=x.w}})
 else if r.m.step=10 then N (HA σ r) (
  if r.m.au=3 \/ r.m.au=5 then L (fF 11 ⟨3,0,0,24,x.w,fH x.w 1⟩ (Ep r.m.word.bU x.w.bU {r with m:={r.m with clock:=x.w}}))
  else mb I N L (Ep r.m.word.bU x.w.bU {r with m:={r.m with clock:=x.w}}))
 else if r.m.step=11 then mb I N L r
 else if r.m.step=12 then lI I N L 0 {r with m:={r.m with clock:=x.w}} (L {r with m:={r.m with clock:=x.w}})
 else L (eo 15 lz r)
end
def cC (c:Cl) (r:RT):RT:={r with m:={r.m with call:=c,step:=0,acc:=Mv,word:=aq,clock:=aq,index:=0,seen:=[],aS:=[]},ls:=0,ld:=0}
def agv (σ:Sg) (m:ax) (c:Cl) (t:T (Option (Unit×ax))):Prop:=∃gs args,o9 σ (jn m)=some (gk AV.len fQ (jl gs)) /\ jq args=true /\ (∀ρ:Nm,args.map (SV.ay ρ)=(aCl.enc c).map (SV.ay ρ)) /\
 (gJ σ Ly 54 bS args (jn m) fQ gs []).map (lA CI iA)=t
theorem bgK {m:ax} {c:Cl} {t:T (Option (Unit×ax))} (ks kc:List Nat) (h1:o9 σ (jn m)=some (gk AV.len fQ (jl (ks.foldl (fun g k=>dp k g) (ax.wr m))))) (h3:∀ρ:Nm,([.v (.agg (Dw (kc.foldl (fun g k=>dp k g) (Cl.wr c))))]:List SV).map (SV.ay ρ)=(aCl.enc c).map (SV.ay ρ))
 (h2:jq [.v (.agg (Dw (kc.foldl (fun g k=>dp k g) (Cl.wr c))))]=true) (h4:(gJ σ Ly 54 bS [.v (.agg (Dw (kc.foldl (fun g k=>dp k g) (Cl.wr c))))] (jn m) fQ (ks.foldl (fun g k=>dp k g) (ax.wr m)) []).map (lA CI iA)=t):agv σ m c t:=⟨_,_,h1,h2,h3,h4⟩
end
section
open Go Go.Sx Go.Proofs
variable {σ:Sg}
section
variable {β:Type} (I:Bool->β->β->β) (N:Bool->β->β) (L:RT->β)
def fW (sz:RT->Bool) (c:Cl) (r:RT):β :=
 if c.aj=10 /\ r.m.au=2 then N (sz r) (mb I N L (Ep 0 0 r))
 else if c.aj=11 /\ (r.m.au=2 \/ r.m.au=3 \/ r.m.au=5) then xI I N L r
 else j8 I N L c r
end
def dI (m:ax):RT:=⟨m,m.seen.length,m.aS.length,m.notes.length⟩
def bj (m:ax) (c:Cl):ax:=fW cond (fun _ t=>t) RT.m (fun _=>true) c (cC c (dI m))
def vh (i j:Int):Prop:=(i=1 /\ j=0) \/ (i=2 /\ j=1) \/ (i=4 /\ j=3) \/ (i=5 /\ j=4) \/ (i=7 /\ j=6) \/ (i=8 /\ j=7) \/ (i=2 /\ j=5) \/ (i=5 /\ j=8)
instance (i j:Int):Decidable (vh i j):=by unfold vh;infer_instance
def yh (c:Cl):Prop:=c.aj=1 \/ c.aj=2 \/ c.aj=3 \/ c.aj=4 \/ c.aj=5 \/ (c.aj=6 /\ 0<=c.i /\ c.i < 9 /\ c.j=0) \/ (c.aj=7 /\ vh c.i c.j) \/ c.aj=8 \/ c.aj=9 \/ c.aj=10 \/ c.aj=11
instance (c:Cl):Decidable (yh c):=by unfold yh;infer_instance
def TY (m:ax):Prop:=1<=m.au /\ m.au<=5 /\ 0<=m.me /\ m.me < 6 /\ m.notes.length<=100000
instance (m:ax):Decidable (TY m):=by unfold TY;infer_instance
def G5 (m:ax) (c:Cl):Bool:=decide (m.step=0 /\ TY m /\ yh c)
def avd (σ:Sg) (m:ax) (c:Cl):Prop:=agv σ m c (fW tI tN tR (HA σ) c (cC c (dI m)))
theorem ahu (σ:Sg) (m:ax) (c:Cl) (h:G5 m c=true):avd σ m c:=by
 obtain⟨h0,h1,h2⟩:=aaF h;obtain⟨cl,st,acc,wd,xA,ix,seen,aS,e,me,nA,xv,holds,span,notes,dS,bD⟩:=m;obtain⟨k,dh,dy,new,i,j,qB⟩:=c;dsimp only [TY,yh] at h0 h1 h2;subst h0;have he:e=1 \/ e=2 \/ e=3 \/ e=4 \/ e=5:=by omega
 clear h h1;rcases h2 with rfl | rfl | rfl | rfl | rfl | ⟨rfl,h3,h4,rfl⟩ | ⟨rfl,h3⟩ | rfl | rfl | rfl | rfl
 ·rcases he with rfl | rfl | rfl | rfl | rfl<;>exact bgK [18,46] [0] (by kernel_rfl) (fun _=>by kernel_rfl) (by kernel_rfl) (by kernel_rfl)
 ·rcases he with rfl | rfl | rfl | rfl | rfl<;>exact bgK [18,46] [0] (by kernel_rfl) (fun _=>by kernel_rfl) (by kernel_rfl) (by kernel_rfl)
 ·exact bgK [18] [0] (by kernel_rfl) (fun _=>by kernel_rfl) (by kernel_rfl) (by kernel_rfl)
 ·exact bgK [18] [0] (by kernel_rfl) (fun _=>by kernel_rfl) (by kernel_rfl) (by kernel_rfl)
 ·exact bgK [18] [0] (by kernel_rfl) (fun _=>by kernel_rfl) (by kernel_rfl) (by kernel_rfl)
 ·rcases (by omega:i=0 \/ i=1 \/ i=2 \/ i=3 \/ i=4 \/ i=5 \/ i=6 \/ i=7 \/ i=8) with rfl | rfl | rfl | rfl | rfl | rfl | rfl | rfl | rfl<;>exact bgK [18] [0,14,15] (by kernel_rfl) (fun _=>by kernel_rfl) (by kernel_rfl) (by kernel_rfl)
 ·rcases h3 with⟨rfl,rfl⟩ | ⟨rfl,rfl⟩ | ⟨rfl,rfl⟩ | ⟨rfl,rfl⟩ | ⟨rfl,rfl⟩ | ⟨rfl,rfl⟩ | ⟨rfl,rfl⟩ | ⟨rfl,rfl⟩<;>rcases he with rfl | rfl | rfl | rfl | rfl<;>exact bgK [18,46] [0,14,15] (by kernel_rfl) (fun _=>by kernel_rfl) (by kernel_rfl) (by kernel_rfl)
 ·rcases he with rfl | rfl | rfl | rfl | rfl<;>exact bgK [18,46] [0] (by kernel_rfl) (fun _=>by kernel_rfl) (by kernel_rfl) (by kernel_rfl)
 ·exact bgK [18] [0] (by kernel_rfl) (fun _=>by kernel_rfl) (by kernel_rfl) (by kernel_rfl)
 ·rcases he with rfl | rfl | rfl | rfl | rfl<;>exact bgK [18,46] [0] (by kernel_rfl) (fun _=>by kernel_rfl) (by kernel_rfl) (by kernel_rfl)
 ·rcases he with rfl | rfl | rfl | rfl | rfl<;>exact bgK [18,46] [0] (by kernel_rfl) (fun _=>by kernel_rfl) (by kernel_rfl) (by kernel_rfl)
theorem Du {r:RT} (h1:r.ls=r.m.seen.length) (h2:r.ld=r.m.aS.length) (h3:r.ln=r.m.notes.length):Ip r=true:=by unfold Ip;rw [aaC h1,aaC h2,aaC h3]
theorem vR {r:RT} (h1:r.ls=r.m.seen.length) (h2:r.ld=r.m.aS.length) (h3:r.ln=r.m.notes.length):(tR r).val=some (some ((),r.m)):=by unfold tR;rw [Du h1 h2 h3];rfl
def ji (r:RT):Prop:=r.ls=r.m.seen.length /\ r.ld=r.m.aS.length /\ r.ln=r.m.notes.length
def gC (t:T (Option (Unit×ax))) (m:ax):Prop:=t.val=some (some ((),m))
theorem jB {r:RT} (h:ji r):gC (tR r) r.m:=vR h.1 h.2.1 h.2.2
theorem DT {b:Bool} {t e:T (Option (Unit×ax))} {x y:ax} (h1:gC t x) (h2:gC e y):gC (tI b t e) (cond b x y):=by cases b<;>assumption
theorem nu {b:Bool} {t:T (Option (Unit×ax))} {x:ax} (h:b=true) (h1:gC t x):gC (tN b t) x:=by subst h;exact h1
theorem eM {c:Prop} [Decidable c] {t e:T (Option (Unit×ax))} {x y:ax} (h1:c->gC t x) (h2:¬c->gC e y):gC (if c then t else e) (if c then x else y):=by
 split
 ·exact h1 ‹_›
 ·exact h2 ‹_›
theorem qh {x:cJ} {r:RT} (h:ji r):ji (dA x r):=⟨rfl,rfl,h.2.2⟩
theorem Fk {b d:Int} {r:RT} (h:ji r):ji (Ep b d r):=⟨h.1,h.2.1,by
 show r.ln+1=(r.m.notes++[_]).length;rw [aaP,h.2.2];rfl⟩
theorem lV {r:RT} (h:ji r):gC (kU tR r) (kU RT.m r):=jB (qh h)
theorem C7 {s n:Int} {w:W} {r:RT} (h:ji r) (hk:A7 (r.m.me,n)=true):gC (uY tN tR s n w r) (uY (fun _ t=>t) RT.m s n w r):=nu hk (jB h)
theorem JH {s:Int} {sp:Sp} {w:W} {r:RT} (h:ji r) (hk:A6 r.m.me=true):gC (kH tN tR s sp w r) (kH (fun _ t=>t) RT.m s sp w r):=nu hk (jB h)
theorem sL {t n:Int} (h1:0<=t) (h2:t < 6) (h3:0<=n) (h4:n < 9):A7 (t,n)=true:=aaC ⟨h1,h2,h3,h4⟩
theorem sK {t:Int} (h1:0<=t) (h2:t < 6):A6 t=true:=aaC ⟨h1,h2⟩
theorem Hq {r:RT} (h:ji r) (h1:0<=r.m.me) (h2:r.m.me < 6):∀(k:Nat) (n:Int),0<=n->n+k<=9->gC (qV tI tN tR r k n) (qV cond (fun _ t=>t) RT.m r k n)
 | 0,n,_,_=>lV h
 | k+1,n,hn,hk=>DT (C7 (r:={r with m:={r.m with index:=n}}) h (sL h1 h2 hn (by omega))) (Hq h h1 h2 k (n+1) (by omega) (by omega))
theorem Lu {r:RT} (h:ji r) (h1:0<=r.m.me) (h2:r.m.me < 6) (n:Nat) (hn:n<=9):gC (nM tI tN tR n r) (nM cond (fun _ t=>t) RT.m n r):=by unfold nM;exact eM (fun _=>DT (JH h (sK h1 h2)) (lV h)) fun _=>eM (fun _=>Hq h h1 h2 _ _ (by omega) (by omega)) fun _=>lV h
theorem VM {r:RT} (h:ji r):gC (lI tI tN tR 0 r (tR r)) (lI cond (fun _ t=>t) RT.m 0 r r.m):=by unfold lI;exact eM (fun _=>DT (jB h) (nu rfl (nu rfl (nu (by decide) (jB (r:=fF 13 _ {r with m:={r.m with index:=0}}) h))))) fun _=>DT (jB h) (nu (by decide) (jB (r:=fF 13 _ {r with m:={r.m with index:=0}}) h))
theorem QQ {r:RT} (h:ji r):gC (xI tI tN tR r) (xI cond (fun _ t=>t) RT.m r):=by unfold xI;exact eM (fun _=>lV h) fun _=>eM (fun _=>jB h) fun _=>VM h
theorem DS {r:RT} (h:ji r):gC (mb tI tN tR r) (mb cond (fun _ t=>t) RT.m r):=DT (QQ h) (lV h)
theorem Q8 {r:RT} (h:ji r) (hn:r.m.notes.length<=100000):HA σ r=true:=by unfold HA;refine aaC ⟨h.2.2,?_⟩;rw [h.2.2];exact abz (ac2 _ (afu hn)) (by decide)
theorem abh {c:Cl} {r:RT} (h:ji r) (h1:0<=r.m.me) (h2:r.m.me < 6) (hc:c.aj=7->0<=c.i /\ c.i < 9):gC (j8 tI tN tR c r) (j8 cond (fun _ t=>t) RT.m c r):=by
 unfold j8;refine eM (fun _=>eM (fun _=>jB h) fun _=>lV h) fun _=>eM (fun _=>Lu h h1 h2 0 (by omega)) fun _=>eM (fun _=>jB h) fun _=>eM (fun _=>jB h) fun _=>eM (fun _=>jB h) fun _=>eM (fun _=>jB h) fun _ =>
  eM (fun h7=>eM (fun _=>DT (C7 h (sL h1 h2 (hc h7).1 (hc h7).2)) (lV h)) fun _=>lV h) fun _=>eM (fun _=>eM (fun _=>jB h) fun _=>jB h) fun _=>eM (fun _=>jB h) fun _ =>
  eM (fun _=>eM (fun _=>jB h) fun _=>eM (fun _=>jB h) fun _=>lV h) fun _=>eM (fun _=>jB h) fun _=>lV h
theorem VN {c:Cl} {r:RT} (h:ji r) (h1:0<=r.m.me) (h2:r.m.me < 6) (hn:r.m.notes.length<=100000) (hc:c.aj=7->0<=c.i /\ c.i < 9):gC (fW tI tN tR (HA σ) c r) (fW cond (fun _ t=>t) RT.m (fun _=>true) c r):=by unfold fW;exact eM (fun _=>nu (Q8 h hn) (DS (Fk h))) fun _=>eM (fun _=>QQ h) fun _=>abh h h1 h2 hc
theorem Gg:cE Tryz.prog (NV σ) 54 (bJ cL bS (fS aCl CI iA (fun m c=>some (G5 m c)) (fun m c=>((),bj m c)))) :=
 lJ DY rfl fun m c h=>by
  obtain⟨gs,args,e1,e2,e3,e4⟩:=ahu σ m c h;obtain⟨h0,hm,hk⟩:=aaF (h:G5 m c=true);refine⟨fQ,gs,e1,args,e2,e3,?_⟩;rw [e4];exact VN (r:=cC c (dI m)) ⟨rfl,rfl,rfl⟩ hm.2.2.1 hm.2.2.2.1 hm.2.2.2.2 (fun h7=>by
   unfold yh at hk;rcases hk with h | h | h | h | h | h | h | h | h | h | h;all_goals try omega
   obtain⟨_,h⟩:=h;unfold vh at h;omega)
end
section
open Go Go.Sx Go.Proofs
variable {σ:Sg}
def Lf:mh Unit where
 enc _:=[]
 jm:=fun | []=>some () | _=>none
 ok:=fun l a h ρ=>by split at h<;>cases h;rfl
 free:=fun _=>rfl
def C5:n5 Bool where
 enc b:=.v (.c (.bt b))
 jm:=fun | .v (.c (.bt b))=>some b | _=>none
 ok:=fun v b h=>by split at h<;>cases h;rfl
def vRp:n5 cJ where
 enc x:=.v (.agg (Dw (cJ.wr x)))
 jm:=fun | .v (.agg cs)=>(match cJ.rd (cs.map .p) with | some (c,[])=>some c | _=>none) | _=>none
 ok:=fun v b h=>by
  split at h
  ·split at h
   ·rename_i hc;cases h;have:=cJ.ia hc;rw [aeF] at this;rw [<- this,rn]
   ·cases h
  ·cases h
def agT:n5 (pB×Bool) where
 enc c:=.iW [.agg (Dw (pB.wr c.1)),.c (.bt c.2)]
 jm:=fun | .iW [.agg cs,.c (.bt b)]=>(match pB.rd (cs.map .p) with | some (c,[])=>some (c,b) | _=>none) | _=>none
 ok:=fun v b h=>by
  split at h
  ·split at h
   ·rename_i hc;cases h;have:=pB.ia hc;rw [aeF] at this;rw [<- this,rn]
   ·cases h
  ·cases h
def gT (m:ax):Bool:=!(m.step==0)
def gw (m:ax):pB×Bool:=cond (!gT m) (Mv,false) (m.acc,true)
def tV {β:Type} (v:β) (m:ax):T (Option (β×ax)):=.aE (Ip (dI m)) (.aD (some (v,m)))
theorem vV {β:Type} (v:β) (m:ax):(tV v m).val=some (some (v,m)):=by unfold tV;rw [Du rfl rfl rfl];rfl
theorem abL (σ:Sg) (m:ax):(gJ σ b9 30 bS [] (jn m) fQ (ax.wr m) []).map (lA agT iA)=tI (!gT m) (tV (Mv,false) m) (tV (m.acc,true) m):=by kernel_rfl
theorem TC:cE Tryz.prog (NV σ) 30 (bJ cL bS (fS Lf agT iA (fun _ _=>none) (fun m _=>(gw m,m)))) :=
 lJ bp rfl fun m x _=>⟨fQ,ax.wr m,rfl,[],rfl,fun _=>rfl,by
  rw [abL];unfold gw;cases h:gT m
  ·exact vV _ _
  ·exact vV _ _⟩
theorem Xc (σ:Sg) (m:ax):(gJ σ b9 56 bS [] (jn m) fQ (ax.wr m) []).map (lA vRp iA)=tV m.bD m:=by kernel_rfl
theorem Ph:cE Tryz.prog (NV σ) 56 (bJ cL bS (fS Lf vRp iA (fun _ _=>none) (fun m _=>(m.bD,m)))) :=
 lJ bp rfl fun m x _=>⟨fQ,ax.wr m,rfl,[],rfl,fun _=>rfl,by rw [Xc];exact vV _ _⟩
theorem abM (σ:Sg) (m:ax):(gJ σ b9 55 bS [] (jn m) fQ (ax.wr m) []).map (lA C5 iA)=tV (gT m) m:=by kernel_rfl
theorem wM:cE Tryz.prog (NV σ) 55 (bJ cL bS (fS Lf C5 iA (fun _ _=>none) (fun m _=>(gT m,m)))) :=
 lJ bp rfl fun m x _=>⟨fQ,ax.wr m,rfl,[],rfl,fun _=>rfl,by rw [abM];exact vV _ _⟩
