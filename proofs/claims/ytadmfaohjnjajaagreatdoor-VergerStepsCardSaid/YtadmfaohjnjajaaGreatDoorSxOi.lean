import Derived.Test.YtadmfaohjnjajaaGreatDoorRn
import Derived.Test.YtadmfaohjnjajaaGreatDoorPb
import Derived.Test.YtadmfaohjnjajaaGreatDoorOr
set_option linter.unusedVariables false
set_option linter.unusedSimpArgs false
set_option maxHeartbeats 0
set_option maxRecDepth 100000
noncomputable section
namespace Go.Sx
variable {AV:Type} {P:Program} {N:dV AV}
theorem vm.own {L nt:Nat} {s t:St AV} {π:Nat->Nat} (h:vm N L nt s t π) {ρ:Nm} {w:World} (ho:eZ N ρ s.H w):eZ N (ρ.cN π) t.H w:=by
 refine⟨⟨fun n c hc=>?_,fun n m c d tH hc hd k hk dW=>?_,fun g hg=>?_⟩,ho.ro.1,fun n c k hc hk=>?_⟩
 ·obtain⟨d,g1,g2⟩:=h.H n c hc
  exact KY.1 ((g2 ρ (π n) w).1 (ho.q _ _ g1))
 ·obtain⟨c',g1,g2⟩:=h.H n c hc
  obtain⟨d',g3,g4⟩:=h.H m d hd
  rw [<- oK] at hk dW
  exact ho.qz (π n) (π m) _ _ (fun e=>tH (h.inj n m c d hc hd e)) g1 g3 k (((g2 ρ (π n) w).2 k).1 hk) (((g4 ρ (π m) w).2 k).1 dW)
 ·show ρ (π g)=g
  rw [h.fix g (by have:=h.G;omega)]
  exact ho.qW g hg
 ·obtain⟨d,g1,g2⟩:=h.H n c hc
  rw [<- oK] at hk
  exact ho.ro.2 (π n) _ k g1 (((g2 ρ (π n) w).2 k).1 hk)
def Di (r:SV×Hp AV):Ex×St AV:=(.ret,{E:=only [0] [(0,r.1)] 1,H:=r.2})
theorem Yk {L:Nat} {f:FuncId} {args:List SV} {H H2:Hp AV} {v:SV} (hL:H.length=L) (hG:N.G<=L) (hc:qT P N f args H v H2) {pk:aG AV->Option AV} (zH:∀d a,pk d=some a->∀π,ig N (d.cN π) (.bI a))
 {v':SV} {H':Hp AV} (hv:v'≠.lE) (hb:(eQ L 1 [0] pk (Di (v,H2))).val=some (Di (v',H'))):qT P N f args H v' H':=by
 subst hL
 obtain⟨_,π,hb⟩:=Ff zH hG hb
 obtain⟨h1,h2,h3⟩:=hc
 have e0:v=v'.cN π:=hb.E 0 (by omega) hv
 refine⟨hb.cl.E 0,⟨hb.cl.H,trivial⟩,fun ρ w hO=>(h3 ρ w hO).mono ?_⟩
 rintro e w' ⟨ρ',rfl,o,ev⟩
 refine⟨ρ'.cN π,?_,hb.own o,hb.evo rfl ev⟩
 rw [e0,SV.lA]
theorem aaH {H:Hp AV} (hC:dM N H) {n:Nat} {l l':List Cell} {ty:TypeId} (hn:ae H n=some (.cells l ty)) {a:AV} {es:Nat} {aty:TypeId} (ha:N.F.fW a=some (es,aty,[]))
 (hl:∀ρ ρ':Nm,(∀m,m < H.length->ρ'.L m=ρ.L m)->ρ'.L H.length=⟨0,0,0⟩->aA ρ' l'=aA ρ l) (hG:N.G<=H.length):MU N H (cV H n (some (.cells l' ty))++eN [a]):=fun ρ w hO=>by
 have du:=bQ hn
 have get:∀m,ae (cV H n (some (.cells l' ty))++eN [a]) m=if m < H.length then(if m=n then some (.cells l' ty) else ae H m) else if m=H.length then some (.bI a) else none:=fun m=>by
  rw [bo,ec]
  by_cases h1:m < H.length
  ·rw [if_pos h1,if_pos h1]
   by_cases h2:m=n
   ·subst h2;rw [if_pos rfl,cg _ h1]
   ·rw [if_neg h2,bp _ fun e=>h2 e.symm]
  ·rw [if_neg h1,if_neg h1]
   by_cases h2:m=H.length
   ·subst h2;rw [if_pos rfl,Nat.sub_self];rfl
   ·rw [if_neg h2]
    obtain⟨k,hk⟩:∃k,m - H.length=k+1:=⟨m - H.length - 1,by omega⟩
    rw [hk];rfl
 let ρ':Nm:=⟨fun m=>if m < H.length then ρ.L m else⟨0,0,0⟩,fun m=>if m < H.length then ρ.S m else fun _=>False⟩
 have eL:∀m,m < H.length->ρ'.L m=ρ.L m:=fun m h=>if_pos h
 have eS:∀m,m < H.length->ρ'.S m=ρ.S m:=fun m h=>if_pos h
 have eL0:ρ'.L H.length=⟨0,0,0⟩:=if_neg (by omega)
 have eS0:ρ'.S H.length=fun _=>False:=if_neg (by omega)
 have agr:∀m c,ae H m=some c->ρ'.L m=ρ.L m:=fun m c h=>eL m (bQ h)
 have fp0:∀m c k,ae (cV H n (some (.cells l' ty))++eN [a]) m=some c->c.fp ρ' m k->∃d,ae H m=some d /\ d.fp ρ m k:=fun m c k hc hk=>by
  rw [get] at hc
  split at hc
  ·rename_i h1
   split at hc
   ·rename_i h2
    cases hc
    subst h2
    rw [cQ (eL _ h1) (eS _ h1)] at hk
    exact⟨_,hn,hk⟩
   ·rw [cQ (eL m h1) (eS m h1)] at hk
    exact⟨c,hc,hk⟩
  ·split at hc
   ·rename_i h2
    cases hc
    subst h2
    have hk:ρ'.S H.length k:=hk
    rw [eS0] at hk
    exact hk.elim
   ·cases hc
 refine⟨ρ',hO.sub ⟨fun m c hc=>?_,fun m m' c d dA hc hd k hk dW=>?_,fun g hg=>?_⟩ fun m c k hc hk=>?_,fun m h=>eL m h,fun m d k hd hk=>?_⟩
 ·rw [get] at hc
  split at hc
  ·rename_i h1
   split at hc
   ·rename_i h2
    cases hc
    subst h2
    have hq:=hO.q _ _ hn
    have e:=hl ρ ρ' eL eL0
    have hf:ρ' m=ρ m:=by simp only [Nm.f,eL m h1]
    show w.heap[ρ' m]?=_
    rw [hf,e]
    exact hq
   ·exact oF (hO.q m c hc) (eL m h1) (eS m h1) (dF (hC.1 m c hc) fun x y hy=>agr x y hy) (fun _ _=>rfl)
  ·split at hc
   ·rename_i h2
    cases hc
    subst h2
    show N.F.q a _ _ _
    rw [eL0,eS0]
    exact((N.F.mJ a _ _ _ ha).2 _ _ _).2 (.inl ⟨adr _,rfl,fun k h=>h⟩)
   ·cases hc
 ·obtain⟨c',h1,h2⟩:=fp0 m c k hc hk
  obtain⟨d',h3,h4⟩:=fp0 m' d k hd dW
  exact hO.qz m m' c' d' dA h1 h3 k h2 h4
 ·show (ρ'.L g).b=g
  rw [eL g (by omega)]
  exact hO.qW g hg
 ·obtain⟨c',h1,h2⟩:=fp0 m c k hc hk
  exact⟨m,c',h1,h2⟩
 ·obtain⟨c',h1,h2⟩:=fp0 m d k hd hk
  exact⟨m,c',h1,h2⟩
end Go.Sx

namespace Go.Proofs.YtadmfaohjnjajaaGreatDoor
section
open Go Go.Sx Go.Proofs
abbrev Lp:=FuncId->Nat->Option (St AV->T (Ex×St AV))
def jr:Lp:=fun _ _=>none
def hP (lp:Lp) (σ:Sg):dV AV:={tt:=tt,ft:=ft,gu:=gu,G:=7,F:=F6 σ,hv:=hvG (F6 σ) Z2 7,lp:=lp,mt:=mtF,sl:=Z2}
variable {σ:Sg} {lp:Lp}
theorem apZ:fD Tryz.prog (hP lp σ):=by
 obtain⟨a,b,c,d,e⟩:=rH (σ:=σ)
 exact⟨a,b,c,d,e⟩
theorem aqv:Tp Tryz.prog (hP lp σ):=Xi Z3 rfl
theorem kT {N N':dV AV} (hF:N'.F=N.F) (hG:N'.G=N.G) {f:FuncId} {g:List SV->Hp AV->T (SV×Hp AV)} (h:cD Tryz.prog N f g):cD Tryz.prog N' f g:=fun args H v H' hr ha hC=>by
 obtain⟨h1,h2,h3⟩:=h args H v H' hr ha ⟨hC.1,trivial⟩
 refine⟨h1,⟨h2.1,trivial⟩,fun ρ w hO=>(h3 ρ w (nO hF.symm hG.symm hO)).mono ?_⟩
 rintro e w' ⟨ρ',he,o,ev⟩
 exact⟨ρ',he,nO hF hG o,zf N' ev⟩
theorem abN (qd:fH Tryz.prog (hP lp σ)) {tab:mK} (ht:dB Tryz.prog (hP lp σ) tab) (n:Nat) (f:FuncId):cD Tryz.prog (hP lp σ) f (lv (hP lp σ) tab n (.fn f)):=adW apZ qd aqv ht n f
theorem B3 {tab:mK} (h:dB Tryz.prog (NV σ) tab):dB Tryz.prog (hP lp σ) tab:=fun f g hg=>kT (N:=NV σ) (N':=hP lp σ) rfl rfl (h f g hg)
theorem ou:fH Tryz.prog (hP jr σ):=fun f fn c _ _ id b _ g hg=>by cases hg
def ia (id:Nat):List (Nat×Code)->Code
 | []=>.skip
 | (k,c)::r=>match Nat.beq k id with | true=>c | false=>ia id r
def eM (fn:Func):Code:=match fn.body with | some c=>c | none=>.skip
theorem D6 {P:Program} {N N':dV AV} (hF:N'.F=N.F) (hG:N'.G=N.G) {nt:Nat} {c:Code} {g:St AV->T (Ex×St AV)} (h:fY P N nt c g):fY P N' nt c g:=by
 intro L s s' ex hg hcl hL
 obtain⟨h1,h2,h3⟩:=h L s s' ex hg (sM N hcl) hL
 refine⟨sM N' h1,h2,fun {ρ a w} bC=>?_⟩
 refine wp_mono (h3 ⟨bC.em,nO hF.symm hG.symm bC.own⟩) ?_
 rintro e a' w' ⟨he,⟨ρ',e1,o1,v1⟩,d1⟩
 exact⟨he,⟨ρ',e1,nO hF hG o1,zf N' v1⟩,d1⟩
def lV (f id:Nat) (g:St AV->T (Ex×St AV)) (lp:Lp):Lp:=fun f'=>match Nat.beq f' f with
 | true=>fun J6=>match Nat.beq J6 id with
   | true=>some g
   | false=>lp f' J6
 | false=>lp f'
theorem lM {f id:Nat} {g:St AV->T (Ex×St AV)} {lp:Lp} (h:fH Tryz.prog (hP lp σ)) {fn:Func} (hf:ft.get f=some fn) {c:Code} (hc:fn.body=some c) {nt:Nat} (hnt:fn.ntmps=nt) {b:Code} (hb:∀x∈cA c,x.1=id->x.2=b) (hg:fY Tryz.prog (hP lp σ) nt b g):fH Tryz.prog (hP (lV f id g lp) σ):=by
 intro f' fn' c' hf' nC J6 b' M1 g' FJ
 have FJ:lV f id g lp f' J6=some g':=FJ
 have cU:lp f' J6=some g'->fY Tryz.prog (hP (lV f id g lp) σ) fn'.ntmps b' g':=fun h1=>D6 (N:=hP lp σ) (N':=hP (lV f id g lp) σ) rfl rfl (h f' fn' c' hf' nC J6 b' M1 g' h1)
 by_cases e:f'=f
 ·subst e
  by_cases e2:J6=id
  ·subst e2
   have FJ:(match Nat.beq f' f' with
    | true=>fun id=>match Nat.beq id J6 with
      | true=>some g
      | false=>lp f' id
    | false=>lp f') J6=some g':=FJ
   simp only [agu] at FJ
   cases FJ
   have hf':ft.get f'=some fn':=hf'
   rw [hf] at hf'
   cases hf'
   rw [hc] at nC
   cases nC
   have hbb:b'=b:=hb _ M1 rfl
   rw [hnt,hbb]
   exact D6 (N:=hP lp σ) (N':=hP (lV f' J6 g lp) σ) rfl rfl hg
  ·refine cU ?_
   have FJ:(match Nat.beq f' f' with
    | true=>fun J6=>match Nat.beq J6 id with
      | true=>some g
      | false=>lp f' J6
    | false=>lp f') J6=some g':=FJ
   simp only [agu,(bE _ _).2 e2] at FJ
   exact FJ
 ·refine cU ?_
  have FJ:(match Nat.beq f' f with
   | true=>fun J6=>match Nat.beq J6 id with
     | true=>some g
     | false=>lp f' J6
   | false=>lp f') J6=some g':=FJ
  simp only [(bE _ _).2 e] at FJ
  exact FJ
def I9 (id:Nat):List (Nat×Code)->Bool
 | []=>true
 | (k,c)::r=>match Nat.beq k id with
   | true=>match nD (r.map Prod.fst) id with | true=>false | false=>true
   | false=>I9 id r
theorem cE {id:Nat}:∀{l:List (Nat×Code)},I9 id l=true->∀x∈l,x.1=id->x.2=ia id l
 | [],_,x,h,_=>by cases h
 | (k,c)::r,h,x,hx,he=>by
   simp only [I9] at h
   show x.2=match Nat.beq k id with | true=>c | false=>ia id r
   cases hk:Nat.beq k id with
   | true =>
     rw [hk] at h
     have hk:=(aC _ _).1 hk
     simp only at h ⊢
     split at h
     ·cases h
     ·rename_i hn
      rcases abk.1 hx with rfl | hx
      ·rfl
      ·exfalso
       have:id∈r.map Prod.fst:=adK.2 ⟨x,hx,he⟩
       rw [(gw _ _).2 this] at hn
       cases hn
   | false =>
     rw [hk] at h
     simp only at h ⊢
     rcases abk.1 hx with rfl | hx
     ·exact absurd he ((bE _ _).1 hk)
     ·exact cE h x hx he
theorem nv {α:Type} {b:Bool} {t:T α} (h:b=true):(T.aJ b t).val=t.val:=by subst h;rfl
theorem tG {α:Type} {c:Bool} {t u:T α} (h:c=true):(T.ite c t u).val=t.val:=by subst h;rfl
theorem wG {α:Type} {c:Bool} {t u:T α} (h:c=false):(T.ite c t u).val=u.val:=by subst h;rfl
theorem OH {N:dV AV} {nt:Nat} {E E':Ev} {H:Hp AV} {ks:List Nat} {n:Nat} {c c':aG AV} (hn:ae H n=some c) (hl:ig N c c') (F8:c'.cellsOf=[])
 (hE:∀k∈ks,Sx.aF E' k=Sx.aF E k \/ (Sx.aF E k≠.lE /\ fh H (Sx.aF E' k) /\ ∀ρ,(Sx.aF E' k).aq ρ=(Sx.aF E k).aq ρ)):rX N nt {E:=E,H:=H} {E:=only ks E' nt,H:=cV H n (some c')}:=fun hc=>by
 have du:=bQ hn
 have get:∀m,ae (cV H n (some c')) m=if m=n then some c' else ae H m:=fun m=>by
  by_cases h2:m=n
  ·subst h2;rw [if_pos rfl,cg _ du]
  ·rw [if_neg h2,bp _ fun e=>h2 e.symm]
 have dw:∀m d,ae H m=some d->∃d',ae (cV H n (some c')) m=some d':=fun m d h=>by
  rw [get]
  by_cases h2:m=n
  ·rw [if_pos h2];exact⟨_,rfl⟩
  ·rw [if_neg h2];exact⟨d,h⟩
 have rq:∀m d,ae (cV H n (some c')) m=some d->∃d',ae H m=some d' /\ (∀ρ w,d'.q N ρ m w->d.q N ρ m w) /\ ∀ρ k,d.fp ρ m k↔d'.fp ρ m k:=fun m d h=>by
  rw [get] at h
  split at h
  ·rename_i e
   subst e
   cases h
   exact⟨_,hn,fun ρ w hq=>(hl ρ m w).1 hq,fun ρ k=>(hl ρ m default).2 k⟩
  ·exact⟨d,h,fun _ _ h=>h,fun _ _=>Iff.rfl⟩
 refine⟨⟨fun k=>?_,fun m x hx=>?_⟩,by show H.length<=(cV H n _).length;rw [ec];exact abV _,fun ρ a w bC=>⟨ρ,⟨⟨bC.em.size,fun k hk=>?_⟩,?_⟩,⟨dw,fun _ _ _=>rfl,fun m hm h=>?_,by show H.length<=(cV H n _).length;rw [ec];exact abV _,fun _ _ _=>rfl,fun m d k h hk=>?_,rfl,rfl,rfl,abV _⟩⟩⟩
 ·show fh (cV H n (some c')) (Sx.aF (only ks E' nt) k)
  simp only [iF]
  split
  ·cases hh:nD ks k with
   | false=>trivial
   | true =>
     rcases hE k ((gw _ _).1 hh) with e | ⟨_,e,_⟩
     ·simp only [e];exact(hc.E k).mono fun m d h=>dw m d h
     ·exact e.mono fun m d h=>dw m d h
  ·exact mf _
 ·have Jt:ae (cV H n (some c')) m=some x:=hx
  clear hx
  rw [get] at Jt
  split at Jt
  ·cases Jt
   intro d hd;rw [F8] at hd;cases hd
  ·exact(hc.H m x Jt).mono fun m d h=>dw m d h
 ·have hk:Sx.aF (only ks E' nt) k≠.lE:=hk
  show a.tmps.getD k undef=(Sx.aF (only ks E' nt) k).aq ρ
  simp only [iF] at hk ⊢
  split
  ·rename_i Jx
   rw [if_pos Jx] at hk
   cases hh:nD ks k with
   | false=>rw [hh] at hk;exact absurd rfl hk
   | true =>
     rw [hh] at hk
     simp only at hk ⊢
     rcases hE k ((gw _ _).1 hh) with e | ⟨e0,_,e⟩
     ·rw [e] at hk ⊢;exact bC.em.get k hk
     ·rw [e ρ];exact bC.em.get k e0
  ·rename_i Jx
   have:nt<=k:=by omega
   rw [Array.getD_eq_getD_getElem?,Array.getElem?_eq_none (by rw [bC.em.size];exact this)]
   rfl
 ·refine bC.own.sub ⟨fun m d h=>?_,fun m m' d d' dA h h' k hk dW=>?_,bC.own.qW⟩ fun m d k h hk=>?_
  ·obtain⟨d',h1,h2,_⟩:=rq m d h
   exact h2 ρ w (bC.own.q m d' h1)
  ·obtain⟨e,h1,_,h3⟩:=rq m d h
   obtain⟨e',g1,_,g3⟩:=rq m' d' h'
   exact bC.own.qz m m' e e' dA h1 g1 k ((h3 ρ k).1 hk) ((g3 ρ k).1 dW)
  ·obtain⟨e,h1,_,h3⟩:=rq m d h
   exact⟨m,e,h1,(h3 ρ k).1 hk⟩
 ·have h:ae H m=none:=h
  show ae (cV H n _) m=none
  rw [get]
  split
  ·rename_i e;subst e;rw [h] at hn;cases hn
  ·exact h
 ·obtain⟨e,h1,_,h3⟩:=rq m d h
  exact .inr ⟨m,e,h1,(h3 ρ k).1 hk⟩
theorem CP {m:Int} (h:-9223372036854775808<=m /\ m<=9223372036854775807):IntKind.wrap .i64 m=m:=by
 unfold IntKind.wrap
 simp only [IntKind.bits,IntKind.signed]
 first | omega | (simp;omega)
theorem rS {N:dV AV} {nt:Nat} {E E':Ev} {H:Hp AV} {ks:List Nat} (hE:∀k∈ks,Sx.aF E' k=Sx.aF E k \/ (Sx.aF E k≠.lE /\ tm (Sx.aF E' k) /\ ∀ρ,(Sx.aF E' k).aq ρ=(Sx.aF E k).aq ρ)):rX N nt {E:=E,H:=H} {E:=only ks E' nt,H:=H}:=by
 refine OG ⟨fun k hk=>?_,fun k hk=>?_⟩ rfl
 ·show Sx.aF (only ks E' nt) k=_ \/ Sx.aF (only ks E' nt) k=_ \/ _
  simp only [iF,if_pos hk]
  cases hh:nD ks k with
  | false=>exact .inl rfl
  | true =>
    rcases hE k ((gw _ _).1 hh) with e | ⟨e0,e1,e2⟩
    ·exact .inr (.inl e)
    ·exact .inr (.inr ⟨e0,e1,e2⟩)
 ·show Sx.aF (only ks E' nt) k=_
  rw [iF,if_neg (by omega)]
def s9 (M:List Bool) (l:List (aG AV)):Hp AV:=cS AV.gk 0 M++Ic l
def eV:aG AV->Option AV:=fun _=>none
def wC (lp:Lp) (σ:Sg) (tab:mK) (f:FuncId) (M:List Bool) (args:List SV) (l:List (aG AV)):T (Ex×St AV) :=
 match Bc (s9 M l) args,p6 (s9 M l) (s9 M l) with
 | true,true=>(Q.lv (hP lp σ) tab 26 (.fn f) args (s9 M l)).bind fun r=>eQ (M.length+l.length) 1 [0] eV (Di r)
 | _,_=>.fail "names"
theorem jK (qd:fH Tryz.prog (hP lp σ)) {tab:mK} (ht:dB Tryz.prog (hP lp σ) tab) {f:FuncId} {M:List Bool} (hM:M.length=7) {args:List SV} {l:List (aG AV)} {v:SV} {H':Hp AV} (h:(wC lp σ tab f M args l).val=some (Di (v,H'))) (hv:v≠.lE) :
 qT Tryz.prog (hP lp σ) f args (s9 M l) v H':=by
 unfold wC at h
 split at h
 ·rename_i h1 h2
  obtain⟨⟨v1,H2⟩,hr,hb⟩:=T.bf h
  rw [Q.lv_eq] at hr
  have XD:=(abN qd ht 26 f).ctr hr (p5.1 h1) ⟨jh.1 h2,trivial⟩
  have hlen:(s9 M l).length=M.length+l.length:=by simp [s9,gg,acp]
  exact Yk hlen (by show 7<=_;omega) XD (fun d a h=>by cases h) hv hb
 ·cases h
def mZ:Hp AV->Nat->List Bool->Option (Hp AV)
 | H,_,[]=>some H
 | some (.bI a)::r,i,true::M=>match cJ a i with | true=>mZ r (i+1) M | false=>none
 | none::r,i,false::M=>mZ r (i+1) M
 | _,_,_::_=>none
theorem jj:∀{M:List Bool} {H R:Hp AV} {i:Nat},mZ H i M=some R->H=cS AV.gk i M++R
 | [],H,R,i,h=>by
   simp only [mZ,aaC] at h
   rw [h];rfl
 | b::M,H,R,i,h=>by
   unfold mZ at h
   split at h
   ·cases ‹b::M=[]›
   ·rename_i e
    cases e
    split at h
    ·rename_i hs
     rw [jj h,dE _ _ hs];rfl
    ·cases h
   ·rename_i e
    cases e
    rw [jj h];rfl
   ·cases h
end
section
open Go Go.Sx Go.Proofs
variable {σ:Sg}
def aII:l9 (Int×Int) where
 bx x:=[.v (.c (.it .i64 x.1)),.v (.c (.it .i64 x.2))]
 iM:=fun | [.v (.c c),.v (.c d)]=>(match j6 c,j6 d with | some a,some b=>some (a,b) | _,_=>none) | _=>none
 ok:=fun l a h ρ=>by
  split at h
  ·split at h
   ·rename_i h0 h1
    cases h
    simp only [abv,aeU,SV.aq,V1.aq,cB h0 ρ,cB h1 ρ];rfl
   ·cases h
  ·cases h
 free:=fun _=>rfl
def Ra:nL Ad where
 bx x:=.ji [.agg [.it .i64 x.s,.it .i64 x.g,.it .i64 x.f],.c .fL]
 iM:=fun | .ji [.agg [.it .i64 a,.it .i64 b,.it .i64 c],.c .fL]=>some ⟨a,b,c⟩ | _=>none
 ok:=fun v b h=>by split at h<;>cases h;rfl
def Qe (x:Int×Int):Ad:=⟨0,0,25+x.1 * 9+x.2⟩
def adD (t:Int):Ad:=⟨0,0,79+t⟩
def Af (x:Int×Int):Bool:=decide (0<=x.1 /\ x.1 < 6 /\ 0<=x.2 /\ x.2 < 9)
def Ae (t:Int):Bool:=decide (0<=t /\ t < 6)
theorem alE (σ:Sg) (x:Int×Int):(kN σ ca 102 bL (aII.bx x) []).map (pZ Ra)=.ite (lL (!(gC (decide (0<=x.1)) (decide (x.1 < 6)))) (lL (decide (x.2 < 0)) (decide (x.2>=9)))) (.fail "load")
 (.aE (some ⟨0,0,IntKind.wrap .i64 (IntKind.wrap .i64 (25+IntKind.wrap .i64 (x.1 * 9))+x.2)⟩)):=by kernel_rfl
theorem akj (σ:Sg) (t:Int):(kN σ ca 77 bL (aI.bx t) []).map (pZ Ra)=.ite (!(gC (decide (0<=t)) (decide (t < 6)))) (.fail "load") (.aE (some ⟨0,0,IntKind.wrap .i64 (79+t)⟩)):=by kernel_rfl
theorem lR {m:Int} (h:-9223372036854775808<=m /\ m<=9223372036854775807):IntKind.wrap .i64 m=m:=by
 unfold IntKind.wrap
 simp only [IntKind.bits,IntKind.signed]
 first | omega | (simp;omega)
theorem YV {a b:Bool} (ha:a=true) (hb:b=true):gC a b=true:=by subst ha hb;rfl
theorem adR {a b:Bool} (ha:a=false) (hb:b=false):lL a b=false:=by subst ha hb;rfl
theorem abd:cD Tryz.prog (NV σ) 102 (bP cJ bL (zd aII Ra (fun x=>some (Af x)) Qe)) :=
 vQ bn rfl fun x h=>⟨aII.bx x,rfl,fun _=>rfl,by
  obtain⟨t,n⟩:=x
  have h:0<=t /\ t < 6 /\ 0<=n /\ n < 9:=aaV h
  obtain⟨h1,h2,h3,h4⟩:=h
  rw [alE,adR (by rw [YV (aaS h1) (aaS h2)];rfl) (adR (aaZ (by omega)) (aaZ (by omega)))]
  show some (some (⟨0,0,_⟩:Ad))=_
  have e1:IntKind.wrap .i64 (t * 9)=t * 9:=lR (by omega)
  have e2:IntKind.wrap .i64 (25+t * 9)=25+t * 9:=lR (by omega)
  have e3:IntKind.wrap .i64 (25+t * 9+n)=25+t * 9+n:=lR (by omega)
  dsimp only
  rw [e1,e2,e3]
  rfl⟩
theorem Z1:cD Tryz.prog (NV σ) 77 (bP cJ bL (zd aI Ra (fun x=>some (Ae x)) adD)) :=
 vQ bn rfl fun t h=>⟨aI.bx t,rfl,fun _=>rfl,by
  have h:0<=t /\ t < 6:=aaV h
  obtain⟨h1,h2⟩:=h
  rw [akj,YV (aaS h1) (aaS h2)]
  show some (some (⟨0,0,_⟩:Ad))=_
  have e1:IntKind.wrap .i64 (79+t)=79+t:=lR (by omega)
  rw [e1]
  rfl⟩
end
section
open Go Go.Sx Go.Proofs
variable {σ:Sg}
def H9.get (s:H9) (n:Int):W:=if n=0 then s.h0 else if n=1 then s.h1 else if n=2 then s.h2 else if n=3 then s.h3 else if n=4 then s.h4 else if n=5 then s.h5 else if n=6 then s.h6 else if n=7 then s.h7 else s.h8
def H9.put (s:H9) (n:Int) (w:W):H9:=if n=0 then {s with h0:=w} else if n=1 then {s with h1:=w} else if n=2 then {s with h2:=w} else if n=3 then {s with h3:=w} else if n=4 then {s with h4:=w}
 else if n=5 then {s with h5:=w} else if n=6 then {s with h6:=w} else if n=7 then {s with h7:=w} else {s with h8:=w}
structure RT where
 m:au
 ls:Nat
 ld:Nat
 ln:Nat
def B0:nL Unit where
 bx _:=.v (.c .fL)
 iM:=fun | .v (.c .fL)=>some () | _=>none
 ok:=fun v b h=>by split at h<;>cases h;rfl
def y7 (r:RT):Bool:=match decide (r.ls=r.m.seen.length) with
 | true=>(match decide (r.ld=r.m.aP.length) with
   | true=>(match decide (r.ln=r.m.notes.length) with | true=>true | false=>false)
   | false=>false)
 | false=>false
def tR (r:RT):T (Option (Unit×au)):=.aJ (y7 r) (.aE (some ((),r.m)))
def Ld:oU:=⟨0,0,0,0,ao,ao⟩
def isZero (w:W):Bool:=w.af==0&&(w.gen==0&&(w.tag==0&&(w.bS==0&&w.mark==false)))
def eqW (a b:W):Bool:=a.af==b.af&&(a.gen==b.gen&&(a.tag==b.tag&&(a.bS==b.bS&&a.mark==b.mark)))
def NG (s:Sp):Bool:=s.is==false&&(s.BD==0&&s.Jy==0)
def fA (s:Int) (a:oU) (r:RT):RT:={r with m:={r.m with step:=s,acc:=a}}
def dY (s:Int) (a:Ad) (r:RT):RT:=fA s ⟨1,a.s,a.g,a.f,ao,ao⟩ r
def dt (x:cr) (r:RT):RT:={r with m:={r.m with call:=aW,step:=0,acc:=Ld,word:=ao,clock:=ao,index:=0,seen:=[],aP:=[],bz:=x},ls:=0,ld:=0}
def kG:Ad:=aV 24
section
variable {β:Type} (I:Bool->β->β->β) (N:Bool->β->β) (L:RT->β)
def jM (r:RT):β:=L (dt ⟨ao,true⟩ r)
def uf (s n:Int) (w:W) (r:RT):β:=N (Af (r.m.me,n)) (L (fA s ⟨2,0,0,25+r.m.me * 9+n,ao,w⟩ {r with m:={r.m with holds:=H9.put r.m.holds n w}}))
def jX (s:Int) (sp:Sp) (w:W) (r:RT):β:=N (Ae r.m.me) (L (fA s ⟨2,0,0,79+r.m.me,ao,w⟩ {r with m:={r.m with span:=sp}}))
def qp (r:RT):Nat->Int->β
 | 0,_=>jM L r
 | k+1,n=>I (!isZero (H9.get r.m.holds n)) (uf N L 4 n ao {r with m:={r.m with index:=n}}) (qp r k (n+1))
def m9 (n:Nat) (r:RT):β :=
 if r.m.ax=4 \/ r.m.ax=5 then I (!NG r.m.span) (jX N L 2 ⟨false,0,0⟩ ao r) (jM L r)
 else if r.m.ax=2 \/ r.m.ax=3 then qp I N L r (9 - n) n else jM L r
def gm (x:cr) (r:RT):β :=
 if r.m.step=7 then L (dY 5 r.m.call.cW r)
 else if r.m.step=5 then
  (if r.m.ax=3 \/ r.m.ax=5 then L (dY 6 kG {r with m:={r.m with word:=x.w}})
  else if r.m.ax=2 then
   I (gC (!(x.w.af==0)) (!eqW (H9.get r.m.holds r.m.call.i) (dv x.w))) (uf N L 7 r.m.call.i (dv x.w) {r with m:={r.m with word:=x.w}}) (L (dt ⟨x.w,true⟩ r))
  else L (dt ⟨x.w,true⟩ r))
 else if r.m.ax=3 then
  I (gC (!isZero (H9.get r.m.holds r.m.call.i)) ((H9.get r.m.holds r.m.call.i).bS==x.w.bS)) (L (dt ⟨r.m.word,true⟩ r)) (uf N L 7 r.m.call.i (dX x.w.bS) r)
 else
  I (gC r.m.span.is (r.m.span.Jy==x.w.bS)) (L (dt ⟨r.m.word,true⟩ r))
    (I r.m.span.is (jX N L 7 ⟨true,r.m.span.BD,x.w.bS⟩ ⟨0,0,x.w.bS,r.m.span.BD,true⟩ r) (jX N L 7 ⟨true,x.w.bS,x.w.bS⟩ ⟨0,0,x.w.bS,x.w.bS,true⟩ r))
def jd (x:cr) (r:RT):β :=
 if r.m.step=1 then L (dt x r)
 else if r.m.step=2 then jM L r
 else if r.m.step=3 then jX N L 2 ⟨true,x.w.bS,x.w.bS⟩ ⟨0,0,x.w.bS,x.w.bS,true⟩ r
 else if r.m.step=4 then m9 I N L (r.m.index+1).toNat r
 else if r.m.step=8 then L (fA 1 ⟨4,0,0,0,ao,dX x.w.bS⟩ r)
 else gm I N L x r
end
def Ku:mK:=bA 102 (bP cJ bL (zd aII Ra (fun x=>some (Af x)) Qe)) (bA 77 (bP cJ bL (zd aI Ra (fun x=>some (Ae x)) adD)) ca)
theorem C6:dB Tryz.prog (NV σ) Ku:=aK abd (aK Z1 bn)
def Vi (σ:Sg) (ks:List Nat) (m:au) (x:cr):T (Option (Unit×au)):=(gL σ Ku 31 bL (mW.bx x) (gV m) fg (ks.foldl (fun g k=>dh k g) (au.wr m)) []).map (kV B0 gW)
end
section
open Go Go.Sx Go.Proofs
variable {σ:Sg}
section
variable {β:Type} (I:Bool->β->β->β) (N:Bool->β->β) (L:RT->β)
def jA (c:Cl) (r:RT):β :=
 if c.aj=1 then(if r.m.ax=4 \/ r.m.ax=5 then L (dY 3 kG r) else jM L r)
 else if c.aj=2 then m9 I N L 0 r
 else if c.aj=3 then L (dY 1 c.cW r)
 else if c.aj=4 then L (fA 1 ⟨2,c.cW.s,c.cW.g,c.cW.f,c.cU,c.new⟩ r)
 else if c.aj=5 then L (fA 1 ⟨3,c.cW.s,c.cW.g,c.cW.f,c.cU,c.new⟩ r)
 else if c.aj=6 then L (dY 5 c.cW r)
 else if c.aj=7 then(if r.m.ax=2 \/ r.m.ax=3 then I (!eqW (H9.get r.m.holds c.i) (H9.get r.m.holds c.j)) (uf N L 2 c.i (H9.get r.m.holds c.j) r) (jM L r) else jM L r)
 else if c.aj=8 then(if r.m.ax=3 \/ r.m.ax=5 then L (dY 8 kG r) else L (fA 1 ⟨4,0,0,0,ao,ao⟩ r))
 else if c.aj=9 then L (fA 2 ⟨5,0,0,0,c.cU,ao⟩ r)
 else if c.aj=10 then(if r.m.ax=4 then L (dY 10 kG r) else if r.m.ax=3 \/ r.m.ax=5 then L (dY 9 ⟨c.cU.af,c.cU.gen,9⟩ r) else jM L r)
 else(if r.m.ax=4 then L (dY 12 kG r) else jM L r)
end
def aCl:l9 Cl where
 bx c:=[.v (.agg (FM (Cl.wr c)))]
 iM:=fun | [.v (.agg cs)]=>(match Cl.rd ((B6 cs).map .p) with | some (c,[])=>some c | _=>none) | _=>none
 ok:=fun l a h ρ=>by
  split at h
  ·split at h
   ·rename_i hc
    cases h
    have:=Cl.gK hc
    rw [aeJ] at this
    rw [<- this,qy]
    simp only [abv,aeU,SV.aq,V1.aq,uz]
   ·cases h
  ·cases h
 free:=fun _=>rfl
end
section
open Go Go.Sx Go.Proofs
variable {σ:Sg}
section
variable {β:Type} (I:Bool->β->β->β) (N:Bool->β->β) (L:RT->β)
def kO (n:Int) (r:RT) (k:β):β :=
 if r.m.ax=2 \/ r.m.ax=3 then I (decide (n>=IntKind.wrap .i64 (r.m.cR * 9))) k (N true (N true (N (Af (IntKind.wrap .i64 (Int.tdiv n 9),Int.tmod n 9)) (L (fA 13 ⟨1,0,0,(Qe (IntKind.wrap .i64 (Int.tdiv n 9),Int.tmod n 9)).f,ao,ao⟩ {r with m:={r.m with index:=n}})))))
 else I (decide (n>=r.m.cR)) k (N (Ae n) (L (fA 13 ⟨1,0,0,79+n,ao,ao⟩ {r with m:={r.m with index:=n}})))
def sV (r:RT):β :=
 if r.m.ax=1 then jM L r else if r.m.ax=4 then L (dY 12 kG r) else kO I N L 0 r (L r)
def Gw (σ:Sg) (r:RT):Bool:=decide (r.ln=iL.len (F6 σ) (AV.notes r.m.notes) /\ (r.ln+1) * (SI.bytes U2+1)<=qU)
def Dy (zv BM:Int) (r:RT):RT:={r with m:={r.m with notes:=r.m.notes++[⟨r.m.call.cU.af,r.m.call.cU.gen,0,0,false,zv,BM⟩]},ln:=r.ln+1}
def lI (r:RT):β:=I (decide ((r.ln:Int)>=r.m.most)) (sV I N L r) (jM L r)
def afQ (σ:Sg) (x:cr) (r:RT):β :=
 if r.m.step=9 then L (dY 10 kG {r with m:={r.m with word:=x.w}})
 else if r.m.step=10 then N (Gw σ r) (
  if r.m.ax=3 \/ r.m.ax=5 then L (fA 11 ⟨3,0,0,24,x.w,fx x.w 1⟩ (Dy r.m.word.bS x.w.bS {r with m:={r.m with clock:=x.w}}))
  else lI I N L (Dy r.m.word.bS x.w.bS {r with m:={r.m with clock:=x.w}}))
 else if r.m.step=11 then lI I N L r
 else if r.m.step=12 then kO I N L 0 {r with m:={r.m with clock:=x.w}} (L {r with m:={r.m with clock:=x.w}})
 else L (dY 15 kG r)
end
def bX (c:Cl) (r:RT):RT:={r with m:={r.m with call:=c,step:=0,acc:=Ld,word:=ao,clock:=ao,index:=0,seen:=[],aP:=[]},ls:=0,ld:=0}
def aeP (σ:Sg) (m:au) (c:Cl) (t:T (Option (Unit×au))):Prop:=∃gs args,o4 σ (gV m)=some (fP AV.len fg (iQ gs)) /\ jy args=true /\ (∀ρ:Nm,args.map (SV.aq ρ)=(aCl.bx c).map (SV.aq ρ)) /\
 (gL σ Ku 54 bL args (gV m) fg gs []).map (kV B0 gW)=t
theorem YI {m:au} {c:Cl} {t:T (Option (Unit×au))} (ks kc:List Nat) (h1:o4 σ (gV m)=some (fP AV.len fg (iQ (ks.foldl (fun g k=>dh k g) (au.wr m))))) (h3:∀ρ:Nm,([.v (.agg (FM (kc.foldl (fun g k=>dh k g) (Cl.wr c))))]:List SV).map (SV.aq ρ)=(aCl.bx c).map (SV.aq ρ))
 (h2:jy [.v (.agg (FM (kc.foldl (fun g k=>dh k g) (Cl.wr c))))]=true) (h4:(gL σ Ku 54 bL [.v (.agg (FM (kc.foldl (fun g k=>dh k g) (Cl.wr c))))] (gV m) fg (ks.foldl (fun g k=>dh k g) (au.wr m)) []).map (kV B0 gW)=t):aeP σ m c t:=⟨_,_,h1,h2,h3,h4⟩
end
section
open Go Go.Sx Go.Proofs
variable {σ:Sg}
section
variable {β:Type} (I:Bool->β->β->β) (N:Bool->β->β) (L:RT->β)
def fz (sz:RT->Bool) (c:Cl) (r:RT):β :=
 if c.aj=10 /\ r.m.ax=2 then N (sz r) (lI I N L (Dy 0 0 r))
 else if c.aj=11 /\ (r.m.ax=2 \/ r.m.ax=3 \/ r.m.ax=5) then sV I N L r
 else jA I N L c r
end
def dz (m:au):RT:=⟨m,m.seen.length,m.aP.length,m.notes.length⟩
def aX (m:au) (c:Cl):au:=fz cond (fun _ t=>t) RT.m (fun _=>true) c (bX c (dz m))
def uw (i j:Int):Prop:=(i=1 /\ j=0) \/ (i=2 /\ j=1) \/ (i=4 /\ j=3) \/ (i=5 /\ j=4) \/ (i=7 /\ j=6) \/ (i=8 /\ j=7) \/ (i=2 /\ j=5) \/ (i=5 /\ j=8)
instance (i j:Int):Decidable (uw i j):=by unfold uw;infer_instance
def yN (c:Cl):Prop:=c.aj=1 \/ c.aj=2 \/ c.aj=3 \/ c.aj=4 \/ c.aj=5 \/ (c.aj=6 /\ 0<=c.i /\ c.i < 9 /\ c.j=0) \/ (c.aj=7 /\ uw c.i c.j) \/ c.aj=8 \/ c.aj=9 \/ c.aj=10 \/ c.aj=11
instance (c:Cl):Decidable (yN c):=by unfold yN;infer_instance
def R2 (m:au):Prop:=1<=m.ax /\ m.ax<=5 /\ 0<=m.me /\ m.me < 6 /\ m.notes.length<=100000
instance (m:au):Decidable (R2 m):=by unfold R2;infer_instance
def FW (m:au) (c:Cl):Bool:=decide (m.step=0 /\ R2 m /\ yN c)
def asp (σ:Sg) (m:au) (c:Cl):Prop:=aeP σ m c (fz tI tN tR (Gw σ) c (bX c (dz m)))
theorem afI (σ:Sg) (m:au) (c:Cl) (h:FW m c=true):asp σ m c:=by
 obtain⟨h0,h1,h2⟩:=aaV h
 obtain⟨cl,st,acc,wd,wK,ix,seen,aP,e,me,mS,wE,holds,span,notes,dK,bz⟩:=m
 obtain⟨k,cW,cU,new,i,j,p9⟩:=c
 dsimp only [R2,yN] at h0 h1 h2
 subst h0
 have he:e=1 \/ e=2 \/ e=3 \/ e=4 \/ e=5:=by omega
 clear h h1
 rcases h2 with rfl | rfl | rfl | rfl | rfl | ⟨rfl,h3,h4,rfl⟩ | ⟨rfl,h3⟩ | rfl | rfl | rfl | rfl
 ·rcases he with rfl | rfl | rfl | rfl | rfl<;>exact YI [18,46] [0] (by kernel_rfl) (fun _=>by kernel_rfl) (by kernel_rfl) (by kernel_rfl)
 ·rcases he with rfl | rfl | rfl | rfl | rfl<;>exact YI [18,46] [0] (by kernel_rfl) (fun _=>by kernel_rfl) (by kernel_rfl) (by kernel_rfl)
 ·exact YI [18] [0] (by kernel_rfl) (fun _=>by kernel_rfl) (by kernel_rfl) (by kernel_rfl)
 ·exact YI [18] [0] (by kernel_rfl) (fun _=>by kernel_rfl) (by kernel_rfl) (by kernel_rfl)
 ·exact YI [18] [0] (by kernel_rfl) (fun _=>by kernel_rfl) (by kernel_rfl) (by kernel_rfl)
 ·rcases (by omega:i=0 \/ i=1 \/ i=2 \/ i=3 \/ i=4 \/ i=5 \/ i=6 \/ i=7 \/ i=8) with rfl | rfl | rfl | rfl | rfl | rfl | rfl | rfl | rfl<;>exact YI [18] [0,14,15] (by kernel_rfl) (fun _=>by kernel_rfl) (by kernel_rfl) (by kernel_rfl)
 ·rcases h3 with⟨rfl,rfl⟩ | ⟨rfl,rfl⟩ | ⟨rfl,rfl⟩ | ⟨rfl,rfl⟩ | ⟨rfl,rfl⟩ | ⟨rfl,rfl⟩ | ⟨rfl,rfl⟩ | ⟨rfl,rfl⟩<;>rcases he with rfl | rfl | rfl | rfl | rfl<;>exact YI [18,46] [0,14,15] (by kernel_rfl) (fun _=>by kernel_rfl) (by kernel_rfl) (by kernel_rfl)
 ·rcases he with rfl | rfl | rfl | rfl | rfl<;>exact YI [18,46] [0] (by kernel_rfl) (fun _=>by kernel_rfl) (by kernel_rfl) (by kernel_rfl)
 ·exact YI [18] [0] (by kernel_rfl) (fun _=>by kernel_rfl) (by kernel_rfl) (by kernel_rfl)
 ·rcases he with rfl | rfl | rfl | rfl | rfl<;>exact YI [18,46] [0] (by kernel_rfl) (fun _=>by kernel_rfl) (by kernel_rfl) (by kernel_rfl)
 ·rcases he with rfl | rfl | rfl | rfl | rfl<;>exact YI [18,46] [0] (by kernel_rfl) (fun _=>by kernel_rfl) (by kernel_rfl) (by kernel_rfl)
theorem CG {r:RT} (h1:r.ls=r.m.seen.length) (h2:r.ld=r.m.aP.length) (h3:r.ln=r.m.notes.length):y7 r=true:=by
 unfold y7
 rw [aaS h1,aaS h2,aaS h3]
theorem vR {r:RT} (h1:r.ls=r.m.seen.length) (h2:r.ld=r.m.aP.length) (h3:r.ln=r.m.notes.length):(tR r).val=some (some ((),r.m)):=by
 unfold tR
 rw [CG h1 h2 h3]
 rfl
def iJ (r:RT):Prop:=r.ls=r.m.seen.length /\ r.ld=r.m.aP.length /\ r.ln=r.m.notes.length
def gd (t:T (Option (Unit×au))) (m:au):Prop:=t.val=some (some ((),m))
theorem jc {r:RT} (h:iJ r):gd (tR r) r.m:=vR h.1 h.2.1 h.2.2
theorem C1 {b:Bool} {t e:T (Option (Unit×au))} {x y:au} (h1:gd t x) (h2:gd e y):gd (tI b t e) (cond b x y):=by cases b<;>assumption
theorem mO {b:Bool} {t:T (Option (Unit×au))} {x:au} (h:b=true) (h1:gd t x):gd (tN b t) x:=by subst h;exact h1
theorem eA {c:Prop} [Decidable c] {t e:T (Option (Unit×au))} {x y:au} (h1:c->gd t x) (h2:¬c->gd e y):gd (if c then t else e) (if c then x else y):=by
 split
 ·exact h1 ‹_›
 ·exact h2 ‹_›
theorem pN {x:cr} {r:RT} (h:iJ r):iJ (dt x r):=⟨rfl,rfl,h.2.2⟩
theorem Ee {b d:Int} {r:RT} (h:iJ r):iJ (Dy b d r):=⟨h.1,h.2.1,by
 show r.ln+1=(r.m.notes++[_]).length
 rw [abl,h.2.2];rfl⟩
theorem lk {r:RT} (h:iJ r):gd (jM tR r) (jM RT.m r):=jc (pN h)
theorem Cs {s n:Int} {w:W} {r:RT} (h:iJ r) (hk:Af (r.m.me,n)=true):gd (uf tN tR s n w r) (uf (fun _ t=>t) RT.m s n w r):=mO hk (jc h)
theorem IE {s:Int} {sp:Sp} {w:W} {r:RT} (h:iJ r) (hk:Ae r.m.me=true):gd (jX tN tR s sp w r) (jX (fun _ t=>t) RT.m s sp w r):=mO hk (jc h)
theorem rJ {t n:Int} (h1:0<=t) (h2:t < 6) (h3:0<=n) (h4:n < 9):Af (t,n)=true:=aaS ⟨h1,h2,h3,h4⟩
theorem rI {t:Int} (h1:0<=t) (h2:t < 6):Ae t=true:=aaS ⟨h1,h2⟩
theorem Gn {r:RT} (h:iJ r) (h1:0<=r.m.me) (h2:r.m.me < 6):∀(k:Nat) (n:Int),0<=n->n+k<=9->gd (qp tI tN tR r k n) (qp cond (fun _ t=>t) RT.m r k n)
 | 0,n,_,_=>lk h
 | k+1,n,hn,hk=>C1 (Cs (r:={r with m:={r.m with index:=n}}) h (rJ h1 h2 hn (by omega))) (Gn h h1 h2 k (n+1) (by omega) (by omega))
theorem Kq {r:RT} (h:iJ r) (h1:0<=r.m.me) (h2:r.m.me < 6) (n:Nat) (hn:n<=9):gd (m9 tI tN tR n r) (m9 cond (fun _ t=>t) RT.m n r):=by
 unfold m9
 exact eA (fun _=>C1 (IE h (rI h1 h2)) (lk h)) fun _=>eA (fun _=>Gn h h1 h2 _ _ (by omega) (by omega)) fun _=>lk h
theorem T8 {r:RT} (h:iJ r):gd (kO tI tN tR 0 r (tR r)) (kO cond (fun _ t=>t) RT.m 0 r r.m):=by
 unfold kO
 exact eA (fun _=>C1 (jc h) (mO rfl (mO rfl (mO (by decide) (jc (r:=fA 13 _ {r with m:={r.m with index:=0}}) h))))) fun _=>C1 (jc h) (mO (by decide) (jc (r:=fA 13 _ {r with m:={r.m with index:=0}}) h))
theorem Pm {r:RT} (h:iJ r):gd (sV tI tN tR r) (sV cond (fun _ t=>t) RT.m r):=by
 unfold sV
 exact eA (fun _=>lk h) fun _=>eA (fun _=>jc h) fun _=>T8 h
theorem C0 {r:RT} (h:iJ r):gd (lI tI tN tR r) (lI cond (fun _ t=>t) RT.m r):=C1 (Pm h) (lk h)
theorem PB {r:RT} (h:iJ r) (hn:r.m.notes.length<=100000):Gw σ r=true:=by
 unfold Gw
 refine aaS ⟨h.2.2,?_⟩
 rw [h.2.2]
 exact abL (adN _ (afc hn)) (by decide)
theorem ZH {c:Cl} {r:RT} (h:iJ r) (h1:0<=r.m.me) (h2:r.m.me < 6) (hc:c.aj=7->0<=c.i /\ c.i < 9):gd (jA tI tN tR c r) (jA cond (fun _ t=>t) RT.m c r):=by
 unfold jA
 refine eA (fun _=>eA (fun _=>jc h) fun _=>lk h) fun _=>eA (fun _=>Kq h h1 h2 0 (by omega)) fun _=>eA (fun _=>jc h) fun _=>eA (fun _=>jc h) fun _=>eA (fun _=>jc h) fun _=>eA (fun _=>jc h) fun _ =>
  eA (fun h7=>eA (fun _=>C1 (Cs h (rJ h1 h2 (hc h7).1 (hc h7).2)) (lk h)) fun _=>lk h) fun _=>eA (fun _=>eA (fun _=>jc h) fun _=>jc h) fun _=>eA (fun _=>jc h) fun _ =>
  eA (fun _=>eA (fun _=>jc h) fun _=>eA (fun _=>jc h) fun _=>lk h) fun _=>eA (fun _=>jc h) fun _=>lk h
theorem T9 {c:Cl} {r:RT} (h:iJ r) (h1:0<=r.m.me) (h2:r.m.me < 6) (hn:r.m.notes.length<=100000) (hc:c.aj=7->0<=c.i /\ c.i < 9):gd (fz tI tN tR (Gw σ) c r) (fz cond (fun _ t=>t) RT.m (fun _=>true) c r):=by
 unfold fz
 exact eA (fun _=>mO (PB h hn) (C0 (Ee h))) fun _=>eA (fun _=>Pm h) fun _=>ZH h h1 h2 hc
theorem Fa:cD Tryz.prog (NV σ) 54 (bP cJ bL (fZ aCl B0 gW (fun m c=>some (FW m c)) (fun m c=>((),aX m c)))) :=
 mw C6 rfl fun m c h=>by
  obtain⟨gs,args,e1,e2,e3,e4⟩:=afI σ m c h
  obtain⟨h0,hm,hk⟩:=aaV (h:FW m c=true)
  refine⟨fg,gs,e1,args,e2,e3,?_⟩
  rw [e4]
  exact T9 (r:=bX c (dz m)) ⟨rfl,rfl,rfl⟩ hm.2.2.1 hm.2.2.2.1 hm.2.2.2.2 (fun h7=>by
   unfold yN at hk
   rcases hk with h | h | h | h | h | h | h | h | h | h | h
   all_goals try omega
   obtain⟨_,h⟩:=h
   unfold uw at h
   omega)
end
section
open Go Go.Sx Go.Proofs
variable {σ:Sg}
def Kb:l9 Unit where
 bx _:=[]
 iM:=fun | []=>some () | _=>none
 ok:=fun l a h ρ=>by split at h<;>cases h;rfl
 free:=fun _=>rfl
def J2:nL Bool where
 bx b:=.v (.c (.bt b))
 iM:=fun | .v (.c (.bt b))=>some b | _=>none
 ok:=fun v b h=>by split at h<;>cases h;rfl
def vRp:nL cr where
 bx x:=.v (.agg (FM (cr.wr x)))
 iM:=fun | .v (.agg cs)=>(match cr.rd (cs.map .p) with | some (c,[])=>some c | _=>none) | _=>none
 ok:=fun v b h=>by
  split at h
  ·split at h
   ·rename_i hc
    cases h
    have:=cr.gK hc
    rw [aeJ] at this
    rw [<- this,qy]
   ·cases h
  ·cases h
def afb:nL (oU×Bool) where
 bx c:=.ji [.agg (FM (oU.wr c.1)),.c (.bt c.2)]
 iM:=fun | .ji [.agg cs,.c (.bt b)]=>(match oU.rd (cs.map .p) with | some (c,[])=>some (c,b) | _=>none) | _=>none
 ok:=fun v b h=>by
  split at h
  ·split at h
   ·rename_i hc
    cases h
    have:=oU.gK hc
    rw [aeJ] at this
    rw [<- this,qy]
   ·cases h
  ·cases h
def iq (m:au):Bool:=!(m.step==0)
def jB (m:au):oU×Bool:=cond (!iq m) (Ld,false) (m.acc,true)
def tV {β:Type} (v:β) (m:au):T (Option (β×au)):=.aJ (y7 (dz m)) (.aE (some (v,m)))
theorem vV {β:Type} (v:β) (m:au):(tV v m).val=some (some (v,m)):=by
 unfold tV
 rw [CG rfl rfl rfl]
 rfl
theorem aah (σ:Sg) (m:au):(gL σ ca 30 bL [] (gV m) fg (au.wr m) []).map (kV afb gW)=tI (!iq m) (tV (Ld,false) m) (tV (m.acc,true) m):=by kernel_rfl
theorem RI:cD Tryz.prog (NV σ) 30 (bP cJ bL (fZ Kb afb gW (fun _ _=>none) (fun m _=>(jB m,m)))) :=
 mw bn rfl fun m x _=>⟨fg,au.wr m,rfl,[],rfl,fun _=>rfl,by
  rw [aah];unfold jB
  cases h:iq m
  ·exact vV _ _
  ·exact vV _ _⟩
theorem Vq (σ:Sg) (m:au):(gL σ ca 56 bL [] (gV m) fg (au.wr m) []).map (kV vRp gW)=tV m.bz m:=by kernel_rfl
theorem NO:cD Tryz.prog (NV σ) 56 (bP cJ bL (fZ Kb vRp gW (fun _ _=>none) (fun m _=>(m.bz,m)))) :=
 mw bn rfl fun m x _=>⟨fg,au.wr m,rfl,[],rfl,fun _=>rfl,by rw [Vq];exact vV _ _⟩
theorem aai (σ:Sg) (m:au):(gL σ ca 55 bL [] (gV m) fg (au.wr m) []).map (kV J2 gW)=tV (iq m) m:=by kernel_rfl
theorem vG:cD Tryz.prog (NV σ) 55 (bP cJ bL (fZ Kb J2 gW (fun _ _=>none) (fun m _=>(iq m,m)))) :=
 mw bn rfl fun m x _=>⟨fg,au.wr m,rfl,[],rfl,fun _=>rfl,by rw [aai];exact vV _ _⟩
